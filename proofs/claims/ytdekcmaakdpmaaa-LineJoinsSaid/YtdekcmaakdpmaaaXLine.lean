/- package line in the print's form; the law's own 'few'. -/
import Derived.Test.YtdekcmaakdpmaaaXLineC
import Derived.Test.YtdekcmaakdpmaaaXLineD
import Derived.Test.YtdekcmaakdpmaaaXLineE
namespace Go.Proofs.Ytdekcmaakdpmaaa.Q
open Go.RowKit Go.Proofs.YtdekcmaakdpmaaaW.PrintWords Go.Proofs.YtdekcmaakdpmaaaW.PrintLast Go.Proofs.YtdekcmaakdpmaaaW.PrintMore
set_option linter.unusedVariables false
set_option linter.unusedSimpArgs false

set_option maxHeartbeats 1000000 in
theorem scarflaw02_few.at (A : Option Addr) (l : List Int) (c : Nat) (w : World) (hc : l.length ≤ c) (y : List Int) (hy : y = l.take 20000) :
    Calls Try.prog 8 #[.slice A l.length c] w fun e w' => e = .returned (.slice A y.length c) ∧ w = w' := by
  subst hy
  obtain ⟨i0, hi, _, _, _⟩ := info_parts infoL5
  by_cases h : 20000 < l.length
  · have hd : decide (20000 < (l.length : Int)) = true := decide_eq_true (by omega)
    have hl : (l.take 20000).length = 20000 := by rw [List.length_take]; omega
    have hcut := cut_to (P := Try.prog) 22 5 .i64 Try.underlying22 hi A l.length c 20000 (by omega) (by omega) hc
    simp only [Int.reduceToNat] at hcut
    rw [hl]
    have hq : (20000 < l.length) = True := eq_true h
    go_enter Try.func8, Try.ntmps8
    go_wp2
    go_ret
    exact ⟨rfl, rfl⟩
  · have hd : decide (20000 < (l.length : Int)) = false := decide_eq_false (by omega)
    rw [List.take_of_length_le (by omega)]
    have hq : (20000 < l.length) = False := eq_false h
    go_enter Try.func8, Try.ntmps8
    go_wp2
    go_ret
    exact ⟨rfl, rfl⟩
end Go.Proofs.Ytdekcmaakdpmaaa.Q
