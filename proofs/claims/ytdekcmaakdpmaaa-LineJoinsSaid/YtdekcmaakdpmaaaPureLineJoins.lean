/- For any three rows of bytes: parts joined are one behind the other, in any grouping; of two rows of bytes of which the first ends in a newline the lines are those of both: proved of the function's walk. Conditions: none beyond the statement's own. -/
import Derived.Test.YtdekcmaakdpmaaaXJoins
namespace Go.Proofs.Ytdekcmaakdpmaaa.Pure
open Go.RowKit Go.Proofs.Ytdekcmaakdpmaaa.Q Go.Proofs.YtdekcmaakdpmaaaW.PrintWords Go.Proofs.YtdekcmaakdpmaaaW.PrintLast Go.Proofs.YtdekcmaakdpmaaaW.PrintMore

def BytesRow (w : World) (a : Option Addr) (len cap : Nat) (z : List Int) : Prop :=
  (a = none ∧ len = 0 ∧ cap = 0 ∧ z = []) ∨ ∃ x, a = some x ∧ len ≤ cap ∧ cap ≤ maxLen ∧ z.length = cap ∧ (∀ i, i < z.length → w.cell? (x.add i) = some (.int .u8 (z.getD i 0))) ∧ ∀ n ∈ z, (Lit.int .u8 n).wf = true
theorem lineJoins_walk (a0 : Option Addr) (len0 cap0 : Nat) (z0 : List Int) (a1 : Option Addr) (len1 cap1 : Nat) (z1 : List Int) (a2 : Option Addr) (len2 cap2 : Nat) (z2 : List Int) (w : World) (w0 : BytesRow w a0 len0 cap0 z0) (w1 : BytesRow w a1 len1 cap1 z1) (w2 : BytesRow w a2 len2 cap2 z2) :
    Calls Try.prog 7 #[.slice a0 len0 cap0, .slice a1 len1 cap1, .slice a2 len2 cap2] w fun e w' => e = .returned (.bool true) ∧ Below w.heap.size w w' := by
  obtain ⟨l0, rfl, hr0, hm0, hw0, hc0⟩ := ReadsInt.ofRowC w0
  obtain ⟨l1, rfl, hr1, hm1, hw1, hc1⟩ := ReadsInt.ofRowC w1
  obtain ⟨l2, rfl, hr2, hm2, hw2, hc2⟩ := ReadsInt.ofRowC w2
  refine scarflaw02_LineJoins.calls _ _ l0 _ _ l1 _ _ l2 true w (Kd.C_of_reads (d := (0 : Int)) (h1 := fun _ => rfl) hr0) hc0 (Kd.C_of_reads (d := (0 : Int)) (h1 := fun _ => rfl) hr1) hc1 (Kd.C_of_reads (d := (0 : Int)) (h1 := fun _ => rfl) hr2) hc2 ?_
  unfold scarflaw02_LineJoins.f
  rw [bytes_ok hw0, bytes_ok hw1, bytes_ok hw2]
  rfl
end Go.Proofs.Ytdekcmaakdpmaaa.Pure
