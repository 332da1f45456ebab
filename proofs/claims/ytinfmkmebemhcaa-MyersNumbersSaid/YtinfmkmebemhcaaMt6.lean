/- myers.Of: its walk. -/
import Derived.Test.YtinfmkmebemhcaaMt5
namespace Go.Proofs.Ytinfmkmebemhcaa.Lt
open Go.Proofs.YtinfmkmebemhcaaW.Abs Go
set_option maxRecDepth 100000
set_option maxHeartbeats 4000000
set_option linter.unusedSimpArgs false
set_option linter.unusedVariables false
variable {W0 : World}

/-- what myers.Of hands back -/
def ofV (a b : List Int) : AV := .tup [rowV (prs (np (hvO a b 0 0))), .int .i64 0]
theorem of_spec {A B : AV} {a b : List Int} (hA : IsRow A (ints a)) (hB : IsRow B (ints b)) (ha : a.length ≤ 20000) (hb : b.length ≤ 20000) : PCall Try.prog W0 10 [A, B] (.tup [rowV (prs (np (hvO a b 0 0))), .int .i64 0]) := by
  refine pcall2 cok Try.func10 F10d F10e F10c F10w F10r (fun N => ?_)
  refine ev2I_intro ?_
  have lA := hA.len
  have lB := hB.len
  simp only [ints_len] at lA lB
  have c1 : ¬ (20000 : Int) < (a.length : Int) := by omega
  have c2 : ¬ (20000 : Int) < (b.length : Int) := by omega
  simp (disch := first | omega | (simp only [List.length_set]; omega)) [F10s, lA, lB, c1, c2]
  have hp : PR (N + 2 + 8 + 1 + 3) (upd (fun _ => none) (N + 10) (some (AObj.box 46 [[AV.nils]]))) (N + 10) [] := ⟨0, none, by omega, by simp, fun h => absurd rfl h⟩
  refine hcallI_use (halves_spec (a.length + 1) a b 0 0 _ A B _ _ [] (by omega) hA hB (by omega) (by omega) (by omega) (by omega) (by simp; omega) hp) (by simp [hA.same (ints_bare _), hB.same (ints_bare _)]) (fun o τ hn hQ => ?_)
  obtain ⟨rfl, tok, te, hq⟩ := hQ
  have hbx := hq.box
  rw [List.nil_append] at hbx
  simp (disch := first | omega | (simp only [List.length_set]; omega)) [hbx]
theorem of_long {A B : AV} {a b : List Int} (hA : IsRow A (ints a)) (hB : IsRow B (ints b)) (h : 20000 < a.length ∨ 20000 < b.length) : PCall Try.prog W0 10 [A, B] (.tup [.nils, .int .i64 2]) := by
  refine pcall2 cok Try.func10 F10d F10e F10c F10w F10r (fun N => ?_)
  refine ev2I_intro ?_
  have lA := hA.len
  have lB := hB.len
  simp only [ints_len] at lA lB
  by_cases h1 : 20000 < a.length
  · have c1 : (20000 : Int) < (a.length : Int) := by omega
    simp (disch := first | omega | (simp only [List.length_set]; omega)) [F10s, lA, lB, c1]
  · have c1 : ¬ (20000 : Int) < (a.length : Int) := by omega
    have c2 : (20000 : Int) < (b.length : Int) := by omega
    simp (disch := first | omega | (simp only [List.length_set]; omega)) [F10s, lA, lB, c1, c2]
end Go.Proofs.Ytinfmkmebemhcaa.Lt
