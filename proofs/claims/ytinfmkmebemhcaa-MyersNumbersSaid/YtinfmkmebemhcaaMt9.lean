/- MyersRight: whether pairs are a common row is what the document says. -/
import Derived.Test.YtinfmkmebemhcaaMt8
namespace Go.Proofs.Ytinfmkmebemhcaa.Lt
open Go.Proofs.YtinfmkmebemhcaaW.Abs Go
set_option maxRecDepth 100000
set_option maxHeartbeats 4000000
set_option linter.unusedSimpArgs false
set_option linter.unusedVariables false
variable {W0 : World}

theorem rowInts (l : List Int) : IsRow (rowV (ints l)) (ints l) := IsRow.rowV _
theorem prs_cut (l : List (Int × Int)) (a b : Nat) : ((prs l).take b).drop a = prs ((l.take b).drop a) := by simp [prs, List.map_drop, List.map_take]
theorem myersRight_spec (l : List Int) {X : AV} (hX : IsRow X (ints l)) (_ : ∀ v ∈ l, (Lit.int .i64 v).wf = true) (_ : l.length * 8 ≤ 140737488351232) (m : List Int) {Y : AV} (hY : IsRow Y (ints m)) (_ : ∀ v ∈ m, (Lit.int .i64 v).wf = true) (_ : m.length * 8 ≤ 140737488351232)
    (p : List (Int × Int)) {Z : AV} (hZ : IsRow Z (prs p)) (_ : ∀ v ∈ p, (Lit.int .i64 v.1).wf = true ∧ (Lit.int .i64 v.2).wf = true) (hpl : p.length * 16 ≤ 140737488351232) :
    PCall Try.prog W0 5 [X, Y, Z] (.bool true) := by
  refine pcall2 cok Try.func5 F5d F5e F5c F5w F5r (fun N => ?_)
  refine ev2I_intro ?_
  simp (disch := first | omega | (simp only [List.length_set]; omega)) [F5s, hZ.len]
  refine condI_dec (fun h => ?_) (fun h => ?_)
  · have sZ : slOk (fun _ => none) 2 Z 0 fun _ => (300 : Int) := by rw [hZ.slOk]; exact ⟨by omega, by omega, by simp; omega, fun e he => prs_two he⟩
    have cZ := isRow_cut hZ 0 (fun _ => 300) (by simp; omega)
    rw [prs_cut, List.drop_zero] at cZ
    simp (disch := first | omega | (simp only [List.length_set]; omega)) [sZ]
    refine hcallI_pure (few_spec l hX 3 (by omega) (by omega)) (by simp [hX.same (ints_bare _)]) (fun M hM => ?_)
    simp (disch := first | omega | (simp only [List.length_set]; omega)) []
    refine hcallI_pure (few_spec m hY 3 (by omega) (by omega)) (by simp [hY.same (ints_bare _)]) (fun M hM => ?_)
    simp (disch := first | omega | (simp only [List.length_set]; omega)) []
    refine hcallI_pure known_spec (by simp) (fun M hM => ?_)
    simp (disch := first | omega | (simp only [List.length_set]; omega)) []
    refine hcallI_pure (right_spec (kindL 3 l) (kindL 3 m) (p.take 300) (rowInts _) (rowInts _) cZ (by simp; omega)) (by simp [cZ.same (prs_bare _)]) (fun M hM => ?_)
    simp (disch := first | omega | (simp only [List.length_set]; omega)) []
    refine hcallI_pure (refRight_spec (kindL 3 l) (kindL 3 m) (p.take 300) (rowInts _) (rowInts _) cZ (by simp; omega)) (by simp [cZ.same (prs_bare _)]) (fun M hM => ?_)
    rw [rightM_none]
    simp (disch := first | omega | (simp only [List.length_set]; omega)) []
  · simp (disch := first | omega | (simp only [List.length_set]; omega)) []
    refine hcallI_pure (few_spec l hX 3 (by omega) (by omega)) (by simp [hX.same (ints_bare _)]) (fun M hM => ?_)
    simp (disch := first | omega | (simp only [List.length_set]; omega)) []
    refine hcallI_pure (few_spec m hY 3 (by omega) (by omega)) (by simp [hY.same (ints_bare _)]) (fun M hM => ?_)
    simp (disch := first | omega | (simp only [List.length_set]; omega)) []
    refine hcallI_pure known_spec (by simp) (fun M hM => ?_)
    simp (disch := first | omega | (simp only [List.length_set]; omega)) []
    refine hcallI_pure (right_spec (kindL 3 l) (kindL 3 m) (p) (rowInts _) (rowInts _) hZ (by omega)) (by simp [hZ.same (prs_bare _)]) (fun M hM => ?_)
    simp (disch := first | omega | (simp only [List.length_set]; omega)) []
    refine hcallI_pure (refRight_spec (kindL 3 l) (kindL 3 m) (p) (rowInts _) (rowInts _) hZ (by omega)) (by simp [hZ.same (prs_bare _)]) (fun M hM => ?_)
    rw [rightM_none]
    simp (disch := first | omega | (simp only [List.length_set]; omega)) []
end Go.Proofs.Ytinfmkmebemhcaa.Lt
