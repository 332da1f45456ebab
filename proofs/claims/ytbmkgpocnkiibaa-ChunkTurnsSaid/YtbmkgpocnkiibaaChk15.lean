/- The chapter's example. -/
import Derived.Test.YtbmkgpocnkiibaaChk14
namespace Go.Proofs.Ytbmkgpocnkiibaa.Lt
open Go.Proofs.YtbmkgpocnkiibaaW.Abs Go
set_option maxRecDepth 100000
set_option maxHeartbeats 4000000
set_option linter.unusedSimpArgs false
set_option linter.unusedVariables false
variable {W0 : World}

theorem ex_chunks : ofM [1, 2, 3] [1, 9, 3] [1, 2, 3, 4] [(0, 0), (2, 2)] [(0, 0), (1, 1), (2, 2)] 0 0 0 0 = [⟨1, 0, 1, 0, 1, 0, 1⟩, ⟨2, 1, 2, 1, 2, 1, 2⟩, ⟨1, 2, 3, 2, 3, 2, 3⟩, ⟨3, 3, 3, 3, 3, 3, 4⟩] := by
  have r1 : runLen 3 [(0, 0), (2, 2)] [(0, 0), (1, 1), (2, 2)] 0 0 0 1 = 1 := by rw [runLen]; decide
  have r2 : runLen 3 [(0, 0), (2, 2)] [(0, 0), (1, 1), (2, 2)] 2 2 2 1 = 1 := by rw [runLen]; decide
  rw [ofM_run (j := 0) (k := 0) (by decide) (by decide) (by decide), List.length_cons, List.length_cons, List.length_cons, List.length_nil, r1, ofM_skip1 (by decide) (by decide), ofM_run (j := 2) (k := 2) (by decide) (by decide) (by decide), List.length_cons, List.length_cons, List.length_cons, List.length_nil, r2, ofM_end (by decide)]
  decide
theorem ints3 (l : List Int) : l.map (fun n => [AV.int .i64 n]) = ints l := rfl
theorem known_spec : PCall Try.prog W0 10 [] (.bool true) := by
  refine pcall2 cok Try.func10 F10d F10e F10c F10w F10r (fun N => ?_)
  refine ev2I_intro ?_
  simp (disch := first | omega | (simp only [List.length_set]; omega)) [F10s]
  have e1 : rightM [1, 2, 3] [1, 9, 3] (-1, -1) [(0, 0), (2, 2)] = true := by decide
  have e2 : rightM [1, 2, 3] [1, 2, 3, 4] (-1, -1) [(0, 0), (1, 1), (2, 2)] = true := by decide
  have e3 : ¬ rightM [1, 2, 3] [1, 9, 3] (-1, -1) [(1, 1)] = true := by decide
  refine hcallI_pure (of_spec (b := [1, 2, 3]) (o := [1, 9, 3]) (t := [1, 2, 3, 4]) (mo := [(0, 0), (2, 2)]) (mt := [(0, 0), (1, 1), (2, 2)]) (IsRow.row _) (IsRow.row _) (IsRow.row _) (by simp) (by simp) (by simp) (IsRow.row _) (IsRow.row _) (by simp) (by simp)) (by simp [ints, prs, bareL]) (fun M hM => ?_)
  simp (disch := first | omega | (simp only [List.length_set]; omega)) [ofR, e1, e2, ex_chunks]
  refine hcallI_pure (of_spec (b := [1, 2, 3]) (o := [1, 9, 3]) (t := [1, 2, 3, 4]) (mo := [(1, 1)]) (mt := []) (IsRow.row _) (IsRow.row _) (IsRow.row _) (by simp) (by simp) (by simp) (IsRow.row _) IsRow.nils (by simp) (by simp)) (by simp [ints, prs, bareL]) (fun M hM => ?_)
  simp (disch := first | omega | (simp only [List.length_set]; omega)) [ofR, e3, Ck.enc]
end Go.Proofs.Ytbmkgpocnkiibaa.Lt
