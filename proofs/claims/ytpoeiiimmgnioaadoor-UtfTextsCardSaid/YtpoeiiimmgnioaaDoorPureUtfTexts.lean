/- For all bytes: whether they are a text, its signs, and where it is none, are the document's. Conditions: none beyond the statement's own. -/
import Derived.Test.YtpoeiiimmgnioaaDoorQ6
import Derived.Test.YtpoeiiimmgnioaaDoorUtfSigns
namespace Go.Proofs.YtpoeiiimmgnioaaDoor.Pure
open Go.RowKit Go.Proofs.YtpoeiiimmgnioaaDoor.Q Go.Proofs.YtpoeiiimmgnioaaDoorW.PrintWords Go.Proofs.YtpoeiiimmgnioaaDoorW.PrintLast Go.Proofs.YtpoeiiimmgnioaaDoorW.PrintMore Go.Proofs.YtpoeiiimmgnioaaDoor.Ut
theorem texts_same (k : Nat) : ∀ x0 x4 x5 x6 x7 x47, scarflaw01_UtfTexts.j1 k x0 x4 x5 x6 x7 x47 = scarflaw01_UtfTexts.j0 k x0 x4 x5 x6 x7 x47 := by
  cases k with
  | zero => intro _ _ _ _ _ _; rw [scarflaw01_UtfTexts.j0, scarflaw01_UtfTexts.j1]
  | succ k => intro _ _ _ _ _ _; rw [scarflaw01_UtfTexts.j0, scarflaw01_UtfTexts.j1]
theorem texts_end {l s rest : List Int} (P : Part l s rest) (hl : l.length ≤ 100000) : Ev (fun k => scarflaw01_UtfTexts.j0 k l (outU s rest).1 (outU s rest).2 (outR l s rest).1 (outR l s rest).2 false) true := by
  have hlen : l.length = (Txt s).length + rest.length := by rw [P.2.1, List.length_append]
  have L := (Txt_len P.1).1
  by_cases h : rest = []
  · have e1 : outU s rest = (s, 0) := if_pos h
    have e2 : outR l s rest = (s, (l.length : Int)) := if_pos h
    rw [e1, e2]
    refine Ev.steps 1 (f := fun k => (scarflaw01_same.f k s s).bind fun t => some t) (fun k => ?_) (Ev.bind (f := fun _ t => some t) (same_runs s (by omega)) (Ev.now true))
    rw [scarflaw01_UtfTexts.j0, if_neg (by simp), if_neg (by show ¬ (l.length : Int) < (l.length : Int); omega), if_pos rfl]
  · have e1 : outU s rest = ([], 3) := if_neg h
    have e2 : outR l s rest = ([], ((Txt s).length : Int)) := if_neg h
    have hr : 0 < rest.length := List.length_pos_iff.2 h
    rw [e1, e2]
    refine Ev.steps 1 (fun k => ?_) (Ev.now true)
    rw [scarflaw01_UtfTexts.j0, if_neg (by simp), if_pos (by show ((Txt s).length : Int) < (l.length : Int); omega), if_pos rfl]
    rfl
theorem texts_tail {l : List Int} (hb : Bs l) (hl : l.length ≤ 100000) : Ev (fun k => (utf_Signs.f k l).bind fun bt338 => ((scarfref01_Signs.f k l).bind fun bt342 => ((scarflaw01_known.f).bind fun t346 => (if t346 = true then ((utf_Bad.f k l).bind fun t347 => (if t347 = bt342.2 then ((utf_Text.f k l).bind fun t348 => (if (t348 != (bt342.2 == (l.length : Int))) = true then (scarflaw01_UtfTexts.j0 k l bt338.1 bt338.2 bt342.1 bt342.2 true) else (scarflaw01_UtfTexts.j0 k l bt338.1 bt338.2 bt342.1 bt342.2 ((strOfNums l).toList != (strOfNums l).toList)))) else (scarflaw01_UtfTexts.j0 k l bt338.1 bt338.2 bt342.1 bt342.2 true))) else (scarflaw01_UtfTexts.j0 k l bt338.1 bt338.2 bt342.1 bt342.2 true))))) true := by
  obtain ⟨s, rest, P⟩ := part_of _ _ (Nat.le_refl _) hb
  have hlen : l.length = (Txt s).length + rest.length := by rw [P.2.1, List.length_append]
  refine Ev.bind (f := fun k bt338 => ((scarfref01_Signs.f k l).bind fun bt342 => ((scarflaw01_known.f).bind fun t346 => (if t346 = true then ((utf_Bad.f k l).bind fun t347 => (if t347 = bt342.2 then ((utf_Text.f k l).bind fun t348 => (if (t348 != (bt342.2 == (l.length : Int))) = true then (scarflaw01_UtfTexts.j0 k l bt338.1 bt338.2 bt342.1 bt342.2 true) else (scarflaw01_UtfTexts.j0 k l bt338.1 bt338.2 bt342.1 bt342.2 ((strOfNums l).toList != (strOfNums l).toList)))) else (scarflaw01_UtfTexts.j0 k l bt338.1 bt338.2 bt342.1 bt342.2 true))) else (scarflaw01_UtfTexts.j0 k l bt338.1 bt338.2 bt342.1 bt342.2 true))))) (signsU_runs hb P (by omega)) ?_
  refine Ev.bind (f := fun k bt342 => ((scarflaw01_known.f).bind fun t346 => (if t346 = true then ((utf_Bad.f k l).bind fun t347 => (if t347 = bt342.2 then ((utf_Text.f k l).bind fun t348 => (if (t348 != (bt342.2 == (l.length : Int))) = true then (scarflaw01_UtfTexts.j0 k l (outU s rest).1 (outU s rest).2 bt342.1 bt342.2 true) else (scarflaw01_UtfTexts.j0 k l (outU s rest).1 (outU s rest).2 bt342.1 bt342.2 ((strOfNums l).toList != (strOfNums l).toList)))) else (scarflaw01_UtfTexts.j0 k l (outU s rest).1 (outU s rest).2 bt342.1 bt342.2 true))) else (scarflaw01_UtfTexts.j0 k l (outU s rest).1 (outU s rest).2 bt342.1 bt342.2 true)))) (signsR_runs hb P (by omega)) ?_
  simp only [known01, Option.bind_some, if_true]
  have e2 : (outR l s rest).2 = ((Txt s).length : Int) := by
    unfold outR
    by_cases h : rest = []
    · rw [if_pos h]; rw [h] at hlen; show (l.length : Int) = _; rw [hlen]; simp
    · rw [if_neg h]
  refine Ev.bind (f := fun k t347 => (if t347 = (outR l s rest).2 then ((utf_Text.f k l).bind fun t348 => (if (t348 != ((outR l s rest).2 == (l.length : Int))) = true then (scarflaw01_UtfTexts.j0 k l (outU s rest).1 (outU s rest).2 (outR l s rest).1 (outR l s rest).2 true) else (scarflaw01_UtfTexts.j0 k l (outU s rest).1 (outU s rest).2 (outR l s rest).1 (outR l s rest).2 ((strOfNums l).toList != (strOfNums l).toList)))) else (scarflaw01_UtfTexts.j0 k l (outU s rest).1 (outU s rest).2 (outR l s rest).1 (outR l s rest).2 true))) (bad_runs hb P (by omega)) ?_
  simp only [e2.symm, if_true]
  refine Ev.bind (f := fun k t348 => (if (t348 != ((outR l s rest).2 == (l.length : Int))) = true then (scarflaw01_UtfTexts.j0 k l (outU s rest).1 (outU s rest).2 (outR l s rest).1 (outR l s rest).2 true) else (scarflaw01_UtfTexts.j0 k l (outU s rest).1 (outU s rest).2 (outR l s rest).1 (outR l s rest).2 ((strOfNums l).toList != (strOfNums l).toList)))) (text_runs hb P (by omega)) ?_
  have e3 : ((outR l s rest).2 == (l.length : Int)) = decide (rest = []) := by
    rw [e2, Bool.eq_iff_iff, beq_iff_eq, decide_eq_true_eq, ← List.length_eq_zero_iff]
    omega
  have e4 : ((strOfNums l).toList != (strOfNums l).toList) = false := by simp
  rw [e3, e4]
  refine Ev.congr (fun k => ?_) (texts_end P hl)
  rw [if_neg (by simp)]
theorem UtfTexts : scarflaw01_UtfTexts.Pure := by
  intro l _ _ hw
  have hb := Bs_of hw
  apply Ev.rounds
  by_cases c : (l.length : Int) > 100000
  · refine Ev.congr (fun k => ?_) (texts_tail (hb.take 100000) (by rw [List.length_take]; omega))
    unfold scarflaw01_UtfTexts.f
    rw [if_pos c, if_pos (by omega)]
  · refine Ev.congr (fun k => ?_) (texts_tail hb (by omega))
    unfold scarflaw01_UtfTexts.f
    rw [if_neg c]
    simp only [texts_same]
end Go.Proofs.YtpoeiiimmgnioaaDoor.Pure
