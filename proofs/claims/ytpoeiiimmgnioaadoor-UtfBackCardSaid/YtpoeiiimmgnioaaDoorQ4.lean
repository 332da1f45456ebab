-- Written by this repo's pp.py (the kit's print program with additions).
import Derived.Test.YtpoeiiimmgnioaaDoorQ0
import Derived.Test.YtpoeiiimmgnioaaDoorQ1
import Derived.Test.YtpoeiiimmgnioaaDoorQ2
import Derived.Test.YtpoeiiimmgnioaaDoorQ3
namespace Go.Proofs.YtpoeiiimmgnioaaDoor.Q
open Go.RowKit Go.Proofs.YtpoeiiimmgnioaaDoorW.PrintWords Go.Proofs.YtpoeiiimmgnioaaDoorW.PrintLast Go.Proofs.YtpoeiiimmgnioaaDoorW.PrintMore
attribute [local go_sem] max2_int min2_int max_two min_two max_three min_three max_four min_four   -- for this text's walks alone
set_option linter.unusedVariables false
set_option linter.unusedSimpArgs false

/-! ### scarflaw01_UtfBack: function 9 -/
mutual
def scarflaw01_UtfBack.l0 : Nat → List Int → List Int → List Int → List Int → Int → Option (Bool)
 | 0, _, _, _, _, _ => none
 | k + 1, x0, x1, x5, x6, x7 => if x7 < (x0.length : Int) then (if 0 ≤ x7 then ((utf_Bytes.f (rd x0 x7)).bind fun bt132 => (if bt132.2 = 0 then (if x5.length + bt132.1.length < 140737488355328 then (if x6.length < 17592186044416 then (scarflaw01_UtfBack.l0 k x0 x1 (x5 ++ bt132.1) (x6 ++ [rd x0 x7]) (wrap64 (x7 + 1))) else (none)) else (none)) else (scarflaw01_UtfBack.l0 k x0 x1 x5 x6 (wrap64 (x7 + 1))))) else (none)) else ((utf_Signs.f k x5).bind fun bt143 => ((scarflaw01_known.f).bind fun t147 => (if t147 = true then (if bt143.2 = 0 then ((scarflaw01_same.f k bt143.1 x6).bind fun t148 => (if t148 = true then ((utf_Text.f k x5).bind fun t149 => (scarflaw01_UtfBack.j1 k x1 (!t149))) else (scarflaw01_UtfBack.j1 k x1 true))) else (scarflaw01_UtfBack.j1 k x1 true)) else (scarflaw01_UtfBack.j1 k x1 true))))
def scarflaw01_UtfBack.j1 : Nat → List Int → Bool → Option (Bool)
 | 0, _, _ => none
 | k + 1, x1, x75 => if x75 = true then (some false) else ((utf_Signs.f k x1).bind fun bt150 => (if bt150.2 = 0 then (scarflaw01_UtfBack.l1 k x1 bt150.1 ([] : List Int) 0) else ((utf_Text.f k x1).bind fun t154 => (some (!t154)))))
def scarflaw01_UtfBack.l1 : Nat → List Int → List Int → List Int → Int → Option (Bool)
 | 0, _, _, _, _ => none
 | k + 1, x1, x12, x14, x15 => if x15 < (x12.length : Int) then (if 0 ≤ x15 then ((utf_Bytes.f (rd x12 x15)).bind fun bt156 => (if bt156.2 = 0 then (if x14.length + bt156.1.length < 140737488355328 then (scarflaw01_UtfBack.l1 k x1 x12 (x14 ++ bt156.1) (wrap64 (x15 + 1))) else (none)) else (some false))) else (none)) else (some ((strOfNums x14).toList == (strOfNums x1).toList))
def scarflaw01_UtfBack.l2 : Nat → List Int → List Int → List Int → List Int → Int → Option (Bool)
 | 0, _, _, _, _, _ => none
 | k + 1, x0, x1, x5, x6, x7 => if x7 < (x0.length : Int) then (if 0 ≤ x7 then ((utf_Bytes.f (rd x0 x7)).bind fun bt164 => (if bt164.2 = 0 then (if x5.length + bt164.1.length < 140737488355328 then (if x6.length < 17592186044416 then (scarflaw01_UtfBack.l2 k x0 x1 (x5 ++ bt164.1) (x6 ++ [rd x0 x7]) (wrap64 (x7 + 1))) else (none)) else (none)) else (scarflaw01_UtfBack.l2 k x0 x1 x5 x6 (wrap64 (x7 + 1))))) else (none)) else ((utf_Signs.f k x5).bind fun bt175 => ((scarflaw01_known.f).bind fun t179 => (if t179 = true then (if bt175.2 = 0 then ((scarflaw01_same.f k bt175.1 x6).bind fun t180 => (if t180 = true then ((utf_Text.f k x5).bind fun t181 => (scarflaw01_UtfBack.j4 k x1 (!t181))) else (scarflaw01_UtfBack.j4 k x1 true))) else (scarflaw01_UtfBack.j4 k x1 true)) else (scarflaw01_UtfBack.j4 k x1 true))))
def scarflaw01_UtfBack.j4 : Nat → List Int → Bool → Option (Bool)
 | 0, _, _ => none
 | k + 1, x1, x75 => if x75 = true then (some false) else ((utf_Signs.f k x1).bind fun bt182 => (if bt182.2 = 0 then (scarflaw01_UtfBack.l3 k x1 bt182.1 ([] : List Int) 0) else ((utf_Text.f k x1).bind fun t186 => (some (!t186)))))
def scarflaw01_UtfBack.l3 : Nat → List Int → List Int → List Int → Int → Option (Bool)
 | 0, _, _, _, _ => none
 | k + 1, x1, x12, x14, x15 => if x15 < (x12.length : Int) then (if 0 ≤ x15 then ((utf_Bytes.f (rd x12 x15)).bind fun bt188 => (if bt188.2 = 0 then (if x14.length + bt188.1.length < 140737488355328 then (scarflaw01_UtfBack.l3 k x1 x12 (x14 ++ bt188.1) (wrap64 (x15 + 1))) else (none)) else (some false))) else (none)) else (some ((strOfNums x14).toList == (strOfNums x1).toList))
def scarflaw01_UtfBack.l4 : Nat → List Int → List Int → List Int → List Int → Int → Option (Bool)
 | 0, _, _, _, _, _ => none
 | k + 1, x0, x1, x5, x6, x7 => if x7 < (x0.length : Int) then (if 0 ≤ x7 then ((utf_Bytes.f (rd x0 x7)).bind fun bt197 => (if bt197.2 = 0 then (if x5.length + bt197.1.length < 140737488355328 then (if x6.length < 17592186044416 then (scarflaw01_UtfBack.l4 k x0 x1 (x5 ++ bt197.1) (x6 ++ [rd x0 x7]) (wrap64 (x7 + 1))) else (none)) else (none)) else (scarflaw01_UtfBack.l4 k x0 x1 x5 x6 (wrap64 (x7 + 1))))) else (none)) else ((utf_Signs.f k x5).bind fun bt208 => ((scarflaw01_known.f).bind fun t212 => (if t212 = true then (if bt208.2 = 0 then ((scarflaw01_same.f k bt208.1 x6).bind fun t213 => (if t213 = true then ((utf_Text.f k x5).bind fun t214 => (scarflaw01_UtfBack.j7 k x1 (!t214))) else (scarflaw01_UtfBack.j7 k x1 true))) else (scarflaw01_UtfBack.j7 k x1 true)) else (scarflaw01_UtfBack.j7 k x1 true))))
def scarflaw01_UtfBack.j7 : Nat → List Int → Bool → Option (Bool)
 | 0, _, _ => none
 | k + 1, x1, x75 => if x75 = true then (some false) else ((utf_Signs.f k x1).bind fun bt215 => (if bt215.2 = 0 then (scarflaw01_UtfBack.l5 k x1 bt215.1 ([] : List Int) 0) else ((utf_Text.f k x1).bind fun t219 => (some (!t219)))))
def scarflaw01_UtfBack.l5 : Nat → List Int → List Int → List Int → Int → Option (Bool)
 | 0, _, _, _, _ => none
 | k + 1, x1, x12, x14, x15 => if x15 < (x12.length : Int) then (if 0 ≤ x15 then ((utf_Bytes.f (rd x12 x15)).bind fun bt221 => (if bt221.2 = 0 then (if x14.length + bt221.1.length < 140737488355328 then (scarflaw01_UtfBack.l5 k x1 x12 (x14 ++ bt221.1) (wrap64 (x15 + 1))) else (none)) else (some false))) else (none)) else (some ((strOfNums x14).toList == (strOfNums x1).toList))
def scarflaw01_UtfBack.l6 : Nat → List Int → List Int → List Int → List Int → Int → Option (Bool)
 | 0, _, _, _, _, _ => none
 | k + 1, x0, x1, x5, x6, x7 => if x7 < (x0.length : Int) then (if 0 ≤ x7 then ((utf_Bytes.f (rd x0 x7)).bind fun bt229 => (if bt229.2 = 0 then (if x5.length + bt229.1.length < 140737488355328 then (if x6.length < 17592186044416 then (scarflaw01_UtfBack.l6 k x0 x1 (x5 ++ bt229.1) (x6 ++ [rd x0 x7]) (wrap64 (x7 + 1))) else (none)) else (none)) else (scarflaw01_UtfBack.l6 k x0 x1 x5 x6 (wrap64 (x7 + 1))))) else (none)) else ((utf_Signs.f k x5).bind fun bt240 => ((scarflaw01_known.f).bind fun t244 => (if t244 = true then (if bt240.2 = 0 then ((scarflaw01_same.f k bt240.1 x6).bind fun t245 => (if t245 = true then ((utf_Text.f k x5).bind fun t246 => (scarflaw01_UtfBack.j10 k x1 (!t246))) else (scarflaw01_UtfBack.j10 k x1 true))) else (scarflaw01_UtfBack.j10 k x1 true)) else (scarflaw01_UtfBack.j10 k x1 true))))
def scarflaw01_UtfBack.j10 : Nat → List Int → Bool → Option (Bool)
 | 0, _, _ => none
 | k + 1, x1, x75 => if x75 = true then (some false) else ((utf_Signs.f k x1).bind fun bt247 => (if bt247.2 = 0 then (scarflaw01_UtfBack.l7 k x1 bt247.1 ([] : List Int) 0) else ((utf_Text.f k x1).bind fun t251 => (some (!t251)))))
def scarflaw01_UtfBack.l7 : Nat → List Int → List Int → List Int → Int → Option (Bool)
 | 0, _, _, _, _ => none
 | k + 1, x1, x12, x14, x15 => if x15 < (x12.length : Int) then (if 0 ≤ x15 then ((utf_Bytes.f (rd x12 x15)).bind fun bt253 => (if bt253.2 = 0 then (if x14.length + bt253.1.length < 140737488355328 then (scarflaw01_UtfBack.l7 k x1 x12 (x14 ++ bt253.1) (wrap64 (x15 + 1))) else (none)) else (some false))) else (none)) else (some ((strOfNums x14).toList == (strOfNums x1).toList))
end
def scarflaw01_UtfBack.f (k : Nat) (l0 : List Int) (l1 : List Int) : Option (Bool) := if (l0.length : Int) > 20000 then (if 20000 ≤ (l0.length : Int) then (if (l1.length : Int) > 100000 then (if 100000 ≤ (l1.length : Int) then (scarflaw01_UtfBack.l0 k (l0.take 20000) (l1.take 100000) ([] : List Int) ([] : List Int) 0) else (none)) else (scarflaw01_UtfBack.l2 k (l0.take 20000) l1 ([] : List Int) ([] : List Int) 0)) else (none)) else (if (l1.length : Int) > 100000 then (if 100000 ≤ (l1.length : Int) then (scarflaw01_UtfBack.l4 k l0 (l1.take 100000) ([] : List Int) ([] : List Int) 0) else (none)) else (scarflaw01_UtfBack.l6 k l0 l1 ([] : List Int) ([] : List Int) 0))
theorem scarflaw01_UtfBack.mono_l : ∀ k, (∀ y0 y1 y2 y3 y4, LeO (scarflaw01_UtfBack.l0 k y0 y1 y2 y3 y4) (scarflaw01_UtfBack.l0 (k + 1) y0 y1 y2 y3 y4)) ∧ (∀ y0 y1, LeO (scarflaw01_UtfBack.j1 k y0 y1) (scarflaw01_UtfBack.j1 (k + 1) y0 y1)) ∧ (∀ y0 y1 y2 y3, LeO (scarflaw01_UtfBack.l1 k y0 y1 y2 y3) (scarflaw01_UtfBack.l1 (k + 1) y0 y1 y2 y3)) ∧ (∀ y0 y1 y2 y3 y4, LeO (scarflaw01_UtfBack.l2 k y0 y1 y2 y3 y4) (scarflaw01_UtfBack.l2 (k + 1) y0 y1 y2 y3 y4)) ∧ (∀ y0 y1, LeO (scarflaw01_UtfBack.j4 k y0 y1) (scarflaw01_UtfBack.j4 (k + 1) y0 y1)) ∧ (∀ y0 y1 y2 y3, LeO (scarflaw01_UtfBack.l3 k y0 y1 y2 y3) (scarflaw01_UtfBack.l3 (k + 1) y0 y1 y2 y3)) ∧ (∀ y0 y1 y2 y3 y4, LeO (scarflaw01_UtfBack.l4 k y0 y1 y2 y3 y4) (scarflaw01_UtfBack.l4 (k + 1) y0 y1 y2 y3 y4)) ∧ (∀ y0 y1, LeO (scarflaw01_UtfBack.j7 k y0 y1) (scarflaw01_UtfBack.j7 (k + 1) y0 y1)) ∧ (∀ y0 y1 y2 y3, LeO (scarflaw01_UtfBack.l5 k y0 y1 y2 y3) (scarflaw01_UtfBack.l5 (k + 1) y0 y1 y2 y3)) ∧ (∀ y0 y1 y2 y3 y4, LeO (scarflaw01_UtfBack.l6 k y0 y1 y2 y3 y4) (scarflaw01_UtfBack.l6 (k + 1) y0 y1 y2 y3 y4)) ∧ (∀ y0 y1, LeO (scarflaw01_UtfBack.j10 k y0 y1) (scarflaw01_UtfBack.j10 (k + 1) y0 y1)) ∧ (∀ y0 y1 y2 y3, LeO (scarflaw01_UtfBack.l7 k y0 y1 y2 y3) (scarflaw01_UtfBack.l7 (k + 1) y0 y1 y2 y3))
 | 0 => ⟨fun _ _ _ _ _ r h => by simp [scarflaw01_UtfBack.l0] at h, fun _ _ r h => by simp [scarflaw01_UtfBack.j1] at h, fun _ _ _ _ r h => by simp [scarflaw01_UtfBack.l1] at h, fun _ _ _ _ _ r h => by simp [scarflaw01_UtfBack.l2] at h, fun _ _ r h => by simp [scarflaw01_UtfBack.j4] at h, fun _ _ _ _ r h => by simp [scarflaw01_UtfBack.l3] at h, fun _ _ _ _ _ r h => by simp [scarflaw01_UtfBack.l4] at h, fun _ _ r h => by simp [scarflaw01_UtfBack.j7] at h, fun _ _ _ _ r h => by simp [scarflaw01_UtfBack.l5] at h, fun _ _ _ _ _ r h => by simp [scarflaw01_UtfBack.l6] at h, fun _ _ r h => by simp [scarflaw01_UtfBack.j10] at h, fun _ _ _ _ r h => by simp [scarflaw01_UtfBack.l7] at h⟩
 | k + 1 => by
  obtain ⟨ih0, ih1, ih2, ih3, ih4, ih5, ih6, ih7, ih8, ih9, ih10, ih11⟩ := scarflaw01_UtfBack.mono_l k
  refine ⟨?_, ?_, ?_, ?_, ?_, ?_, ?_, ?_, ?_, ?_, ?_, ?_⟩
  ·intro y0 y1 y2 y3 y4
   unfold scarflaw01_UtfBack.l0
   repeat' first
   | (with_reducible exact ih0 _ _ _ _ _)
   | (with_reducible exact ih1 _ _)
   | (with_reducible exact ih2 _ _ _ _)
   | (with_reducible exact ih3 _ _ _ _ _)
   | (with_reducible exact ih4 _ _)
   | (with_reducible exact ih5 _ _ _ _)
   | (with_reducible exact ih6 _ _ _ _ _)
   | (with_reducible exact ih7 _ _)
   | (with_reducible exact ih8 _ _ _ _)
   | (with_reducible exact ih9 _ _ _ _ _)
   | (with_reducible exact ih10 _ _)
   | (with_reducible exact ih11 _ _ _ _)
   | (with_reducible exact scarflaw01_same.mono _ _ _)
   | (with_reducible exact utf_Signs.mono _ _)
   | (with_reducible exact utf_Text.mono _ _)
   | (with_reducible exact LeO.refl _)
   | (with_reducible exact LeO.none _)
   | (with_reducible refine LeO.ite ?_ ?_)
   | (with_reducible refine LeO.bind ?_ (fun _ => ?_))
   | exact ih0 _ _ _ _ _
   | exact ih1 _ _
   | exact ih2 _ _ _ _
   | exact ih3 _ _ _ _ _
   | exact ih4 _ _
   | exact ih5 _ _ _ _
   | exact ih6 _ _ _ _ _
   | exact ih7 _ _
   | exact ih8 _ _ _ _
   | exact ih9 _ _ _ _ _
   | exact ih10 _ _
   | exact ih11 _ _ _ _
   | exact scarflaw01_same.mono _ _ _
   | exact utf_Signs.mono _ _
   | exact utf_Text.mono _ _
   | exact LeO.none _
   | refine LeO.ite ?_ ?_
   | refine LeO.bind ?_ (fun _ => ?_)
  ·intro y0 y1
   unfold scarflaw01_UtfBack.j1
   repeat' first
   | (with_reducible exact ih0 _ _ _ _ _)
   | (with_reducible exact ih1 _ _)
   | (with_reducible exact ih2 _ _ _ _)
   | (with_reducible exact ih3 _ _ _ _ _)
   | (with_reducible exact ih4 _ _)
   | (with_reducible exact ih5 _ _ _ _)
   | (with_reducible exact ih6 _ _ _ _ _)
   | (with_reducible exact ih7 _ _)
   | (with_reducible exact ih8 _ _ _ _)
   | (with_reducible exact ih9 _ _ _ _ _)
   | (with_reducible exact ih10 _ _)
   | (with_reducible exact ih11 _ _ _ _)
   | (with_reducible exact scarflaw01_same.mono _ _ _)
   | (with_reducible exact utf_Signs.mono _ _)
   | (with_reducible exact utf_Text.mono _ _)
   | (with_reducible exact LeO.refl _)
   | (with_reducible exact LeO.none _)
   | (with_reducible refine LeO.ite ?_ ?_)
   | (with_reducible refine LeO.bind ?_ (fun _ => ?_))
   | exact ih0 _ _ _ _ _
   | exact ih1 _ _
   | exact ih2 _ _ _ _
   | exact ih3 _ _ _ _ _
   | exact ih4 _ _
   | exact ih5 _ _ _ _
   | exact ih6 _ _ _ _ _
   | exact ih7 _ _
   | exact ih8 _ _ _ _
   | exact ih9 _ _ _ _ _
   | exact ih10 _ _
   | exact ih11 _ _ _ _
   | exact scarflaw01_same.mono _ _ _
   | exact utf_Signs.mono _ _
   | exact utf_Text.mono _ _
   | exact LeO.none _
   | refine LeO.ite ?_ ?_
   | refine LeO.bind ?_ (fun _ => ?_)
  ·intro y0 y1 y2 y3
   unfold scarflaw01_UtfBack.l1
   repeat' first
   | (with_reducible exact ih0 _ _ _ _ _)
   | (with_reducible exact ih1 _ _)
   | (with_reducible exact ih2 _ _ _ _)
   | (with_reducible exact ih3 _ _ _ _ _)
   | (with_reducible exact ih4 _ _)
   | (with_reducible exact ih5 _ _ _ _)
   | (with_reducible exact ih6 _ _ _ _ _)
   | (with_reducible exact ih7 _ _)
   | (with_reducible exact ih8 _ _ _ _)
   | (with_reducible exact ih9 _ _ _ _ _)
   | (with_reducible exact ih10 _ _)
   | (with_reducible exact ih11 _ _ _ _)
   | (with_reducible exact scarflaw01_same.mono _ _ _)
   | (with_reducible exact utf_Signs.mono _ _)
   | (with_reducible exact utf_Text.mono _ _)
   | (with_reducible exact LeO.refl _)
   | (with_reducible exact LeO.none _)
   | (with_reducible refine LeO.ite ?_ ?_)
   | (with_reducible refine LeO.bind ?_ (fun _ => ?_))
   | exact ih0 _ _ _ _ _
   | exact ih1 _ _
   | exact ih2 _ _ _ _
   | exact ih3 _ _ _ _ _
   | exact ih4 _ _
   | exact ih5 _ _ _ _
   | exact ih6 _ _ _ _ _
   | exact ih7 _ _
   | exact ih8 _ _ _ _
   | exact ih9 _ _ _ _ _
   | exact ih10 _ _
   | exact ih11 _ _ _ _
   | exact scarflaw01_same.mono _ _ _
   | exact utf_Signs.mono _ _
   | exact utf_Text.mono _ _
   | exact LeO.none _
   | refine LeO.ite ?_ ?_
   | refine LeO.bind ?_ (fun _ => ?_)
  ·intro y0 y1 y2 y3 y4
   unfold scarflaw01_UtfBack.l2
   repeat' first
   | (with_reducible exact ih0 _ _ _ _ _)
   | (with_reducible exact ih1 _ _)
   | (with_reducible exact ih2 _ _ _ _)
   | (with_reducible exact ih3 _ _ _ _ _)
   | (with_reducible exact ih4 _ _)
   | (with_reducible exact ih5 _ _ _ _)
   | (with_reducible exact ih6 _ _ _ _ _)
   | (with_reducible exact ih7 _ _)
   | (with_reducible exact ih8 _ _ _ _)
   | (with_reducible exact ih9 _ _ _ _ _)
   | (with_reducible exact ih10 _ _)
   | (with_reducible exact ih11 _ _ _ _)
   | (with_reducible exact scarflaw01_same.mono _ _ _)
   | (with_reducible exact utf_Signs.mono _ _)
   | (with_reducible exact utf_Text.mono _ _)
   | (with_reducible exact LeO.refl _)
   | (with_reducible exact LeO.none _)
   | (with_reducible refine LeO.ite ?_ ?_)
   | (with_reducible refine LeO.bind ?_ (fun _ => ?_))
   | exact ih0 _ _ _ _ _
   | exact ih1 _ _
   | exact ih2 _ _ _ _
   | exact ih3 _ _ _ _ _
   | exact ih4 _ _
   | exact ih5 _ _ _ _
   | exact ih6 _ _ _ _ _
   | exact ih7 _ _
   | exact ih8 _ _ _ _
   | exact ih9 _ _ _ _ _
   | exact ih10 _ _
   | exact ih11 _ _ _ _
   | exact scarflaw01_same.mono _ _ _
   | exact utf_Signs.mono _ _
   | exact utf_Text.mono _ _
   | exact LeO.none _
   | refine LeO.ite ?_ ?_
   | refine LeO.bind ?_ (fun _ => ?_)
  ·intro y0 y1
   unfold scarflaw01_UtfBack.j4
   repeat' first
   | (with_reducible exact ih0 _ _ _ _ _)
   | (with_reducible exact ih1 _ _)
   | (with_reducible exact ih2 _ _ _ _)
   | (with_reducible exact ih3 _ _ _ _ _)
   | (with_reducible exact ih4 _ _)
   | (with_reducible exact ih5 _ _ _ _)
   | (with_reducible exact ih6 _ _ _ _ _)
   | (with_reducible exact ih7 _ _)
   | (with_reducible exact ih8 _ _ _ _)
   | (with_reducible exact ih9 _ _ _ _ _)
   | (with_reducible exact ih10 _ _)
   | (with_reducible exact ih11 _ _ _ _)
   | (with_reducible exact scarflaw01_same.mono _ _ _)
   | (with_reducible exact utf_Signs.mono _ _)
   | (with_reducible exact utf_Text.mono _ _)
   | (with_reducible exact LeO.refl _)
   | (with_reducible exact LeO.none _)
   | (with_reducible refine LeO.ite ?_ ?_)
   | (with_reducible refine LeO.bind ?_ (fun _ => ?_))
   | exact ih0 _ _ _ _ _
   | exact ih1 _ _
   | exact ih2 _ _ _ _
   | exact ih3 _ _ _ _ _
   | exact ih4 _ _
   | exact ih5 _ _ _ _
   | exact ih6 _ _ _ _ _
   | exact ih7 _ _
   | exact ih8 _ _ _ _
   | exact ih9 _ _ _ _ _
   | exact ih10 _ _
   | exact ih11 _ _ _ _
   | exact scarflaw01_same.mono _ _ _
   | exact utf_Signs.mono _ _
   | exact utf_Text.mono _ _
   | exact LeO.none _
   | refine LeO.ite ?_ ?_
   | refine LeO.bind ?_ (fun _ => ?_)
  ·intro y0 y1 y2 y3
   unfold scarflaw01_UtfBack.l3
   repeat' first
   | (with_reducible exact ih0 _ _ _ _ _)
   | (with_reducible exact ih1 _ _)
   | (with_reducible exact ih2 _ _ _ _)
   | (with_reducible exact ih3 _ _ _ _ _)
   | (with_reducible exact ih4 _ _)
   | (with_reducible exact ih5 _ _ _ _)
   | (with_reducible exact ih6 _ _ _ _ _)
   | (with_reducible exact ih7 _ _)
   | (with_reducible exact ih8 _ _ _ _)
   | (with_reducible exact ih9 _ _ _ _ _)
   | (with_reducible exact ih10 _ _)
   | (with_reducible exact ih11 _ _ _ _)
   | (with_reducible exact scarflaw01_same.mono _ _ _)
   | (with_reducible exact utf_Signs.mono _ _)
   | (with_reducible exact utf_Text.mono _ _)
   | (with_reducible exact LeO.refl _)
   | (with_reducible exact LeO.none _)
   | (with_reducible refine LeO.ite ?_ ?_)
   | (with_reducible refine LeO.bind ?_ (fun _ => ?_))
   | exact ih0 _ _ _ _ _
   | exact ih1 _ _
   | exact ih2 _ _ _ _
   | exact ih3 _ _ _ _ _
   | exact ih4 _ _
   | exact ih5 _ _ _ _
   | exact ih6 _ _ _ _ _
   | exact ih7 _ _
   | exact ih8 _ _ _ _
   | exact ih9 _ _ _ _ _
   | exact ih10 _ _
   | exact ih11 _ _ _ _
   | exact scarflaw01_same.mono _ _ _
   | exact utf_Signs.mono _ _
   | exact utf_Text.mono _ _
   | exact LeO.none _
   | refine LeO.ite ?_ ?_
   | refine LeO.bind ?_ (fun _ => ?_)
  ·intro y0 y1 y2 y3 y4
   unfold scarflaw01_UtfBack.l4
   repeat' first
   | (with_reducible exact ih0 _ _ _ _ _)
   | (with_reducible exact ih1 _ _)
   | (with_reducible exact ih2 _ _ _ _)
   | (with_reducible exact ih3 _ _ _ _ _)
   | (with_reducible exact ih4 _ _)
   | (with_reducible exact ih5 _ _ _ _)
   | (with_reducible exact ih6 _ _ _ _ _)
   | (with_reducible exact ih7 _ _)
   | (with_reducible exact ih8 _ _ _ _)
   | (with_reducible exact ih9 _ _ _ _ _)
   | (with_reducible exact ih10 _ _)
   | (with_reducible exact ih11 _ _ _ _)
   | (with_reducible exact scarflaw01_same.mono _ _ _)
   | (with_reducible exact utf_Signs.mono _ _)
   | (with_reducible exact utf_Text.mono _ _)
   | (with_reducible exact LeO.refl _)
   | (with_reducible exact LeO.none _)
   | (with_reducible refine LeO.ite ?_ ?_)
   | (with_reducible refine LeO.bind ?_ (fun _ => ?_))
   | exact ih0 _ _ _ _ _
   | exact ih1 _ _
   | exact ih2 _ _ _ _
   | exact ih3 _ _ _ _ _
   | exact ih4 _ _
   | exact ih5 _ _ _ _
   | exact ih6 _ _ _ _ _
   | exact ih7 _ _
   | exact ih8 _ _ _ _
   | exact ih9 _ _ _ _ _
   | exact ih10 _ _
   | exact ih11 _ _ _ _
   | exact scarflaw01_same.mono _ _ _
   | exact utf_Signs.mono _ _
   | exact utf_Text.mono _ _
   | exact LeO.none _
   | refine LeO.ite ?_ ?_
   | refine LeO.bind ?_ (fun _ => ?_)
  ·intro y0 y1
   unfold scarflaw01_UtfBack.j7
   repeat' first
   | (with_reducible exact ih0 _ _ _ _ _)
   | (with_reducible exact ih1 _ _)
   | (with_reducible exact ih2 _ _ _ _)
   | (with_reducible exact ih3 _ _ _ _ _)
   | (with_reducible exact ih4 _ _)
   | (with_reducible exact ih5 _ _ _ _)
   | (with_reducible exact ih6 _ _ _ _ _)
   | (with_reducible exact ih7 _ _)
   | (with_reducible exact ih8 _ _ _ _)
   | (with_reducible exact ih9 _ _ _ _ _)
   | (with_reducible exact ih10 _ _)
   | (with_reducible exact ih11 _ _ _ _)
   | (with_reducible exact scarflaw01_same.mono _ _ _)
   | (with_reducible exact utf_Signs.mono _ _)
   | (with_reducible exact utf_Text.mono _ _)
   | (with_reducible exact LeO.refl _)
   | (with_reducible exact LeO.none _)
   | (with_reducible refine LeO.ite ?_ ?_)
   | (with_reducible refine LeO.bind ?_ (fun _ => ?_))
   | exact ih0 _ _ _ _ _
   | exact ih1 _ _
   | exact ih2 _ _ _ _
   | exact ih3 _ _ _ _ _
   | exact ih4 _ _
   | exact ih5 _ _ _ _
   | exact ih6 _ _ _ _ _
   | exact ih7 _ _
   | exact ih8 _ _ _ _
   | exact ih9 _ _ _ _ _
   | exact ih10 _ _
   | exact ih11 _ _ _ _
   | exact scarflaw01_same.mono _ _ _
   | exact utf_Signs.mono _ _
   | exact utf_Text.mono _ _
   | exact LeO.none _
   | refine LeO.ite ?_ ?_
   | refine LeO.bind ?_ (fun _ => ?_)
  ·intro y0 y1 y2 y3
   unfold scarflaw01_UtfBack.l5
   repeat' first
   | (with_reducible exact ih0 _ _ _ _ _)
   | (with_reducible exact ih1 _ _)
   | (with_reducible exact ih2 _ _ _ _)
   | (with_reducible exact ih3 _ _ _ _ _)
   | (with_reducible exact ih4 _ _)
   | (with_reducible exact ih5 _ _ _ _)
   | (with_reducible exact ih6 _ _ _ _ _)
   | (with_reducible exact ih7 _ _)
   | (with_reducible exact ih8 _ _ _ _)
   | (with_reducible exact ih9 _ _ _ _ _)
   | (with_reducible exact ih10 _ _)
   | (with_reducible exact ih11 _ _ _ _)
   | (with_reducible exact scarflaw01_same.mono _ _ _)
   | (with_reducible exact utf_Signs.mono _ _)
   | (with_reducible exact utf_Text.mono _ _)
   | (with_reducible exact LeO.refl _)
   | (with_reducible exact LeO.none _)
   | (with_reducible refine LeO.ite ?_ ?_)
   | (with_reducible refine LeO.bind ?_ (fun _ => ?_))
   | exact ih0 _ _ _ _ _
   | exact ih1 _ _
   | exact ih2 _ _ _ _
   | exact ih3 _ _ _ _ _
   | exact ih4 _ _
   | exact ih5 _ _ _ _
   | exact ih6 _ _ _ _ _
   | exact ih7 _ _
   | exact ih8 _ _ _ _
   | exact ih9 _ _ _ _ _
   | exact ih10 _ _
   | exact ih11 _ _ _ _
   | exact scarflaw01_same.mono _ _ _
   | exact utf_Signs.mono _ _
   | exact utf_Text.mono _ _
   | exact LeO.none _
   | refine LeO.ite ?_ ?_
   | refine LeO.bind ?_ (fun _ => ?_)
  ·intro y0 y1 y2 y3 y4
   unfold scarflaw01_UtfBack.l6
   repeat' first
   | (with_reducible exact ih0 _ _ _ _ _)
   | (with_reducible exact ih1 _ _)
   | (with_reducible exact ih2 _ _ _ _)
   | (with_reducible exact ih3 _ _ _ _ _)
   | (with_reducible exact ih4 _ _)
   | (with_reducible exact ih5 _ _ _ _)
   | (with_reducible exact ih6 _ _ _ _ _)
   | (with_reducible exact ih7 _ _)
   | (with_reducible exact ih8 _ _ _ _)
   | (with_reducible exact ih9 _ _ _ _ _)
   | (with_reducible exact ih10 _ _)
   | (with_reducible exact ih11 _ _ _ _)
   | (with_reducible exact scarflaw01_same.mono _ _ _)
   | (with_reducible exact utf_Signs.mono _ _)
   | (with_reducible exact utf_Text.mono _ _)
   | (with_reducible exact LeO.refl _)
   | (with_reducible exact LeO.none _)
   | (with_reducible refine LeO.ite ?_ ?_)
   | (with_reducible refine LeO.bind ?_ (fun _ => ?_))
   | exact ih0 _ _ _ _ _
   | exact ih1 _ _
   | exact ih2 _ _ _ _
   | exact ih3 _ _ _ _ _
   | exact ih4 _ _
   | exact ih5 _ _ _ _
   | exact ih6 _ _ _ _ _
   | exact ih7 _ _
   | exact ih8 _ _ _ _
   | exact ih9 _ _ _ _ _
   | exact ih10 _ _
   | exact ih11 _ _ _ _
   | exact scarflaw01_same.mono _ _ _
   | exact utf_Signs.mono _ _
   | exact utf_Text.mono _ _
   | exact LeO.none _
   | refine LeO.ite ?_ ?_
   | refine LeO.bind ?_ (fun _ => ?_)
  ·intro y0 y1
   unfold scarflaw01_UtfBack.j10
   repeat' first
   | (with_reducible exact ih0 _ _ _ _ _)
   | (with_reducible exact ih1 _ _)
   | (with_reducible exact ih2 _ _ _ _)
   | (with_reducible exact ih3 _ _ _ _ _)
   | (with_reducible exact ih4 _ _)
   | (with_reducible exact ih5 _ _ _ _)
   | (with_reducible exact ih6 _ _ _ _ _)
   | (with_reducible exact ih7 _ _)
   | (with_reducible exact ih8 _ _ _ _)
   | (with_reducible exact ih9 _ _ _ _ _)
   | (with_reducible exact ih10 _ _)
   | (with_reducible exact ih11 _ _ _ _)
   | (with_reducible exact scarflaw01_same.mono _ _ _)
   | (with_reducible exact utf_Signs.mono _ _)
   | (with_reducible exact utf_Text.mono _ _)
   | (with_reducible exact LeO.refl _)
   | (with_reducible exact LeO.none _)
   | (with_reducible refine LeO.ite ?_ ?_)
   | (with_reducible refine LeO.bind ?_ (fun _ => ?_))
   | exact ih0 _ _ _ _ _
   | exact ih1 _ _
   | exact ih2 _ _ _ _
   | exact ih3 _ _ _ _ _
   | exact ih4 _ _
   | exact ih5 _ _ _ _
   | exact ih6 _ _ _ _ _
   | exact ih7 _ _
   | exact ih8 _ _ _ _
   | exact ih9 _ _ _ _ _
   | exact ih10 _ _
   | exact ih11 _ _ _ _
   | exact scarflaw01_same.mono _ _ _
   | exact utf_Signs.mono _ _
   | exact utf_Text.mono _ _
   | exact LeO.none _
   | refine LeO.ite ?_ ?_
   | refine LeO.bind ?_ (fun _ => ?_)
  ·intro y0 y1 y2 y3
   unfold scarflaw01_UtfBack.l7
   repeat' first
   | (with_reducible exact ih0 _ _ _ _ _)
   | (with_reducible exact ih1 _ _)
   | (with_reducible exact ih2 _ _ _ _)
   | (with_reducible exact ih3 _ _ _ _ _)
   | (with_reducible exact ih4 _ _)
   | (with_reducible exact ih5 _ _ _ _)
   | (with_reducible exact ih6 _ _ _ _ _)
   | (with_reducible exact ih7 _ _)
   | (with_reducible exact ih8 _ _ _ _)
   | (with_reducible exact ih9 _ _ _ _ _)
   | (with_reducible exact ih10 _ _)
   | (with_reducible exact ih11 _ _ _ _)
   | (with_reducible exact scarflaw01_same.mono _ _ _)
   | (with_reducible exact utf_Signs.mono _ _)
   | (with_reducible exact utf_Text.mono _ _)
   | (with_reducible exact LeO.refl _)
   | (with_reducible exact LeO.none _)
   | (with_reducible refine LeO.ite ?_ ?_)
   | (with_reducible refine LeO.bind ?_ (fun _ => ?_))
   | exact ih0 _ _ _ _ _
   | exact ih1 _ _
   | exact ih2 _ _ _ _
   | exact ih3 _ _ _ _ _
   | exact ih4 _ _
   | exact ih5 _ _ _ _
   | exact ih6 _ _ _ _ _
   | exact ih7 _ _
   | exact ih8 _ _ _ _
   | exact ih9 _ _ _ _ _
   | exact ih10 _ _
   | exact ih11 _ _ _ _
   | exact scarflaw01_same.mono _ _ _
   | exact utf_Signs.mono _ _
   | exact utf_Text.mono _ _
   | exact LeO.none _
   | refine LeO.ite ?_ ?_
   | refine LeO.bind ?_ (fun _ => ?_)
theorem scarflaw01_UtfBack.mono : ∀ a0 a1 k, LeO (scarflaw01_UtfBack.f k a0 a1) (scarflaw01_UtfBack.f (k + 1) a0 a1) := by
 intro a0 a1 k
 obtain ⟨ih0, ih1, ih2, ih3, ih4, ih5, ih6, ih7, ih8, ih9, ih10, ih11⟩ := scarflaw01_UtfBack.mono_l k
 unfold scarflaw01_UtfBack.f
 repeat' first
   | (with_reducible exact ih0 _ _ _ _ _)
   | (with_reducible exact ih1 _ _)
   | (with_reducible exact ih2 _ _ _ _)
   | (with_reducible exact ih3 _ _ _ _ _)
   | (with_reducible exact ih4 _ _)
   | (with_reducible exact ih5 _ _ _ _)
   | (with_reducible exact ih6 _ _ _ _ _)
   | (with_reducible exact ih7 _ _)
   | (with_reducible exact ih8 _ _ _ _)
   | (with_reducible exact ih9 _ _ _ _ _)
   | (with_reducible exact ih10 _ _)
   | (with_reducible exact ih11 _ _ _ _)
   | (with_reducible exact scarflaw01_same.mono _ _ _)
   | (with_reducible exact utf_Signs.mono _ _)
   | (with_reducible exact utf_Text.mono _ _)
   | (with_reducible exact LeO.refl _)
   | (with_reducible exact LeO.none _)
   | (with_reducible refine LeO.ite ?_ ?_)
   | (with_reducible refine LeO.bind ?_ (fun _ => ?_))
   | exact ih0 _ _ _ _ _
   | exact ih1 _ _
   | exact ih2 _ _ _ _
   | exact ih3 _ _ _ _ _
   | exact ih4 _ _
   | exact ih5 _ _ _ _
   | exact ih6 _ _ _ _ _
   | exact ih7 _ _
   | exact ih8 _ _ _ _
   | exact ih9 _ _ _ _ _
   | exact ih10 _ _
   | exact ih11 _ _ _ _
   | exact scarflaw01_same.mono _ _ _
   | exact utf_Signs.mono _ _
   | exact utf_Text.mono _ _
   | exact LeO.none _
   | refine LeO.ite ?_ ?_
   | refine LeO.bind ?_ (fun _ => ?_)
set_option maxHeartbeats 8000000 in
set_option maxRecDepth 100000 in
theorem scarflaw01_UtfBack.calls (k : Nat) (A0 : Option Addr) (c0 : Nat) (l0 : List Int) (A1 : Option Addr) (c1 : Nat) (l1 : List Int) (r : Bool) (w : World) (hr0 : Kd.C (Kd.int .i64) w A0 l0.length l0) (hc0 : l0.length ≤ c0) (hr1 : Kd.C (Kd.int .u8) w A1 l1.length l1) (hc1 : l1.length ≤ c1) (hG : GLOB w) (h : scarflaw01_UtfBack.f k l0 l1 = some r) :
  Calls Tryd.prog 9 #[.slice A0 l0.length c0, .slice A1 l1.length c1] w fun e w' => e = .returned (.bool r) ∧ Below w.heap.size w w' := by
 have HR0 := Aside0.mk hr0
 have HC0 := Aside0.mk hc0
 clear hr0 hc0
 have HR1 := Aside0.mk hr1
 have HC1 := Aside0.mk hc1
 clear hr1 hc1
 have HG_ := Aside0.mk hG
 clear hG
 have HB := Aside0.mk (Below.refl w.heap.size w)
 have H : (if (l0.length : Int) > 20000 then (if 20000 ≤ (l0.length : Int) then (if (l1.length : Int) > 100000 then (if 100000 ≤ (l1.length : Int) then (scarflaw01_UtfBack.l0 k (l0.take 20000) (l1.take 100000) ([] : List Int) ([] : List Int) 0) else (none)) else (scarflaw01_UtfBack.l2 k (l0.take 20000) l1 ([] : List Int) ([] : List Int) 0)) else (none)) else (if (l1.length : Int) > 100000 then (if 100000 ≤ (l1.length : Int) then (scarflaw01_UtfBack.l4 k l0 (l1.take 100000) ([] : List Int) ([] : List Int) 0) else (none)) else (scarflaw01_UtfBack.l6 k l0 l1 ([] : List Int) ([] : List Int) 0))) = some r := h
 clear h
 by_cases c3 : (l0.length : Int) > 20000
 ·rw [if_pos c3] at H
  have c3b0 : decide (20000 < (l0.length : Int)) = true := decide_eq_true c3
  have c3b1 : decide (20000 < l0.length) = true := decide_eq_true (by omega)
  clear c3
  by_cases c4 : 20000 ≤ (l0.length : Int)
  ·rw [if_pos c4] at H
   have c4b0 := eq_true c4
   have c4b1 : decide (20000 ≤ (l0.length : Int)) = true := decide_eq_true c4
   clear c4
   by_cases c5 : (l1.length : Int) > 100000
   ·rw [if_pos c5] at H
    have c5b0 : decide (100000 < (l1.length : Int)) = true := decide_eq_true c5
    have c5b1 : decide (100000 < l1.length) = true := decide_eq_true (by omega)
    clear c5
    by_cases c6 : 100000 ≤ (l1.length : Int)
    ·rw [if_pos c6] at H
     have c6b0 := eq_true c6
     have c6b1 : decide (100000 ≤ (l1.length : Int)) = true := decide_eq_true c6
     clear c6
     have H' := Aside0.mk H
     clear H
     obtain ⟨i07, hi07, _, hsz7, _⟩ := info_parts info3
     obtain ⟨hcut7, hA7, hC7⟩ := print_take_of (P := Tryd.prog) (Value.int .i64) 0 33 3 .i64 Tryd.underlying33 hi07 hsz7 A0 c0 l0 20000 (by omega) (of_decide_eq_true (by with_reducible assumption)) HC0.out
     have HR129 := Aside0.mk (Kd.C_of_reads (h1 := fun _ => rfl) (hA7 _ (Kd.reads_of_C HR0.out)))
     have HC129 := Aside0.mk hC7
     clear hA7 hC7 hi07 hsz7
     obtain ⟨i08, hi08, _, hsz8, _⟩ := info_parts info5
     obtain ⟨hcut8, hA8, hC8⟩ := print_take_of (P := Tryd.prog) (Value.int .u8) 0 22 5 .i64 Tryd.underlying22 hi08 hsz8 A1 c1 l1 100000 (by omega) (of_decide_eq_true (by with_reducible assumption)) HC1.out
     have HR130 := Aside0.mk (Kd.C_of_reads (h1 := fun _ => rfl) (hA8 _ (Kd.reads_of_C HR1.out)))
     have HC130 := Aside0.mk hC8
     clear hA8 hC8 hi08 hsz8
     go_enter Tryd.func9, Tryd.ntmps9
     go_wp2
     go_loopg [5, 6, 7] k (fun kq v5 v6 v7 w' => ∃ (x5_1 : List Int) (x6_1 : List Int) (x7_1 : Int), v7 = .int .i64 x7_1 ∧ Aside0 (scarflaw01_UtfBack.l0 kq (l0.take 20000) (l1.take 100000) x5_1 x6_1 x7_1 = some r) ∧ Aside0 (kq ≤ k) ∧ Aside0 (Kd.R (Kd.int .u8) 5 w' w.heap.size (fun _ => True) v5 x5_1) ∧ Aside0 (Kd.R (Kd.int .i64) 3 w' w.heap.size (fun _ => True) v6 x6_1) ∧ Aside0 (Below w.heap.size w w'))
     case atStart => exact ⟨(([] : List Int)), (([] : List Int)), (0), (by first | rfl | (simp; done) | (simp [*]; done)), H', ⟨Nat.le_refl _⟩, ⟨by first | exact Kd.R_nil _ _ _ _ _ | exact Kd.N_nil _ _ _ _ _ | exact Kd.V_nil _ _ _ _ _ | exact Kd.Q_nil _ _ _ _ _ | exact Kd.S_nil _ _ _ _ _⟩, ⟨by first | exact Kd.R_nil _ _ _ _ _ | exact Kd.N_nil _ _ _ _ _ | exact Kd.V_nil _ _ _ _ _ | exact Kd.Q_nil _ _ _ _ _ | exact Kd.S_nil _ _ _ _ _⟩, ⟨by repeat (first | (with_reducible first | exact HB.out | apply below_alloc | apply pw_below_drewN | apply below_drew1) | exact HB.out)⟩⟩
     case round =>
      clear H'
      try clear c1
      try clear p2
      try clear c3
      try clear c3b0
      try clear c3b1
      try clear c4
      try clear c4b0
      try clear c4b1
      try clear c5
      try clear c5b0
      try clear c5b1
      try clear c6
      try clear c6b0
      try clear c6b1
      obtain ⟨x5_1, x6_1, x7_1, rfl, HA, HK1, HO_5, HO_6, HB⟩ := hrel
      cases gk with
      | zero => exact absurd HA.out (by simp [scarflaw01_UtfBack.l0])
      | succ k1 =>
       have H := HA.out
       clear HA
       simp only [scarflaw01_UtfBack.l0] at H
       by_cases c9 : x7_1 < ((l0.take 20000).length : Int)
       ·rw [if_pos c9] at H
        have c9b0 : decide (x7_1 < ((l0.take 20000).length : Int)) = true := decide_eq_true c9
        (try (have c9b0t := c9b0; simp only [List.length_take, List.length_drop, Int.reduceToNat] at c9b0t))
        clear c9
        by_cases c10 : 0 ≤ x7_1
        ·rw [if_pos c10] at H
         have c10b0 : decide (0 ≤ x7_1) = true := decide_eq_true c10
         clear c10
         replace H := Option.bind_eq_some_iff.mp H
         obtain ⟨⟨t132, t133⟩, A110, H⟩ := H
         replace H : (if t133 = 0 then (if x5_1.length + t132.length < 140737488355328 then (if x6_1.length < 17592186044416 then (scarflaw01_UtfBack.l0 k1 (l0.take 20000) (l1.take 100000) (x5_1 ++ t132) (x6_1 ++ [rd (l0.take 20000) x7_1]) (wrap64 (x7_1 + 1))) else (none)) else (none)) else (scarflaw01_UtfBack.l0 k1 (l0.take 20000) (l1.take 100000) x5_1 x6_1 (wrap64 (x7_1 + 1)))) = some r := H
         have A11 := Aside0.mk A110
         clear A110
         by_cases c12 : t133 = 0
         ·rw [if_pos c12] at H
          have c12b0 : (t133 == 0) = true := beq_iff_eq.mpr c12
          have c12b1 : (t133 != 0) = false := bne_eq_false_iff_eq.mpr c12
          clear c12
          by_cases c13 : x5_1.length + t132.length < 140737488355328
          ·rw [if_pos c13] at H
           have LMc13 := Aside0.mk c13
           clear c13
           obtain ⟨y136, hy136⟩ : ∃ y_ : List Int, y_ = (x5_1 ++ t132) := ⟨_, rfl⟩
           replace H : (if x6_1.length < 17592186044416 then (scarflaw01_UtfBack.l0 k1 (l0.take 20000) (l1.take 100000) y136 (x6_1 ++ [rd (l0.take 20000) x7_1]) (wrap64 (x7_1 + 1))) else (none)) = some r := by first | (rw [hy136]; with_reducible exact H) | (have H2_ := (Option.bind_some _ _).symm.trans H; rw [hy136]; with_reducible exact H2_) | (have H2_ := (Option.bind_some _ _).symm.trans H; with_reducible exact H2_) | with_reducible exact H | (rw [hy136]; exact H) | exact H
           have Ny136 := Aside0.mk hy136
           clear hy136
           by_cases c14 : x6_1.length < 17592186044416
           ·rw [if_pos c14] at H
            have LMc14 := Aside0.mk c14
            clear c14
            obtain ⟨y140, hy140⟩ : ∃ y_ : List Int, y_ = (x6_1 ++ [rd (l0.take 20000) x7_1]) := ⟨_, rfl⟩
            replace H : (scarflaw01_UtfBack.l0 k1 (l0.take 20000) (l1.take 100000) y136 y140 (wrap64 (x7_1 + 1))) = some r := by first | (rw [hy140]; with_reducible exact H) | (have H2_ := (Option.bind_some _ _).symm.trans H; rw [hy140]; with_reducible exact H2_) | (have H2_ := (Option.bind_some _ _).symm.trans H; with_reducible exact H2_) | with_reducible exact H | (rw [hy140]; exact H) | exact H
            have Ny140 := Aside0.mk hy140
            clear hy140
            have H' := Aside0.mk H
            clear H
            have p131 : 0 ≤ (x7_1 : Int) := of_decide_eq_true (by with_reducible assumption)
            have q131 : x7_1 < ((l0.take 20000).length : Int) := of_decide_eq_true (by with_reducible assumption)
            obtain ⟨ad131, e131, hx131_0⟩ := Kd.at_int HR129.out x7_1 p131 q131
            cases e131
            replace hx131_0 := (HB.out.cell (World.block_lt_of_cell? w _ hx131_0)).trans hx131_0
            replace p131 := eq_true p131
            replace q131 := eq_true q131
            (try (have q131t := q131; simp only [List.length_take, List.length_drop, Int.reduceToNat] at q131t))
            go_wp2_with (first | ((with_reducible refine gate_callee (f := 13) rfl ?_); refine goesL_ (some 39) rfl rfl Tryd.func13 (by kernel_rfl) rfl #[.int .i64 (rd (l0.take 20000) x7_1)] rfl (by (try simp only [List.map_toArray, List.map_cons, List.map_nil]); first | done | rfl | (simp only [List.length_drop, List.length_take]; rfl)) ?_; (with_reducible refine (utf_Bytes.calls (rd (l0.take 20000) x7_1) t132 t133 _ A11.out).mono ?_); rintro e w15 ⟨v134, rfl, ho0, hb⟩; refine ⟨_, rfl, ?_⟩; have n0_ := Aside0.mk (Kd.R_elder' (by (with_reducible repeat (first | apply Kd.R_alloc | apply Kd.R_drewN | apply Kd.R_drew)); exact HO_5.out) (Kd.R_base ho0) hb); have n1_ := Aside0.mk (Kd.R_below (by (with_reducible repeat (first | apply Kd.R_alloc | apply Kd.R_drewN | apply Kd.R_drew)); exact HO_6.out) hb); have n2_ := Aside0.mk (Kd.R_lower (Kd.R_new' ho0 (Kd.R_lt (by (with_reducible repeat (first | apply Kd.R_alloc | apply Kd.R_drewN | apply Kd.R_drew)); exact HO_5.out))) (below_size (by repeat (first | (with_reducible first | exact HB.out | apply below_alloc | apply pw_below_drewN | apply below_drew1) | exact HB.out)))); have n3_ := Aside0.mk (below_step (by repeat (first | (with_reducible first | exact HB.out | apply below_alloc | apply pw_below_drewN | apply below_drew1) | exact HB.out)) hb); clear HO_5; clear HO_6; clear HB; have HO_5 := n0_; have HO_6 := n1_; have HO135 := n2_; have HB := n3_; clear n0_ n1_ n2_ n3_; (try clear hb); (try clear hb2); (try clear hk); (try clear hi); (try clear ho0); obtain ⟨Ao17, co17, eo17⟩ := Kd.R_slice HO135.out; subst eo17) | ((with_reducible refine gate_builtin (b := .append) (xs := #[.tmp 44, .tmp 45]) rfl ?_); at_builtin; refine Kd.R_append_rows (Kd.int .u8) (w0 := w) w.heap.size rfl (.tmp 44) (.tmp 45) 22 5 (.int .u8 0) 1 rfl Tryd.underlying22 info5 rfl (by decide) (by omega) u5 x5_1 t132 _ _ _ (fun k_ => some k_ ≠ (.slice Ao17 t132.length co17 : Value).ownBlock) (fun _ => False) rfl rfl ?aO ?aR (fun _ _ h => h) (fun _ h => h.elim) ?aF ?aB ?aS ?aL ?_; (case aR => repeat (first | exact (Kd.R_reads' HO135.out).2.2 | (with_reducible refine Kd.C_alloc ?_ _) | (with_reducible refine Kd.C_drewN ?_ _) | (with_reducible refine Kd.C_drew ?_))); (case aB => exact (by repeat (first | (with_reducible first | exact HB.out | apply below_alloc | apply pw_below_drewN | apply below_drew1) | exact HB.out))); (case aF => exact (fun k_ hk => Kd.fresh' (Kd.R_lt (by (with_reducible repeat (first | apply Kd.R_alloc | apply Kd.R_drewN | apply Kd.R_drew)); exact HO135.out)) k_ hk)); (case aO => exact (by (with_reducible repeat (first | apply Kd.R_alloc | apply Kd.R_drewN | apply Kd.R_drew)); exact Kd.R_mono HO_5.out (fun _ hk => hk.2))); (case aS => exact (below_size (by repeat (first | (with_reducible first | exact HB.out | apply below_alloc | apply pw_below_drewN | apply below_drew1) | exact HB.out)))); (case aL => have := LMc13.out; omega); intro v137 w16 ho hb hg hat; rw [← Ny136.out] at ho; have n0_ := Aside0.mk (Kd.R_over' (by (with_reducible repeat (first | apply Kd.R_alloc | apply Kd.R_drewN | apply Kd.R_drew)); exact HO_6.out) (Kd.R_typed (by (with_reducible repeat (first | apply Kd.R_alloc | apply Kd.R_drewN | apply Kd.R_drew)); exact HO_5.out)) (by decide) hg); have n1_ := Aside0.mk (Kd.R_after (ok := (fun _ => True)) (by (with_reducible repeat (first | apply Kd.R_alloc | apply Kd.R_drewN | apply Kd.R_drew)); exact HO135.out) hg hat); have n2_ := Aside0.mk (hb); have n3_ := Aside0.mk (ho); clear HO_6; clear HO135; clear HB; clear HO_5; have HO_6 := n0_; have HO135 := n1_; have HB := n2_; have HO138 := n3_; clear n0_ n1_ n2_ n3_; clear ho hb hg hat; have p139 : 0 ≤ (x7_1 : Int) := of_decide_eq_true (by with_reducible assumption); have q139 : x7_1 < ((l0.take 20000).length : Int) := of_decide_eq_true (by with_reducible assumption); obtain ⟨ad139, e139, hx139_0⟩ := Kd.at_int HR129.out x7_1 p139 q139; obtain rfl : ad131 = ad139 := (by injection e139); replace hx139_0 := (HB.out.cell (World.block_lt_of_cell? w _ hx139_0)).trans hx139_0; replace p139 := eq_true p139; replace q139 := eq_true q139) | ((with_reducible refine gate_builtin (b := .append) (xs := #[.tmp 47, .tmp 52]) rfl ?_); at_builtin; refine Kd.R_append (Kd.int .i64) (w0 := w) w.heap.size rfl (.tmp 47) (.tmp 52) 33 3 (.int .i64 0) 8 rfl Tryd.underlying33 info3 rfl (by decide) (by omega) u6 x6_1 (rd (l0.take 20000) x7_1) [.int .i64 (rd (l0.take 20000) x7_1)] (fun _ => True) (fun _ => False) rfl rfl ?aP (fun _ hk => hk.elim) ?aF ?aO ?aB ?aS ?aL ?_; (case aP => exact rfl); (case aB => exact (by repeat (first | (with_reducible first | exact HB.out | apply below_alloc | apply pw_below_drewN | apply below_drew1) | exact HB.out))); (case aF => exact (fun _ _ => trivial)); (case aO => exact (by (with_reducible repeat (first | apply Kd.R_alloc | apply Kd.R_drewN | apply Kd.R_drew)); exact HO_6.out)); (case aS => exact (below_size (by repeat (first | (with_reducible first | exact HB.out | apply below_alloc | apply pw_below_drewN | apply below_drew1) | exact HB.out)))); (case aL => have := LMc14.out; omega); intro v141 w18 ho hb hg hat; rw [← Ny140.out] at ho; have n0_ := Aside0.mk (Kd.R_over' (by (with_reducible repeat (first | apply Kd.R_alloc | apply Kd.R_drewN | apply Kd.R_drew)); exact HO135.out) (Kd.R_typed (by (with_reducible repeat (first | apply Kd.R_alloc | apply Kd.R_drewN | apply Kd.R_drew)); exact HO_6.out)) (by decide) hg); have n1_ := Aside0.mk (Kd.R_over' (by (with_reducible repeat (first | apply Kd.R_alloc | apply Kd.R_drewN | apply Kd.R_drew)); exact HO138.out) (Kd.R_typed (by (with_reducible repeat (first | apply Kd.R_alloc | apply Kd.R_drewN | apply Kd.R_drew)); exact HO_6.out)) (by decide) hg); have n2_ := Aside0.mk (hb); have n3_ := Aside0.mk (ho); clear HO135; clear HO138; clear HB; clear HO_6; have HO135 := n0_; have HO138 := n1_; have HB := n2_; have HO142 := n3_; clear n0_ n1_ n2_ n3_; clear ho hb hg hat))
            go_roundg k1
            case measure => have := HK1.out; omega
            case rel => exact ⟨(y136), (y140), (wrap64 (x7_1 + 1)), (by first | rfl | (simp; done) | (simp [*]; done)), H', ⟨by have := HK1.out; omega⟩, ⟨by (with_reducible repeat (first | apply Kd.R_alloc | apply Kd.R_drewN | apply Kd.R_drew)); exact Kd.R_mono HO138.out (fun _ hk => trivial)⟩, ⟨by (with_reducible repeat (first | apply Kd.R_alloc | apply Kd.R_drewN | apply Kd.R_drew)); exact HO142.out⟩, ⟨by repeat (first | (with_reducible first | exact HB.out | apply below_alloc | apply pw_below_drewN | apply below_drew1) | exact HB.out)⟩⟩
           ·rw [if_neg c14] at H
            exact absurd H (by simp)
          ·rw [if_neg c13] at H
           exact absurd H (by simp)
         ·rw [if_neg c12] at H
          have c12b0 : (t133 == 0) = false := beq_eq_false_iff_ne.mpr c12
          have c12b1 : (t133 != 0) = true := bne_iff_ne.mpr c12
          have H' := Aside0.mk H
          clear H
          have p131 : 0 ≤ (x7_1 : Int) := of_decide_eq_true (by with_reducible assumption)
          have q131 : x7_1 < ((l0.take 20000).length : Int) := of_decide_eq_true (by with_reducible assumption)
          obtain ⟨ad131, e131, hx131_0⟩ := Kd.at_int HR129.out x7_1 p131 q131
          cases e131
          replace hx131_0 := (HB.out.cell (World.block_lt_of_cell? w _ hx131_0)).trans hx131_0
          replace p131 := eq_true p131
          replace q131 := eq_true q131
          (try (have q131t := q131; simp only [List.length_take, List.length_drop, Int.reduceToNat] at q131t))
          go_wp2_with (first | ((with_reducible refine gate_callee (f := 13) rfl ?_); refine goesL_ (some 39) rfl rfl Tryd.func13 (by kernel_rfl) rfl #[.int .i64 (rd (l0.take 20000) x7_1)] rfl (by (try simp only [List.map_toArray, List.map_cons, List.map_nil]); first | done | rfl | (simp only [List.length_drop, List.length_take]; rfl)) ?_; (with_reducible refine (utf_Bytes.calls (rd (l0.take 20000) x7_1) t132 t133 _ A11.out).mono ?_); rintro e w19 ⟨v134, rfl, ho0, hb⟩; refine ⟨_, rfl, ?_⟩; have n0_ := Aside0.mk (Kd.R_elder' (by (with_reducible repeat (first | apply Kd.R_alloc | apply Kd.R_drewN | apply Kd.R_drew)); exact HO_5.out) (Kd.R_base ho0) hb); have n1_ := Aside0.mk (Kd.R_below (by (with_reducible repeat (first | apply Kd.R_alloc | apply Kd.R_drewN | apply Kd.R_drew)); exact HO_6.out) hb); have n2_ := Aside0.mk (Kd.R_lower (Kd.R_new' ho0 (Kd.R_lt (by (with_reducible repeat (first | apply Kd.R_alloc | apply Kd.R_drewN | apply Kd.R_drew)); exact HO_5.out))) (below_size (by repeat (first | (with_reducible first | exact HB.out | apply below_alloc | apply pw_below_drewN | apply below_drew1) | exact HB.out)))); have n3_ := Aside0.mk (below_step (by repeat (first | (with_reducible first | exact HB.out | apply below_alloc | apply pw_below_drewN | apply below_drew1) | exact HB.out)) hb); clear HO_5; clear HO_6; clear HB; have HO_5 := n0_; have HO_6 := n1_; have HO135 := n2_; have HB := n3_; clear n0_ n1_ n2_ n3_; (try clear hb); (try clear hb2); (try clear hk); (try clear hi); (try clear ho0)))
          go_roundg k1
          case measure => have := HK1.out; omega
          case rel => exact ⟨(x5_1), (x6_1), (wrap64 (x7_1 + 1)), (by first | rfl | (simp; done) | (simp [*]; done)), H', ⟨by have := HK1.out; omega⟩, ⟨by (with_reducible repeat (first | apply Kd.R_alloc | apply Kd.R_drewN | apply Kd.R_drew)); exact Kd.R_mono HO_5.out (fun _ hk => trivial)⟩, ⟨by (with_reducible repeat (first | apply Kd.R_alloc | apply Kd.R_drewN | apply Kd.R_drew)); exact HO_6.out⟩, ⟨by repeat (first | (with_reducible first | exact HB.out | apply below_alloc | apply pw_below_drewN | apply below_drew1) | exact HB.out)⟩⟩
        ·rw [if_neg c10] at H
         exact absurd H (by simp)
       ·rw [if_neg c9] at H
        have c9b0 : decide (x7_1 < ((l0.take 20000).length : Int)) = false := decide_eq_false c9
        (try (have c9b0t := c9b0; simp only [List.length_take, List.length_drop, Int.reduceToNat] at c9b0t))
        clear c9
        replace H := Option.bind_eq_some_iff.mp H
        obtain ⟨⟨t143, t144⟩, A200, H⟩ := H
        replace H : ((scarflaw01_known.f).bind fun t147 => (if t147 = true then (if t144 = 0 then ((scarflaw01_same.f k1 t143 x6_1).bind fun t148 => (if t148 = true then ((utf_Text.f k1 x5_1).bind fun t149 => (scarflaw01_UtfBack.j1 k1 (l1.take 100000) (!t149))) else (scarflaw01_UtfBack.j1 k1 (l1.take 100000) true))) else (scarflaw01_UtfBack.j1 k1 (l1.take 100000) true)) else (scarflaw01_UtfBack.j1 k1 (l1.take 100000) true))) = some r := H
        have A20 := Aside0.mk A200
        clear A200
        have HC21 := Aside0.mk H
        clear H
        obtain ⟨Ao22, co22, eo22⟩ := Kd.R_slice HO_5.out
        subst eo22
        go_upto_region 15 with (first | ((with_reducible refine gate_callee (f := 18) rfl ?_); refine goesL_ (some 56) rfl rfl Tryd.func18 (by kernel_rfl) rfl #[.slice Ao22 x5_1.length co22] rfl (by (try simp only [List.map_toArray, List.map_cons, List.map_nil]); first | done | rfl | (simp only [List.length_drop, List.length_take]; rfl)) ?_; (with_reducible refine (utf_Signs.calls k1 _ _ x5_1 t143 t144 _ ?side1 ?side2 ?side3 A20.out).mono ?_); (case side1 => repeat (first | exact (Kd.R_reads' HO_5.out).2.2 | (with_reducible refine Kd.C_alloc ?_ _) | (with_reducible refine Kd.C_drewN ?_ _) | (with_reducible refine Kd.C_drew ?_))); (case side2 => exact (Kd.R_reads' HO_5.out).2.1); (case side3 => repeat (first | exact (GLOB_below HG_.out HB.out) | (with_reducible refine GLOB_alloc ?_ _) | (with_reducible refine GLOB_drewN ?_ _) | (with_reducible refine GLOB_drew ?_))); rintro e w23 ⟨v145, rfl, ho0, hb⟩; refine ⟨_, rfl, ?_⟩; have n0_ := Aside0.mk (Kd.R_below (by (with_reducible repeat (first | apply Kd.R_alloc | apply Kd.R_drewN | apply Kd.R_drew)); exact HO_5.out) hb); have n1_ := Aside0.mk (Kd.R_elder' (by (with_reducible repeat (first | apply Kd.R_alloc | apply Kd.R_drewN | apply Kd.R_drew)); exact HO_6.out) (Kd.R_base ho0) hb); have n2_ := Aside0.mk (Kd.R_lower (Kd.R_new' ho0 (Kd.R_lt (by (with_reducible repeat (first | apply Kd.R_alloc | apply Kd.R_drewN | apply Kd.R_drew)); exact HO_6.out))) (below_size (by repeat (first | (with_reducible first | exact HB.out | apply below_alloc | apply pw_below_drewN | apply below_drew1) | exact HB.out)))); have n3_ := Aside0.mk (below_step (by repeat (first | (with_reducible first | exact HB.out | apply below_alloc | apply pw_below_drewN | apply below_drew1) | exact HB.out)) hb); clear HO_5; clear HO_6; clear HB; have HO_5 := n0_; have HO_6 := n1_; have HO146 := n2_; have HB := n3_; clear n0_ n1_ n2_ n3_; (try clear hb); (try clear hb2); (try clear hk); (try clear hi); (try clear ho0)))
        (try simp only [Act.put, List.setIfInBounds_toArray, List.set_cons_zero, List.set_cons_succ])
        go_cut [75] (fun v75 wc => ∃ (kq : Nat) (x75_20 : Bool), v75 = .bool x75_20 ∧ Aside0 (scarflaw01_UtfBack.j1 kq (l1.take 100000) x75_20 = some r) ∧ Aside0 (kq ≤ k1) ∧ Aside0 (Below w.heap.size w wc))
        case first =>
         have H := HC21.out
         clear HC21
         replace H := Option.bind_eq_some_iff.mp H
         obtain ⟨t147, A240, H⟩ := H
         replace H : (if t147 = true then (if t144 = 0 then ((scarflaw01_same.f k1 t143 x6_1).bind fun t148 => (if t148 = true then ((utf_Text.f k1 x5_1).bind fun t149 => (scarflaw01_UtfBack.j1 k1 (l1.take 100000) (!t149))) else (scarflaw01_UtfBack.j1 k1 (l1.take 100000) true))) else (scarflaw01_UtfBack.j1 k1 (l1.take 100000) true)) else (scarflaw01_UtfBack.j1 k1 (l1.take 100000) true)) = some r := H
         have A24 := Aside0.mk A240
         clear A240
         by_cases c25 : t147 = true
         ·subst c25
          have H1 : (if t144 = 0 then ((scarflaw01_same.f k1 t143 x6_1).bind fun t148 => (if t148 = true then ((utf_Text.f k1 x5_1).bind fun t149 => (scarflaw01_UtfBack.j1 k1 (l1.take 100000) (!t149))) else (scarflaw01_UtfBack.j1 k1 (l1.take 100000) true))) else (scarflaw01_UtfBack.j1 k1 (l1.take 100000) true)) = some r := by rw [if_pos rfl] at H; exact H
          clear H
          have H := H1
          clear H1
          by_cases c26 : t144 = 0
          ·rw [if_pos c26] at H
           have c26b0 : (t144 == 0) = true := beq_iff_eq.mpr c26
           have c26b1 : (t144 != 0) = false := bne_eq_false_iff_eq.mpr c26
           clear c26
           (first | rw [c26b0] | (simp only [i64_w, i32_w]; rw [c26b0]) | skip)
           replace H := Option.bind_eq_some_iff.mp H
           obtain ⟨t148, A270, H⟩ := H
           replace H : (if t148 = true then ((utf_Text.f k1 x5_1).bind fun t149 => (scarflaw01_UtfBack.j1 k1 (l1.take 100000) (!t149))) else (scarflaw01_UtfBack.j1 k1 (l1.take 100000) true)) = some r := H
           have A27 := Aside0.mk A270
           clear A270
           by_cases c28 : t148 = true
           ·subst c28
            have H1 : ((utf_Text.f k1 x5_1).bind fun t149 => (scarflaw01_UtfBack.j1 k1 (l1.take 100000) (!t149))) = some r := by rw [if_pos rfl] at H; exact H
            clear H
            have H := H1
            clear H1
            replace H := Option.bind_eq_some_iff.mp H
            obtain ⟨t149, A290, H⟩ := H
            replace H : (scarflaw01_UtfBack.j1 k1 (l1.take 100000) (!t149)) = some r := H
            have A29 := Aside0.mk A290
            clear A290
            have H' := Aside0.mk H
            clear H
            go_wp2_with (first | ((with_reducible refine gate_callee (f := 12) rfl ?_); refine goesL_ (some 59) rfl rfl Tryd.func12 (by kernel_rfl) rfl #[] rfl (by (try simp only [List.map_toArray, List.map_cons, List.map_nil]); first | done | rfl | (simp only [List.length_drop, List.length_take]; rfl)) ?_; (with_reducible refine (scarflaw01_known.calls  true _ ?side1 A24.out).mono ?_); (case side1 => repeat (first | exact (GLOB_below HG_.out HB.out) | (with_reducible refine GLOB_alloc ?_ _) | (with_reducible refine GLOB_drewN ?_ _) | (with_reducible refine GLOB_drew ?_))); rintro e w30 ⟨rfl, hb⟩; refine ⟨_, rfl, ?_⟩; have n0_ := Aside0.mk (Kd.R_below (by (with_reducible repeat (first | apply Kd.R_alloc | apply Kd.R_drewN | apply Kd.R_drew)); exact HO_5.out) hb); have n1_ := Aside0.mk (Kd.R_below (by (with_reducible repeat (first | apply Kd.R_alloc | apply Kd.R_drewN | apply Kd.R_drew)); exact HO_6.out) hb); have n2_ := Aside0.mk (Kd.R_below (by (with_reducible repeat (first | apply Kd.R_alloc | apply Kd.R_drewN | apply Kd.R_drew)); exact HO146.out) hb); have n3_ := Aside0.mk (below_step (by repeat (first | (with_reducible first | exact HB.out | apply below_alloc | apply pw_below_drewN | apply below_drew1) | exact HB.out)) hb); clear HO_5; clear HO_6; clear HO146; clear HB; have HO_5 := n0_; have HO_6 := n1_; have HO146 := n2_; have HB := n3_; clear n0_ n1_ n2_ n3_; (try clear hb); (try clear hb2); (try clear hk); (try clear hi); obtain ⟨Ao31, co31, eo31⟩ := Kd.R_slice HO146.out; subst eo31; obtain ⟨Ao32, co32, eo32⟩ := Kd.R_slice HO_6.out; subst eo32) | (go_at_call 20; (with_reducible refine (scarflaw01_same.calls k1 _ _ t143 _ _ x6_1 true _ ?side1 ?side2 ?side3 ?side4 A27.out).mono ?_); (case side1 => repeat (first | exact (Kd.R_reads' HO146.out).2.2 | (with_reducible refine Kd.C_alloc ?_ _) | (with_reducible refine Kd.C_drewN ?_ _) | (with_reducible refine Kd.C_drew ?_))); (case side2 => exact (Kd.R_reads' HO146.out).2.1); (case side3 => repeat (first | exact (Kd.R_reads' HO_6.out).2.2 | (with_reducible refine Kd.C_alloc ?_ _) | (with_reducible refine Kd.C_drewN ?_ _) | (with_reducible refine Kd.C_drew ?_))); (case side4 => exact (Kd.R_reads' HO_6.out).2.1); rintro e w' ⟨rfl, ⟨nd, rfl⟩⟩) | (go_at_call 17; (with_reducible refine (utf_Text.calls k1 _ _ x5_1 t149 _ ?side1 ?side2 ?side3 A29.out).mono ?_); (case side1 => repeat (first | exact (Kd.R_reads' HO_5.out).2.2 | (with_reducible refine Kd.C_alloc ?_ _) | (with_reducible refine Kd.C_drewN ?_ _) | (with_reducible refine Kd.C_drew ?_))); (case side2 => exact (Kd.R_reads' HO_5.out).2.1); (case side3 => repeat (first | exact (GLOB_below HG_.out (by repeat (first | (with_reducible first | exact HB.out | apply below_alloc | apply pw_below_drewN | apply below_drew1) | exact HB.out))) | (with_reducible refine GLOB_alloc ?_ _) | (with_reducible refine GLOB_drewN ?_ _) | (with_reducible refine GLOB_drew ?_))); rintro e w33 ⟨rfl, hb⟩; have n0_ := Aside0.mk (Kd.R_below (by (with_reducible repeat (first | apply Kd.R_alloc | apply Kd.R_drewN | apply Kd.R_drew)); exact HO_5.out) hb); have n1_ := Aside0.mk (Kd.R_below (by (with_reducible repeat (first | apply Kd.R_alloc | apply Kd.R_drewN | apply Kd.R_drew)); exact HO_6.out) hb); have n2_ := Aside0.mk (Kd.R_below (by (with_reducible repeat (first | apply Kd.R_alloc | apply Kd.R_drewN | apply Kd.R_drew)); exact HO146.out) hb); have n3_ := Aside0.mk (below_step (by repeat (first | (with_reducible first | exact HB.out | apply below_alloc | apply pw_below_drewN | apply below_drew1) | exact HB.out)) hb); clear HO_5; clear HO_6; clear HO146; clear HB; have HO_5 := n0_; have HO_6 := n1_; have HO146 := n2_; have HB := n3_; clear n0_ n1_ n2_ n3_; (try clear hb); (try clear hb2); (try clear hk); (try clear hi)))
            go_meet
            case rel => exact ⟨_, (!t149), (by first | rfl | (simp; done) | (simp [*]; done)), H', ⟨by have := HK1.out; first | omega | exact Nat.le_refl _⟩, ⟨by repeat (first | (with_reducible first | exact HB.out | apply below_alloc | apply pw_below_drewN | apply below_drew1) | exact HB.out)⟩⟩
           ·replace c28 := Bool.eq_false_iff.mpr c28
            subst c28
            have H1 : (scarflaw01_UtfBack.j1 k1 (l1.take 100000) true) = some r := by rw [if_neg (show ¬ (false = true) by decide)] at H; exact H
            clear H
            have H := H1
            clear H1
            have H' := Aside0.mk H
            clear H
            go_wp2_with (first | ((with_reducible refine gate_callee (f := 12) rfl ?_); refine goesL_ (some 59) rfl rfl Tryd.func12 (by kernel_rfl) rfl #[] rfl (by (try simp only [List.map_toArray, List.map_cons, List.map_nil]); first | done | rfl | (simp only [List.length_drop, List.length_take]; rfl)) ?_; (with_reducible refine (scarflaw01_known.calls  true _ ?side1 A24.out).mono ?_); (case side1 => repeat (first | exact (GLOB_below HG_.out HB.out) | (with_reducible refine GLOB_alloc ?_ _) | (with_reducible refine GLOB_drewN ?_ _) | (with_reducible refine GLOB_drew ?_))); rintro e w34 ⟨rfl, hb⟩; refine ⟨_, rfl, ?_⟩; have n0_ := Aside0.mk (Kd.R_below (by (with_reducible repeat (first | apply Kd.R_alloc | apply Kd.R_drewN | apply Kd.R_drew)); exact HO_5.out) hb); have n1_ := Aside0.mk (Kd.R_below (by (with_reducible repeat (first | apply Kd.R_alloc | apply Kd.R_drewN | apply Kd.R_drew)); exact HO_6.out) hb); have n2_ := Aside0.mk (Kd.R_below (by (with_reducible repeat (first | apply Kd.R_alloc | apply Kd.R_drewN | apply Kd.R_drew)); exact HO146.out) hb); have n3_ := Aside0.mk (below_step (by repeat (first | (with_reducible first | exact HB.out | apply below_alloc | apply pw_below_drewN | apply below_drew1) | exact HB.out)) hb); clear HO_5; clear HO_6; clear HO146; clear HB; have HO_5 := n0_; have HO_6 := n1_; have HO146 := n2_; have HB := n3_; clear n0_ n1_ n2_ n3_; (try clear hb); (try clear hb2); (try clear hk); (try clear hi); obtain ⟨Ao35, co35, eo35⟩ := Kd.R_slice HO146.out; subst eo35; obtain ⟨Ao36, co36, eo36⟩ := Kd.R_slice HO_6.out; subst eo36) | (go_at_call 20; (with_reducible refine (scarflaw01_same.calls k1 _ _ t143 _ _ x6_1 false _ ?side1 ?side2 ?side3 ?side4 A27.out).mono ?_); (case side1 => repeat (first | exact (Kd.R_reads' HO146.out).2.2 | (with_reducible refine Kd.C_alloc ?_ _) | (with_reducible refine Kd.C_drewN ?_ _) | (with_reducible refine Kd.C_drew ?_))); (case side2 => exact (Kd.R_reads' HO146.out).2.1); (case side3 => repeat (first | exact (Kd.R_reads' HO_6.out).2.2 | (with_reducible refine Kd.C_alloc ?_ _) | (with_reducible refine Kd.C_drewN ?_ _) | (with_reducible refine Kd.C_drew ?_))); (case side4 => exact (Kd.R_reads' HO_6.out).2.1); rintro e w' ⟨rfl, ⟨nd, rfl⟩⟩))
            go_meet
            case rel => exact ⟨_, (true), (by first | rfl | (simp; done) | (simp [*]; done)), H', ⟨by have := HK1.out; first | omega | exact Nat.le_refl _⟩, ⟨by repeat (first | (with_reducible first | exact HB.out | apply below_alloc | apply pw_below_drewN | apply below_drew1) | exact HB.out)⟩⟩
          ·rw [if_neg c26] at H
           have c26b0 : (t144 == 0) = false := beq_eq_false_iff_ne.mpr c26
           have c26b1 : (t144 != 0) = true := bne_iff_ne.mpr c26
           (first | rw [c26b0] | (simp only [i64_w, i32_w]; rw [c26b0]) | skip)
           have H' := Aside0.mk H
           clear H
           go_wp2_with (first | ((with_reducible refine gate_callee (f := 12) rfl ?_); refine goesL_ (some 59) rfl rfl Tryd.func12 (by kernel_rfl) rfl #[] rfl (by (try simp only [List.map_toArray, List.map_cons, List.map_nil]); first | done | rfl | (simp only [List.length_drop, List.length_take]; rfl)) ?_; (with_reducible refine (scarflaw01_known.calls  true _ ?side1 A24.out).mono ?_); (case side1 => repeat (first | exact (GLOB_below HG_.out HB.out) | (with_reducible refine GLOB_alloc ?_ _) | (with_reducible refine GLOB_drewN ?_ _) | (with_reducible refine GLOB_drew ?_))); rintro e w37 ⟨rfl, hb⟩; refine ⟨_, rfl, ?_⟩; have n0_ := Aside0.mk (Kd.R_below (by (with_reducible repeat (first | apply Kd.R_alloc | apply Kd.R_drewN | apply Kd.R_drew)); exact HO_5.out) hb); have n1_ := Aside0.mk (Kd.R_below (by (with_reducible repeat (first | apply Kd.R_alloc | apply Kd.R_drewN | apply Kd.R_drew)); exact HO_6.out) hb); have n2_ := Aside0.mk (Kd.R_below (by (with_reducible repeat (first | apply Kd.R_alloc | apply Kd.R_drewN | apply Kd.R_drew)); exact HO146.out) hb); have n3_ := Aside0.mk (below_step (by repeat (first | (with_reducible first | exact HB.out | apply below_alloc | apply pw_below_drewN | apply below_drew1) | exact HB.out)) hb); clear HO_5; clear HO_6; clear HO146; clear HB; have HO_5 := n0_; have HO_6 := n1_; have HO146 := n2_; have HB := n3_; clear n0_ n1_ n2_ n3_; (try clear hb); (try clear hb2); (try clear hk); (try clear hi)))
           go_meet
           case rel => exact ⟨_, (true), (by first | rfl | (simp; done) | (simp [*]; done)), H', ⟨by have := HK1.out; first | omega | exact Nat.le_refl _⟩, ⟨by repeat (first | (with_reducible first | exact HB.out | apply below_alloc | apply pw_below_drewN | apply below_drew1) | exact HB.out)⟩⟩
         ·replace c25 := Bool.eq_false_iff.mpr c25
          subst c25
          have H1 : (scarflaw01_UtfBack.j1 k1 (l1.take 100000) true) = some r := by rw [if_neg (show ¬ (false = true) by decide)] at H; exact H
          clear H
          have H := H1
          clear H1
          have H' := Aside0.mk H
          clear H
          go_wp2_with (first | ((with_reducible refine gate_callee (f := 12) rfl ?_); refine goesL_ (some 59) rfl rfl Tryd.func12 (by kernel_rfl) rfl #[] rfl (by (try simp only [List.map_toArray, List.map_cons, List.map_nil]); first | done | rfl | (simp only [List.length_drop, List.length_take]; rfl)) ?_; (with_reducible refine (scarflaw01_known.calls  false _ ?side1 A24.out).mono ?_); (case side1 => repeat (first | exact (GLOB_below HG_.out HB.out) | (with_reducible refine GLOB_alloc ?_ _) | (with_reducible refine GLOB_drewN ?_ _) | (with_reducible refine GLOB_drew ?_))); rintro e w38 ⟨rfl, hb⟩; refine ⟨_, rfl, ?_⟩; have n0_ := Aside0.mk (Kd.R_below (by (with_reducible repeat (first | apply Kd.R_alloc | apply Kd.R_drewN | apply Kd.R_drew)); exact HO_5.out) hb); have n1_ := Aside0.mk (Kd.R_below (by (with_reducible repeat (first | apply Kd.R_alloc | apply Kd.R_drewN | apply Kd.R_drew)); exact HO_6.out) hb); have n2_ := Aside0.mk (Kd.R_below (by (with_reducible repeat (first | apply Kd.R_alloc | apply Kd.R_drewN | apply Kd.R_drew)); exact HO146.out) hb); have n3_ := Aside0.mk (below_step (by repeat (first | (with_reducible first | exact HB.out | apply below_alloc | apply pw_below_drewN | apply below_drew1) | exact HB.out)) hb); clear HO_5; clear HO_6; clear HO146; clear HB; have HO_5 := n0_; have HO_6 := n1_; have HO146 := n2_; have HB := n3_; clear n0_ n1_ n2_ n3_; (try clear hb); (try clear hb2); (try clear hk); (try clear hi)))
          go_meet
          case rel => exact ⟨_, (true), (by first | rfl | (simp; done) | (simp [*]; done)), H', ⟨by have := HK1.out; first | omega | exact Nat.le_refl _⟩, ⟨by repeat (first | (with_reducible first | exact HB.out | apply below_alloc | apply pw_below_drewN | apply below_drew1) | exact HB.out)⟩⟩
        case rest =>
         clear HC21
         try clear c1
         try clear p1
         try clear q1
         try clear hx1
         try clear c2
         try clear p2
         try clear c3
         try clear c3b0
         try clear c3b1
         try clear c4
         try clear c4b0
         try clear c4b1
         try clear c5
         try clear c5b0
         try clear c5b1
         try clear c6
         try clear c6b0
         try clear c6b1
         try clear p6
         try clear c9
         try clear c9b0
         try clear c10
         try clear c10b0
         try clear c12
         try clear c12b0
         try clear c12b1
         try clear c13
         try clear p13
         try clear q13
         try clear hx13
         try clear c14
         try clear c18
         try clear c25
         try clear c26
         try clear c26b0
         try clear c26b1
         try clear c28
         try clear hx131_0
         try clear hx139_0
         try clear p131
         try clear p139
         try clear p2
         try clear q131
         try clear q139
         obtain ⟨kq, x75_20, rfl, HA, HJ20, HB⟩ := hcut
         cases kq with
         | zero => exact absurd HA.out (by simp [scarflaw01_UtfBack.j1])
         | succ kj20 =>
          have H := HA.out
          clear HA
          simp only [scarflaw01_UtfBack.j1] at H
          by_cases c39 : x75_20 = true
          ·subst c39
           have H1 : (some false) = some r := by rw [if_pos rfl] at H; exact H
           clear H
           have H := H1
           clear H1
           obtain rfl := Option.some.inj H
           go_wp2
           go_ret
           exact ⟨by first | rfl | (simp [errW_none, errW_some] <;> rfl) | (simp [*, errW_none, errW_some] <;> rfl), by repeat (first | (with_reducible first | exact HB.out | apply below_alloc | apply pw_below_drewN | apply below_drew1) | exact HB.out)⟩
          ·replace c39 := Bool.eq_false_iff.mpr c39
           subst c39
           have H1 : ((utf_Signs.f kj20 (l1.take 100000)).bind fun bt150 => (if bt150.2 = 0 then (scarflaw01_UtfBack.l1 kj20 (l1.take 100000) bt150.1 ([] : List Int) 0) else ((utf_Text.f kj20 (l1.take 100000)).bind fun t154 => (some (!t154))))) = some r := by rw [if_neg (show ¬ (false = true) by decide)] at H; exact H
           clear H
           have H := H1
           clear H1
           replace H := Option.bind_eq_some_iff.mp H
           obtain ⟨⟨t150, t151⟩, A400, H⟩ := H
           replace H : (if t151 = 0 then (scarflaw01_UtfBack.l1 kj20 (l1.take 100000) t150 ([] : List Int) 0) else ((utf_Text.f kj20 (l1.take 100000)).bind fun t154 => (some (!t154)))) = some r := H
           have A40 := Aside0.mk A400
           clear A400
           by_cases c41 : t151 = 0
           ·rw [if_pos c41] at H
            have c41b0 : (t151 == 0) = true := beq_iff_eq.mpr c41
            have c41b1 : (t151 != 0) = false := bne_eq_false_iff_eq.mpr c41
            clear c41
            have H' := Aside0.mk H
            clear H
            go_wp2_with (first | ((with_reducible refine gate_callee (f := 18) rfl ?_); refine goesL_ (some 78) rfl rfl Tryd.func18 (by kernel_rfl) rfl #[.slice A1 (l1.take 100000).length c1] rfl (by (try simp only [List.map_toArray, List.map_cons, List.map_nil]); first | done | (rw [show (l1.take 100000).length = 100000 from (by rw [List.length_take]; have h_ : (100000 : Int) ≤ (l1.length : Int) := of_decide_eq_true (by with_reducible assumption); omega)] <;> rfl) | rfl | (simp only [List.length_drop, List.length_take]; rfl)) ?_; (with_reducible refine (utf_Signs.calls kj20 _ _ (l1.take 100000) t150 t151 _ ?side1 ?side2 ?side3 A40.out).mono ?_); (case side1 => repeat (first | exact (Kd.C_below HR130.out HB.out) | (with_reducible refine Kd.C_alloc ?_ _) | (with_reducible refine Kd.C_drewN ?_ _) | (with_reducible refine Kd.C_drew ?_))); (case side2 => exact HC130.out); (case side3 => repeat (first | exact (GLOB_below HG_.out HB.out) | (with_reducible refine GLOB_alloc ?_ _) | (with_reducible refine GLOB_drewN ?_ _) | (with_reducible refine GLOB_drew ?_))); rintro e w42 ⟨v152, rfl, ho0, hb⟩; refine ⟨_, rfl, ?_⟩; have n0_ := Aside0.mk (Kd.R_lower ho0 (below_size (by repeat (first | (with_reducible first | exact HB.out | apply below_alloc | apply pw_below_drewN | apply below_drew1) | exact HB.out)))); have n1_ := Aside0.mk (below_step (by repeat (first | (with_reducible first | exact HB.out | apply below_alloc | apply pw_below_drewN | apply below_drew1) | exact HB.out)) hb); clear HB; have HO153 := n0_; have HB := n1_; clear n0_ n1_; (try clear hb); (try clear hb2); (try clear hk); (try clear hi); (try clear ho0)))
            go_loopg [14, 15] kj20 (fun kq v14 v15 w' => ∃ (x14_3 : List Int) (x15_3 : Int), v15 = .int .i64 x15_3 ∧ Aside0 (scarflaw01_UtfBack.l1 kq (l1.take 100000) t150 x14_3 x15_3 = some r) ∧ Aside0 (kq ≤ kj20) ∧ Aside0 (Kd.R (Kd.int .i64) 3 w' w.heap.size (fun _ => True) v152 t150) ∧ Aside0 (Kd.R (Kd.int .u8) 5 w' w.heap.size (fun _ => True) v14 x14_3) ∧ Aside0 (Below w.heap.size w w'))
            case atStart => exact ⟨(([] : List Int)), (0), (by first | rfl | (simp; done) | (simp [*]; done)), H', ⟨Nat.le_refl _⟩, ⟨by (with_reducible repeat (first | apply Kd.R_alloc | apply Kd.R_drewN | apply Kd.R_drew)); exact HO153.out⟩, ⟨by first | exact Kd.R_nil _ _ _ _ _ | exact Kd.N_nil _ _ _ _ _ | exact Kd.V_nil _ _ _ _ _ | exact Kd.Q_nil _ _ _ _ _ | exact Kd.S_nil _ _ _ _ _⟩, ⟨by repeat (first | (with_reducible first | exact HB.out | apply below_alloc | apply pw_below_drewN | apply below_drew1) | exact HB.out)⟩⟩
            case round =>
             clear H'
             try clear c1
             try clear p1
             try clear q1
             try clear hx1
             try clear c2
             try clear p2
             try clear c3
             try clear c3b0
             try clear c3b1
             try clear c4
             try clear c4b0
             try clear c4b1
             try clear c5
             try clear c5b0
             try clear c5b1
             try clear c6
             try clear c6b0
             try clear c6b1
             try clear p6
             try clear c9
             try clear c9b0
             try clear c10
             try clear c10b0
             try clear c12
             try clear c12b0
             try clear c12b1
             try clear c13
             try clear p13
             try clear q13
             try clear hx13
             try clear c14
             try clear c18
             try clear c25
             try clear c26
             try clear c26b0
             try clear c26b1
             try clear c28
             try clear c39
             try clear c41
             try clear c41b0
             try clear c41b1
             try clear hx131_0
             try clear hx139_0
             try clear p1
             try clear p13
             try clear p131
             try clear p139
             try clear p2
             try clear p6
             try clear q1
             try clear q13
             try clear q131
             try clear q139
             obtain ⟨x14_3, x15_3, rfl, HA, HK3, HO_12, HO_14, HB⟩ := hrel
             cases gk with
             | zero => exact absurd HA.out (by simp [scarflaw01_UtfBack.l1])
             | succ k3 =>
              have H := HA.out
              clear HA
              simp only [scarflaw01_UtfBack.l1] at H
              by_cases c43 : x15_3 < (t150.length : Int)
              ·rw [if_pos c43] at H
               have c43b0 : decide (x15_3 < (t150.length : Int)) = true := decide_eq_true c43
               clear c43
               by_cases c44 : 0 ≤ x15_3
               ·rw [if_pos c44] at H
                have c44b0 : decide (0 ≤ x15_3) = true := decide_eq_true c44
                clear c44
                replace H := Option.bind_eq_some_iff.mp H
                obtain ⟨⟨t156, t157⟩, A450, H⟩ := H
                replace H : (if t157 = 0 then (if x14_3.length + t156.length < 140737488355328 then (scarflaw01_UtfBack.l1 k3 (l1.take 100000) t150 (x14_3 ++ t156) (wrap64 (x15_3 + 1))) else (none)) else (some false)) = some r := H
                have A45 := Aside0.mk A450
                clear A450
                by_cases c46 : t157 = 0
                ·rw [if_pos c46] at H
                 have c46b0 : (t157 == 0) = true := beq_iff_eq.mpr c46
                 have c46b1 : (t157 != 0) = false := bne_eq_false_iff_eq.mpr c46
                 clear c46
                 by_cases c47 : x14_3.length + t156.length < 140737488355328
                 ·rw [if_pos c47] at H
                  have LMc47 := Aside0.mk c47
                  clear c47
                  obtain ⟨y160, hy160⟩ : ∃ y_ : List Int, y_ = (x14_3 ++ t156) := ⟨_, rfl⟩
                  replace H : (scarflaw01_UtfBack.l1 k3 (l1.take 100000) t150 y160 (wrap64 (x15_3 + 1))) = some r := by first | (rw [hy160]; with_reducible exact H) | (have H2_ := (Option.bind_some _ _).symm.trans H; rw [hy160]; with_reducible exact H2_) | (have H2_ := (Option.bind_some _ _).symm.trans H; with_reducible exact H2_) | with_reducible exact H | (rw [hy160]; exact H) | exact H
                  have Ny160 := Aside0.mk hy160
                  clear hy160
                  have H' := Aside0.mk H
                  clear H
                  obtain ⟨Ao48, co48, eo48⟩ := Kd.R_slice HO_12.out
                  subst eo48
                  have p155 : 0 ≤ (x15_3 : Int) := of_decide_eq_true (by with_reducible assumption)
                  have q155 : x15_3 < (t150.length : Int) := of_decide_eq_true (by with_reducible assumption)
                  obtain ⟨ad155, e155, hx155_0⟩ := Kd.at_int (Kd.R_reads' HO_12.out).2.2 x15_3 p155 q155
                  cases e155
                  replace p155 := eq_true p155
                  replace q155 := eq_true q155
                  go_wp2_with (first | ((with_reducible refine gate_callee (f := 13) rfl ?_); refine goesL_ (some 97) rfl rfl Tryd.func13 (by kernel_rfl) rfl #[.int .i64 (rd t150 x15_3)] rfl (by (try simp only [List.map_toArray, List.map_cons, List.map_nil]); first | done | rfl | (simp only [List.length_drop, List.length_take]; rfl)) ?_; (with_reducible refine (utf_Bytes.calls (rd t150 x15_3) t156 t157 _ A45.out).mono ?_); rintro e w49 ⟨v158, rfl, ho0, hb⟩; refine ⟨_, rfl, ?_⟩; have n0_ := Aside0.mk (Kd.R_below (by (with_reducible repeat (first | apply Kd.R_alloc | apply Kd.R_drewN | apply Kd.R_drew)); exact HO_12.out) hb); have n1_ := Aside0.mk (Kd.R_elder' (by (with_reducible repeat (first | apply Kd.R_alloc | apply Kd.R_drewN | apply Kd.R_drew)); exact HO_14.out) (Kd.R_base ho0) hb); have n2_ := Aside0.mk (Kd.R_lower (Kd.R_new' ho0 (Kd.R_lt (by (with_reducible repeat (first | apply Kd.R_alloc | apply Kd.R_drewN | apply Kd.R_drew)); exact HO_14.out))) (below_size (by repeat (first | (with_reducible first | exact HB.out | apply below_alloc | apply pw_below_drewN | apply below_drew1) | exact HB.out)))); have n3_ := Aside0.mk (below_step (by repeat (first | (with_reducible first | exact HB.out | apply below_alloc | apply pw_below_drewN | apply below_drew1) | exact HB.out)) hb); clear HO_12; clear HO_14; clear HB; have HO_12 := n0_; have HO_14 := n1_; have HO159 := n2_; have HB := n3_; clear n0_ n1_ n2_ n3_; (try clear hb); (try clear hb2); (try clear hk); (try clear hi); (try clear ho0); obtain ⟨Ao51, co51, eo51⟩ := Kd.R_slice HO159.out; subst eo51) | ((with_reducible refine gate_builtin (b := .append) (xs := #[.tmp 102, .tmp 103]) rfl ?_); at_builtin; refine Kd.R_append_rows (Kd.int .u8) (w0 := w) w.heap.size rfl (.tmp 102) (.tmp 103) 22 5 (.int .u8 0) 1 rfl Tryd.underlying22 info5 rfl (by decide) (by omega) u14 x14_3 t156 _ _ _ (fun k_ => some k_ ≠ (.slice Ao51 t156.length co51 : Value).ownBlock) (fun _ => False) rfl rfl ?aO ?aR (fun _ _ h => h) (fun _ h => h.elim) ?aF ?aB ?aS ?aL ?_; (case aR => repeat (first | exact (Kd.R_reads' HO159.out).2.2 | (with_reducible refine Kd.C_alloc ?_ _) | (with_reducible refine Kd.C_drewN ?_ _) | (with_reducible refine Kd.C_drew ?_))); (case aB => exact (by repeat (first | (with_reducible first | exact HB.out | apply below_alloc | apply pw_below_drewN | apply below_drew1) | exact HB.out))); (case aF => exact (fun k_ hk => Kd.fresh' (Kd.R_lt (by (with_reducible repeat (first | apply Kd.R_alloc | apply Kd.R_drewN | apply Kd.R_drew)); exact HO159.out)) k_ hk)); (case aO => exact (by (with_reducible repeat (first | apply Kd.R_alloc | apply Kd.R_drewN | apply Kd.R_drew)); exact Kd.R_mono HO_14.out (fun _ hk => hk.2))); (case aS => exact (below_size (by repeat (first | (with_reducible first | exact HB.out | apply below_alloc | apply pw_below_drewN | apply below_drew1) | exact HB.out)))); (case aL => have := LMc47.out; omega); intro v161 w50 ho hb hg hat; rw [← Ny160.out] at ho; have n0_ := Aside0.mk (Kd.R_over' (by (with_reducible repeat (first | apply Kd.R_alloc | apply Kd.R_drewN | apply Kd.R_drew)); exact HO_12.out) (Kd.R_typed (by (with_reducible repeat (first | apply Kd.R_alloc | apply Kd.R_drewN | apply Kd.R_drew)); exact HO_14.out)) (by decide) hg); have n1_ := Aside0.mk (Kd.R_after (ok := (fun _ => True)) (by (with_reducible repeat (first | apply Kd.R_alloc | apply Kd.R_drewN | apply Kd.R_drew)); exact HO159.out) hg hat); have n2_ := Aside0.mk (hb); have n3_ := Aside0.mk (ho); clear HO_12; clear HO159; clear HB; clear HO_14; have HO_12 := n0_; have HO159 := n1_; have HB := n2_; have HO162 := n3_; clear n0_ n1_ n2_ n3_; clear ho hb hg hat))
                  go_roundg k3
                  case measure => have := HK1.out; have := HJ20.out; have := HK3.out; omega
                  case rel => exact ⟨(y160), (wrap64 (x15_3 + 1)), (by first | rfl | (simp; done) | (simp [*]; done)), H', ⟨by have := HK1.out; have := HJ20.out; have := HK3.out; omega⟩, ⟨by (with_reducible repeat (first | apply Kd.R_alloc | apply Kd.R_drewN | apply Kd.R_drew)); exact HO_12.out⟩, ⟨by (with_reducible repeat (first | apply Kd.R_alloc | apply Kd.R_drewN | apply Kd.R_drew)); exact Kd.R_mono HO162.out (fun _ hk => trivial)⟩, ⟨by repeat (first | (with_reducible first | exact HB.out | apply below_alloc | apply pw_below_drewN | apply below_drew1) | exact HB.out)⟩⟩
                 ·rw [if_neg c47] at H
                  exact absurd H (by simp)
                ·rw [if_neg c46] at H
                 have c46b0 : (t157 == 0) = false := beq_eq_false_iff_ne.mpr c46
                 have c46b1 : (t157 != 0) = true := bne_iff_ne.mpr c46
                 obtain rfl := Option.some.inj H
                 obtain ⟨Ao52, co52, eo52⟩ := Kd.R_slice HO_12.out
                 subst eo52
                 have p155 : 0 ≤ (x15_3 : Int) := of_decide_eq_true (by with_reducible assumption)
                 have q155 : x15_3 < (t150.length : Int) := of_decide_eq_true (by with_reducible assumption)
                 obtain ⟨ad155, e155, hx155_0⟩ := Kd.at_int (Kd.R_reads' HO_12.out).2.2 x15_3 p155 q155
                 cases e155
                 replace p155 := eq_true p155
                 replace q155 := eq_true q155
                 go_wp2_with (first | ((with_reducible refine gate_callee (f := 13) rfl ?_); refine goesL_ (some 97) rfl rfl Tryd.func13 (by kernel_rfl) rfl #[.int .i64 (rd t150 x15_3)] rfl (by (try simp only [List.map_toArray, List.map_cons, List.map_nil]); first | done | rfl | (simp only [List.length_drop, List.length_take]; rfl)) ?_; (with_reducible refine (utf_Bytes.calls (rd t150 x15_3) t156 t157 _ A45.out).mono ?_); rintro e w53 ⟨v158, rfl, ho0, hb⟩; refine ⟨_, rfl, ?_⟩; have n0_ := Aside0.mk (Kd.R_below (by (with_reducible repeat (first | apply Kd.R_alloc | apply Kd.R_drewN | apply Kd.R_drew)); exact HO_12.out) hb); have n1_ := Aside0.mk (Kd.R_elder' (by (with_reducible repeat (first | apply Kd.R_alloc | apply Kd.R_drewN | apply Kd.R_drew)); exact HO_14.out) (Kd.R_base ho0) hb); have n2_ := Aside0.mk (Kd.R_lower (Kd.R_new' ho0 (Kd.R_lt (by (with_reducible repeat (first | apply Kd.R_alloc | apply Kd.R_drewN | apply Kd.R_drew)); exact HO_14.out))) (below_size (by repeat (first | (with_reducible first | exact HB.out | apply below_alloc | apply pw_below_drewN | apply below_drew1) | exact HB.out)))); have n3_ := Aside0.mk (below_step (by repeat (first | (with_reducible first | exact HB.out | apply below_alloc | apply pw_below_drewN | apply below_drew1) | exact HB.out)) hb); clear HO_12; clear HO_14; clear HB; have HO_12 := n0_; have HO_14 := n1_; have HO159 := n2_; have HB := n3_; clear n0_ n1_ n2_ n3_; (try clear hb); (try clear hb2); (try clear hk); (try clear hi); (try clear ho0)))
                 go_ret
                 exact ⟨by first | rfl | (simp [errW_none, errW_some] <;> rfl) | (simp [*, errW_none, errW_some] <;> rfl), by repeat (first | (with_reducible first | exact HB.out | apply below_alloc | apply pw_below_drewN | apply below_drew1) | exact HB.out)⟩
               ·rw [if_neg c44] at H
                exact absurd H (by simp)
              ·rw [if_neg c43] at H
               have c43b0 : decide (x15_3 < (t150.length : Int)) = false := decide_eq_false c43
               clear c43
               obtain rfl := Option.some.inj H
               obtain ⟨Ao54, co54, eo54⟩ := Kd.R_slice HO_12.out
               subst eo54
               have hcv55 := own_string (P := Tryd.prog) Tryd.underlying22 Tryd.underlying5 Tryd.underlying9 (Kd.own_of_R HO_14.out)
               (try (have hcn55 := fun n_ : Nat => own_string (P := Tryd.prog) Tryd.underlying22 Tryd.underlying5 Tryd.underlying9 (Kd.own_of_R (Kd.R_drewN HO_14.out n_))))
               have hcv56 := Kd.C_string (P := Tryd.prog) (A := A1) (c := c1) Tryd.underlying22 Tryd.underlying5 Tryd.underlying9 (Kd.C_below HR130.out HB.out)
               (try (have hcv56t := hcv56; simp only [Int.reduceToNat, show (l1.take 100000).length = 100000 from (by rw [List.length_take]; have h_ : (100000 : Int) ≤ (l1.length : Int) := of_decide_eq_true (by with_reducible assumption); omega)] at hcv56t))
               (try (have hcv56m := hcv56; simp only [List.length_take, List.length_drop, Int.reduceToNat] at hcv56m))
               have hcn56 := fun n_ : Nat => Kd.C_string (P := Tryd.prog) (A := A1) (c := c1) Tryd.underlying22 Tryd.underlying5 Tryd.underlying9 (Kd.C_drewN (Kd.C_below HR130.out HB.out) n_)
               (try (have hcn56t := hcn56; simp only [Int.reduceToNat, show (l1.take 100000).length = 100000 from (by rw [List.length_take]; have h_ : (100000 : Int) ≤ (l1.length : Int) := of_decide_eq_true (by with_reducible assumption); omega)] at hcn56t))
               (try (have hcn56m := hcn56; simp only [List.length_take, List.length_drop, Int.reduceToNat] at hcn56m))
               go_wp2
               go_ret
               exact ⟨by first | rfl | (simp [errW_none, errW_some] <;> rfl) | (simp [*, errW_none, errW_some] <;> rfl), by repeat (first | (with_reducible first | exact HB.out | apply below_alloc | apply pw_below_drewN | apply below_drew1) | exact HB.out)⟩
           ·rw [if_neg c41] at H
            have c41b0 : (t151 == 0) = false := beq_eq_false_iff_ne.mpr c41
            have c41b1 : (t151 != 0) = true := bne_iff_ne.mpr c41
            replace H := Option.bind_eq_some_iff.mp H
            obtain ⟨t154, A570, H⟩ := H
            replace H : (some (!t154)) = some r := H
            have A57 := Aside0.mk A570
            clear A570
            obtain rfl := Option.some.inj H
            go_wp2_with (first | ((with_reducible refine gate_callee (f := 18) rfl ?_); refine goesL_ (some 78) rfl rfl Tryd.func18 (by kernel_rfl) rfl #[.slice A1 (l1.take 100000).length c1] rfl (by (try simp only [List.map_toArray, List.map_cons, List.map_nil]); first | done | (rw [show (l1.take 100000).length = 100000 from (by rw [List.length_take]; have h_ : (100000 : Int) ≤ (l1.length : Int) := of_decide_eq_true (by with_reducible assumption); omega)] <;> rfl) | rfl | (simp only [List.length_drop, List.length_take]; rfl)) ?_; (with_reducible refine (utf_Signs.calls kj20 _ _ (l1.take 100000) t150 t151 _ ?side1 ?side2 ?side3 A40.out).mono ?_); (case side1 => repeat (first | exact (Kd.C_below HR130.out HB.out) | (with_reducible refine Kd.C_alloc ?_ _) | (with_reducible refine Kd.C_drewN ?_ _) | (with_reducible refine Kd.C_drew ?_))); (case side2 => exact HC130.out); (case side3 => repeat (first | exact (GLOB_below HG_.out HB.out) | (with_reducible refine GLOB_alloc ?_ _) | (with_reducible refine GLOB_drewN ?_ _) | (with_reducible refine GLOB_drew ?_))); rintro e w58 ⟨v152, rfl, ho0, hb⟩; refine ⟨_, rfl, ?_⟩; have n0_ := Aside0.mk (Kd.R_lower ho0 (below_size (by repeat (first | (with_reducible first | exact HB.out | apply below_alloc | apply pw_below_drewN | apply below_drew1) | exact HB.out)))); have n1_ := Aside0.mk (below_step (by repeat (first | (with_reducible first | exact HB.out | apply below_alloc | apply pw_below_drewN | apply below_drew1) | exact HB.out)) hb); clear HB; have HO153 := n0_; have HB := n1_; clear n0_ n1_; (try clear hb); (try clear hb2); (try clear hk); (try clear hi); (try clear ho0)) | ((with_reducible refine gate_callee (f := 17) rfl ?_); refine goesL_ (some 84) rfl rfl Tryd.func17 (by kernel_rfl) rfl #[.slice A1 (l1.take 100000).length c1] rfl (by (try simp only [List.map_toArray, List.map_cons, List.map_nil]); first | done | (rw [show (l1.take 100000).length = 100000 from (by rw [List.length_take]; have h_ : (100000 : Int) ≤ (l1.length : Int) := of_decide_eq_true (by with_reducible assumption); omega)] <;> rfl) | rfl | (simp only [List.length_drop, List.length_take]; rfl)) ?_; (with_reducible refine (utf_Text.calls kj20 _ _ (l1.take 100000) t154 _ ?side1 ?side2 ?side3 A57.out).mono ?_); (case side1 => repeat (first | exact (Kd.C_below HR130.out HB.out) | (with_reducible refine Kd.C_alloc ?_ _) | (with_reducible refine Kd.C_drewN ?_ _) | (with_reducible refine Kd.C_drew ?_))); (case side2 => exact HC130.out); (case side3 => repeat (first | exact (GLOB_below HG_.out HB.out) | (with_reducible refine GLOB_alloc ?_ _) | (with_reducible refine GLOB_drewN ?_ _) | (with_reducible refine GLOB_drew ?_))); rintro e w59 ⟨rfl, hb⟩; refine ⟨_, rfl, ?_⟩; have n0_ := Aside0.mk (Kd.R_below (by (with_reducible repeat (first | apply Kd.R_alloc | apply Kd.R_drewN | apply Kd.R_drew)); exact HO153.out) hb); have n1_ := Aside0.mk (below_step (by repeat (first | (with_reducible first | exact HB.out | apply below_alloc | apply pw_below_drewN | apply below_drew1) | exact HB.out)) hb); clear HO153; clear HB; have HO153 := n0_; have HB := n1_; clear n0_ n1_; (try clear hb); (try clear hb2); (try clear hk); (try clear hi)))
            go_ret
            exact ⟨by first | rfl | (simp [errW_none, errW_some] <;> rfl) | (simp [*, errW_none, errW_some] <;> rfl), by repeat (first | (with_reducible first | exact HB.out | apply below_alloc | apply pw_below_drewN | apply below_drew1) | exact HB.out)⟩
    ·rw [if_neg c6] at H
     exact absurd H (by simp)
   ·rw [if_neg c5] at H
    have c5b0 : decide (100000 < (l1.length : Int)) = false := decide_eq_false c5
    have c5b1 : decide (100000 < l1.length) = false := decide_eq_false (by omega)
    clear c5
    have H' := Aside0.mk H
    clear H
    obtain ⟨i060, hi060, _, hsz60, _⟩ := info_parts info3
    obtain ⟨hcut60, hA60, hC60⟩ := print_take_of (P := Tryd.prog) (Value.int .i64) 0 33 3 .i64 Tryd.underlying33 hi060 hsz60 A0 c0 l0 20000 (by omega) (of_decide_eq_true (by with_reducible assumption)) HC0.out
    have HR129 := Aside0.mk (Kd.C_of_reads (h1 := fun _ => rfl) (hA60 _ (Kd.reads_of_C HR0.out)))
    have HC129 := Aside0.mk hC60
    clear hA60 hC60 hi060 hsz60
    go_enter Tryd.func9, Tryd.ntmps9
    go_wp2
    go_loopg [5, 6, 7] k (fun kq v5 v6 v7 w' => ∃ (x5_1 : List Int) (x6_1 : List Int) (x7_1 : Int), v7 = .int .i64 x7_1 ∧ Aside0 (scarflaw01_UtfBack.l2 kq (l0.take 20000) l1 x5_1 x6_1 x7_1 = some r) ∧ Aside0 (kq ≤ k) ∧ Aside0 (Kd.R (Kd.int .u8) 5 w' w.heap.size (fun _ => True) v5 x5_1) ∧ Aside0 (Kd.R (Kd.int .i64) 3 w' w.heap.size (fun _ => True) v6 x6_1) ∧ Aside0 (Below w.heap.size w w'))
    case atStart => exact ⟨(([] : List Int)), (([] : List Int)), (0), (by first | rfl | (simp; done) | (simp [*]; done)), H', ⟨Nat.le_refl _⟩, ⟨by first | exact Kd.R_nil _ _ _ _ _ | exact Kd.N_nil _ _ _ _ _ | exact Kd.V_nil _ _ _ _ _ | exact Kd.Q_nil _ _ _ _ _ | exact Kd.S_nil _ _ _ _ _⟩, ⟨by first | exact Kd.R_nil _ _ _ _ _ | exact Kd.N_nil _ _ _ _ _ | exact Kd.V_nil _ _ _ _ _ | exact Kd.Q_nil _ _ _ _ _ | exact Kd.S_nil _ _ _ _ _⟩, ⟨by repeat (first | (with_reducible first | exact HB.out | apply below_alloc | apply pw_below_drewN | apply below_drew1) | exact HB.out)⟩⟩
    case round =>
     clear H'
     try clear c1
     try clear p1
     try clear q1
     try clear hx1
     try clear c2
     try clear p2
     try clear c3
     try clear c3b0
     try clear c3b1
     try clear c4
     try clear c4b0
     try clear c4b1
     try clear c5
     try clear c5b0
     try clear c5b1
     try clear hcv5
     try clear c6
     try clear c6b0
     try clear c6b1
     try clear p6
     try clear c9
     try clear c9b0
     try clear c10
     try clear c10b0
     try clear c12
     try clear c12b0
     try clear c12b1
     try clear c13
     try clear p13
     try clear q13
     try clear hx13
     try clear c14
     try clear p15
     try clear q15
     try clear hx15
     try clear c17
     try clear c18
     try clear c25
     try clear c26
     try clear c26b0
     try clear c26b1
     try clear c28
     try clear c39
     try clear c41
     try clear c41b0
     try clear c41b1
     try clear c43
     try clear c43b0
     try clear c44
     try clear c44b0
     try clear c46
     try clear c46b0
     try clear c46b1
     try clear c47
     try clear hcv55
     try clear hcv56
     try clear hx131_0
     try clear hx139_0
     try clear hx155_0
     try clear p1
     try clear p13
     try clear p131
     try clear p139
     try clear p155
     try clear p2
     try clear p6
     try clear q1
     try clear q13
     try clear q131
     try clear q139
     try clear q155
     obtain ⟨x5_1, x6_1, x7_1, rfl, HA, HK1, HO_5, HO_6, HB⟩ := hrel
     cases gk with
     | zero => exact absurd HA.out (by simp [scarflaw01_UtfBack.l2])
     | succ k1 =>
      have H := HA.out
      clear HA
      simp only [scarflaw01_UtfBack.l2] at H
      by_cases c61 : x7_1 < ((l0.take 20000).length : Int)
      ·rw [if_pos c61] at H
       have c61b0 : decide (x7_1 < ((l0.take 20000).length : Int)) = true := decide_eq_true c61
       (try (have c61b0t := c61b0; simp only [List.length_take, List.length_drop, Int.reduceToNat] at c61b0t))
       clear c61
       by_cases c62 : 0 ≤ x7_1
       ·rw [if_pos c62] at H
        have c62b0 : decide (0 ≤ x7_1) = true := decide_eq_true c62
        clear c62
        replace H := Option.bind_eq_some_iff.mp H
        obtain ⟨⟨t164, t165⟩, A630, H⟩ := H
        replace H : (if t165 = 0 then (if x5_1.length + t164.length < 140737488355328 then (if x6_1.length < 17592186044416 then (scarflaw01_UtfBack.l2 k1 (l0.take 20000) l1 (x5_1 ++ t164) (x6_1 ++ [rd (l0.take 20000) x7_1]) (wrap64 (x7_1 + 1))) else (none)) else (none)) else (scarflaw01_UtfBack.l2 k1 (l0.take 20000) l1 x5_1 x6_1 (wrap64 (x7_1 + 1)))) = some r := H
        have A63 := Aside0.mk A630
        clear A630
        by_cases c64 : t165 = 0
        ·rw [if_pos c64] at H
         have c64b0 : (t165 == 0) = true := beq_iff_eq.mpr c64
         have c64b1 : (t165 != 0) = false := bne_eq_false_iff_eq.mpr c64
         clear c64
         by_cases c65 : x5_1.length + t164.length < 140737488355328
         ·rw [if_pos c65] at H
          have LMc65 := Aside0.mk c65
          clear c65
          obtain ⟨y168, hy168⟩ : ∃ y_ : List Int, y_ = (x5_1 ++ t164) := ⟨_, rfl⟩
          replace H : (if x6_1.length < 17592186044416 then (scarflaw01_UtfBack.l2 k1 (l0.take 20000) l1 y168 (x6_1 ++ [rd (l0.take 20000) x7_1]) (wrap64 (x7_1 + 1))) else (none)) = some r := by first | (rw [hy168]; with_reducible exact H) | (have H2_ := (Option.bind_some _ _).symm.trans H; rw [hy168]; with_reducible exact H2_) | (have H2_ := (Option.bind_some _ _).symm.trans H; with_reducible exact H2_) | with_reducible exact H | (rw [hy168]; exact H) | exact H
          have Ny168 := Aside0.mk hy168
          clear hy168
          by_cases c66 : x6_1.length < 17592186044416
          ·rw [if_pos c66] at H
           have LMc66 := Aside0.mk c66
           clear c66
           obtain ⟨y172, hy172⟩ : ∃ y_ : List Int, y_ = (x6_1 ++ [rd (l0.take 20000) x7_1]) := ⟨_, rfl⟩
           replace H : (scarflaw01_UtfBack.l2 k1 (l0.take 20000) l1 y168 y172 (wrap64 (x7_1 + 1))) = some r := by first | (rw [hy172]; with_reducible exact H) | (have H2_ := (Option.bind_some _ _).symm.trans H; rw [hy172]; with_reducible exact H2_) | (have H2_ := (Option.bind_some _ _).symm.trans H; with_reducible exact H2_) | with_reducible exact H | (rw [hy172]; exact H) | exact H
           have Ny172 := Aside0.mk hy172
           clear hy172
           have H' := Aside0.mk H
           clear H
           have p163 : 0 ≤ (x7_1 : Int) := of_decide_eq_true (by with_reducible assumption)
           have q163 : x7_1 < ((l0.take 20000).length : Int) := of_decide_eq_true (by with_reducible assumption)
           obtain ⟨ad163, e163, hx163_0⟩ := Kd.at_int HR129.out x7_1 p163 q163
           cases e163
           replace hx163_0 := (HB.out.cell (World.block_lt_of_cell? w _ hx163_0)).trans hx163_0
           replace p163 := eq_true p163
           replace q163 := eq_true q163
           (try (have q163t := q163; simp only [List.length_take, List.length_drop, Int.reduceToNat] at q163t))
           go_wp2_with (first | ((with_reducible refine gate_callee (f := 13) rfl ?_); refine goesL_ (some 39) rfl rfl Tryd.func13 (by kernel_rfl) rfl #[.int .i64 (rd (l0.take 20000) x7_1)] rfl (by (try simp only [List.map_toArray, List.map_cons, List.map_nil]); first | done | rfl | (simp only [List.length_drop, List.length_take]; rfl)) ?_; (with_reducible refine (utf_Bytes.calls (rd (l0.take 20000) x7_1) t164 t165 _ A63.out).mono ?_); rintro e w67 ⟨v166, rfl, ho0, hb⟩; refine ⟨_, rfl, ?_⟩; have n0_ := Aside0.mk (Kd.R_elder' (by (with_reducible repeat (first | apply Kd.R_alloc | apply Kd.R_drewN | apply Kd.R_drew)); exact HO_5.out) (Kd.R_base ho0) hb); have n1_ := Aside0.mk (Kd.R_below (by (with_reducible repeat (first | apply Kd.R_alloc | apply Kd.R_drewN | apply Kd.R_drew)); exact HO_6.out) hb); have n2_ := Aside0.mk (Kd.R_lower (Kd.R_new' ho0 (Kd.R_lt (by (with_reducible repeat (first | apply Kd.R_alloc | apply Kd.R_drewN | apply Kd.R_drew)); exact HO_5.out))) (below_size (by repeat (first | (with_reducible first | exact HB.out | apply below_alloc | apply pw_below_drewN | apply below_drew1) | exact HB.out)))); have n3_ := Aside0.mk (below_step (by repeat (first | (with_reducible first | exact HB.out | apply below_alloc | apply pw_below_drewN | apply below_drew1) | exact HB.out)) hb); clear HO_5; clear HO_6; clear HB; have HO_5 := n0_; have HO_6 := n1_; have HO167 := n2_; have HB := n3_; clear n0_ n1_ n2_ n3_; (try clear hb); (try clear hb2); (try clear hk); (try clear hi); (try clear ho0); obtain ⟨Ao69, co69, eo69⟩ := Kd.R_slice HO167.out; subst eo69) | ((with_reducible refine gate_builtin (b := .append) (xs := #[.tmp 44, .tmp 45]) rfl ?_); at_builtin; refine Kd.R_append_rows (Kd.int .u8) (w0 := w) w.heap.size rfl (.tmp 44) (.tmp 45) 22 5 (.int .u8 0) 1 rfl Tryd.underlying22 info5 rfl (by decide) (by omega) u5 x5_1 t164 _ _ _ (fun k_ => some k_ ≠ (.slice Ao69 t164.length co69 : Value).ownBlock) (fun _ => False) rfl rfl ?aO ?aR (fun _ _ h => h) (fun _ h => h.elim) ?aF ?aB ?aS ?aL ?_; (case aR => repeat (first | exact (Kd.R_reads' HO167.out).2.2 | (with_reducible refine Kd.C_alloc ?_ _) | (with_reducible refine Kd.C_drewN ?_ _) | (with_reducible refine Kd.C_drew ?_))); (case aB => exact (by repeat (first | (with_reducible first | exact HB.out | apply below_alloc | apply pw_below_drewN | apply below_drew1) | exact HB.out))); (case aF => exact (fun k_ hk => Kd.fresh' (Kd.R_lt (by (with_reducible repeat (first | apply Kd.R_alloc | apply Kd.R_drewN | apply Kd.R_drew)); exact HO167.out)) k_ hk)); (case aO => exact (by (with_reducible repeat (first | apply Kd.R_alloc | apply Kd.R_drewN | apply Kd.R_drew)); exact Kd.R_mono HO_5.out (fun _ hk => hk.2))); (case aS => exact (below_size (by repeat (first | (with_reducible first | exact HB.out | apply below_alloc | apply pw_below_drewN | apply below_drew1) | exact HB.out)))); (case aL => have := LMc65.out; omega); intro v169 w68 ho hb hg hat; rw [← Ny168.out] at ho; have n0_ := Aside0.mk (Kd.R_over' (by (with_reducible repeat (first | apply Kd.R_alloc | apply Kd.R_drewN | apply Kd.R_drew)); exact HO_6.out) (Kd.R_typed (by (with_reducible repeat (first | apply Kd.R_alloc | apply Kd.R_drewN | apply Kd.R_drew)); exact HO_5.out)) (by decide) hg); have n1_ := Aside0.mk (Kd.R_after (ok := (fun _ => True)) (by (with_reducible repeat (first | apply Kd.R_alloc | apply Kd.R_drewN | apply Kd.R_drew)); exact HO167.out) hg hat); have n2_ := Aside0.mk (hb); have n3_ := Aside0.mk (ho); clear HO_6; clear HO167; clear HB; clear HO_5; have HO_6 := n0_; have HO167 := n1_; have HB := n2_; have HO170 := n3_; clear n0_ n1_ n2_ n3_; clear ho hb hg hat; have p171 : 0 ≤ (x7_1 : Int) := of_decide_eq_true (by with_reducible assumption); have q171 : x7_1 < ((l0.take 20000).length : Int) := of_decide_eq_true (by with_reducible assumption); obtain ⟨ad171, e171, hx171_0⟩ := Kd.at_int HR129.out x7_1 p171 q171; obtain rfl : ad163 = ad171 := (by injection e171); replace hx171_0 := (HB.out.cell (World.block_lt_of_cell? w _ hx171_0)).trans hx171_0; replace p171 := eq_true p171; replace q171 := eq_true q171) | ((with_reducible refine gate_builtin (b := .append) (xs := #[.tmp 47, .tmp 52]) rfl ?_); at_builtin; refine Kd.R_append (Kd.int .i64) (w0 := w) w.heap.size rfl (.tmp 47) (.tmp 52) 33 3 (.int .i64 0) 8 rfl Tryd.underlying33 info3 rfl (by decide) (by omega) u6 x6_1 (rd (l0.take 20000) x7_1) [.int .i64 (rd (l0.take 20000) x7_1)] (fun _ => True) (fun _ => False) rfl rfl ?aP (fun _ hk => hk.elim) ?aF ?aO ?aB ?aS ?aL ?_; (case aP => exact rfl); (case aB => exact (by repeat (first | (with_reducible first | exact HB.out | apply below_alloc | apply pw_below_drewN | apply below_drew1) | exact HB.out))); (case aF => exact (fun _ _ => trivial)); (case aO => exact (by (with_reducible repeat (first | apply Kd.R_alloc | apply Kd.R_drewN | apply Kd.R_drew)); exact HO_6.out)); (case aS => exact (below_size (by repeat (first | (with_reducible first | exact HB.out | apply below_alloc | apply pw_below_drewN | apply below_drew1) | exact HB.out)))); (case aL => have := LMc66.out; omega); intro v173 w70 ho hb hg hat; rw [← Ny172.out] at ho; have n0_ := Aside0.mk (Kd.R_over' (by (with_reducible repeat (first | apply Kd.R_alloc | apply Kd.R_drewN | apply Kd.R_drew)); exact HO167.out) (Kd.R_typed (by (with_reducible repeat (first | apply Kd.R_alloc | apply Kd.R_drewN | apply Kd.R_drew)); exact HO_6.out)) (by decide) hg); have n1_ := Aside0.mk (Kd.R_over' (by (with_reducible repeat (first | apply Kd.R_alloc | apply Kd.R_drewN | apply Kd.R_drew)); exact HO170.out) (Kd.R_typed (by (with_reducible repeat (first | apply Kd.R_alloc | apply Kd.R_drewN | apply Kd.R_drew)); exact HO_6.out)) (by decide) hg); have n2_ := Aside0.mk (hb); have n3_ := Aside0.mk (ho); clear HO167; clear HO170; clear HB; clear HO_6; have HO167 := n0_; have HO170 := n1_; have HB := n2_; have HO174 := n3_; clear n0_ n1_ n2_ n3_; clear ho hb hg hat))
           go_roundg k1
           case measure => have := HK1.out; omega
           case rel => exact ⟨(y168), (y172), (wrap64 (x7_1 + 1)), (by first | rfl | (simp; done) | (simp [*]; done)), H', ⟨by have := HK1.out; omega⟩, ⟨by (with_reducible repeat (first | apply Kd.R_alloc | apply Kd.R_drewN | apply Kd.R_drew)); exact Kd.R_mono HO170.out (fun _ hk => trivial)⟩, ⟨by (with_reducible repeat (first | apply Kd.R_alloc | apply Kd.R_drewN | apply Kd.R_drew)); exact HO174.out⟩, ⟨by repeat (first | (with_reducible first | exact HB.out | apply below_alloc | apply pw_below_drewN | apply below_drew1) | exact HB.out)⟩⟩
          ·rw [if_neg c66] at H
           exact absurd H (by simp)
         ·rw [if_neg c65] at H
          exact absurd H (by simp)
        ·rw [if_neg c64] at H
         have c64b0 : (t165 == 0) = false := beq_eq_false_iff_ne.mpr c64
         have c64b1 : (t165 != 0) = true := bne_iff_ne.mpr c64
         have H' := Aside0.mk H
         clear H
         have p163 : 0 ≤ (x7_1 : Int) := of_decide_eq_true (by with_reducible assumption)
         have q163 : x7_1 < ((l0.take 20000).length : Int) := of_decide_eq_true (by with_reducible assumption)
         obtain ⟨ad163, e163, hx163_0⟩ := Kd.at_int HR129.out x7_1 p163 q163
         cases e163
         replace hx163_0 := (HB.out.cell (World.block_lt_of_cell? w _ hx163_0)).trans hx163_0
         replace p163 := eq_true p163
         replace q163 := eq_true q163
         (try (have q163t := q163; simp only [List.length_take, List.length_drop, Int.reduceToNat] at q163t))
         go_wp2_with (first | ((with_reducible refine gate_callee (f := 13) rfl ?_); refine goesL_ (some 39) rfl rfl Tryd.func13 (by kernel_rfl) rfl #[.int .i64 (rd (l0.take 20000) x7_1)] rfl (by (try simp only [List.map_toArray, List.map_cons, List.map_nil]); first | done | rfl | (simp only [List.length_drop, List.length_take]; rfl)) ?_; (with_reducible refine (utf_Bytes.calls (rd (l0.take 20000) x7_1) t164 t165 _ A63.out).mono ?_); rintro e w71 ⟨v166, rfl, ho0, hb⟩; refine ⟨_, rfl, ?_⟩; have n0_ := Aside0.mk (Kd.R_elder' (by (with_reducible repeat (first | apply Kd.R_alloc | apply Kd.R_drewN | apply Kd.R_drew)); exact HO_5.out) (Kd.R_base ho0) hb); have n1_ := Aside0.mk (Kd.R_below (by (with_reducible repeat (first | apply Kd.R_alloc | apply Kd.R_drewN | apply Kd.R_drew)); exact HO_6.out) hb); have n2_ := Aside0.mk (Kd.R_lower (Kd.R_new' ho0 (Kd.R_lt (by (with_reducible repeat (first | apply Kd.R_alloc | apply Kd.R_drewN | apply Kd.R_drew)); exact HO_5.out))) (below_size (by repeat (first | (with_reducible first | exact HB.out | apply below_alloc | apply pw_below_drewN | apply below_drew1) | exact HB.out)))); have n3_ := Aside0.mk (below_step (by repeat (first | (with_reducible first | exact HB.out | apply below_alloc | apply pw_below_drewN | apply below_drew1) | exact HB.out)) hb); clear HO_5; clear HO_6; clear HB; have HO_5 := n0_; have HO_6 := n1_; have HO167 := n2_; have HB := n3_; clear n0_ n1_ n2_ n3_; (try clear hb); (try clear hb2); (try clear hk); (try clear hi); (try clear ho0)))
         go_roundg k1
         case measure => have := HK1.out; omega
         case rel => exact ⟨(x5_1), (x6_1), (wrap64 (x7_1 + 1)), (by first | rfl | (simp; done) | (simp [*]; done)), H', ⟨by have := HK1.out; omega⟩, ⟨by (with_reducible repeat (first | apply Kd.R_alloc | apply Kd.R_drewN | apply Kd.R_drew)); exact Kd.R_mono HO_5.out (fun _ hk => trivial)⟩, ⟨by (with_reducible repeat (first | apply Kd.R_alloc | apply Kd.R_drewN | apply Kd.R_drew)); exact HO_6.out⟩, ⟨by repeat (first | (with_reducible first | exact HB.out | apply below_alloc | apply pw_below_drewN | apply below_drew1) | exact HB.out)⟩⟩
       ·rw [if_neg c62] at H
        exact absurd H (by simp)
      ·rw [if_neg c61] at H
       have c61b0 : decide (x7_1 < ((l0.take 20000).length : Int)) = false := decide_eq_false c61
       (try (have c61b0t := c61b0; simp only [List.length_take, List.length_drop, Int.reduceToNat] at c61b0t))
       clear c61
       replace H := Option.bind_eq_some_iff.mp H
       obtain ⟨⟨t175, t176⟩, A720, H⟩ := H
       replace H : ((scarflaw01_known.f).bind fun t179 => (if t179 = true then (if t176 = 0 then ((scarflaw01_same.f k1 t175 x6_1).bind fun t180 => (if t180 = true then ((utf_Text.f k1 x5_1).bind fun t181 => (scarflaw01_UtfBack.j4 k1 l1 (!t181))) else (scarflaw01_UtfBack.j4 k1 l1 true))) else (scarflaw01_UtfBack.j4 k1 l1 true)) else (scarflaw01_UtfBack.j4 k1 l1 true))) = some r := H
       have A72 := Aside0.mk A720
       clear A720
       have HC73 := Aside0.mk H
       clear H
       obtain ⟨Ao74, co74, eo74⟩ := Kd.R_slice HO_5.out
       subst eo74
       go_upto_region 15 with (first | ((with_reducible refine gate_callee (f := 18) rfl ?_); refine goesL_ (some 56) rfl rfl Tryd.func18 (by kernel_rfl) rfl #[.slice Ao74 x5_1.length co74] rfl (by (try simp only [List.map_toArray, List.map_cons, List.map_nil]); first | done | rfl | (simp only [List.length_drop, List.length_take]; rfl)) ?_; (with_reducible refine (utf_Signs.calls k1 _ _ x5_1 t175 t176 _ ?side1 ?side2 ?side3 A72.out).mono ?_); (case side1 => repeat (first | exact (Kd.R_reads' HO_5.out).2.2 | (with_reducible refine Kd.C_alloc ?_ _) | (with_reducible refine Kd.C_drewN ?_ _) | (with_reducible refine Kd.C_drew ?_))); (case side2 => exact (Kd.R_reads' HO_5.out).2.1); (case side3 => repeat (first | exact (GLOB_below HG_.out HB.out) | (with_reducible refine GLOB_alloc ?_ _) | (with_reducible refine GLOB_drewN ?_ _) | (with_reducible refine GLOB_drew ?_))); rintro e w75 ⟨v177, rfl, ho0, hb⟩; refine ⟨_, rfl, ?_⟩; have n0_ := Aside0.mk (Kd.R_below (by (with_reducible repeat (first | apply Kd.R_alloc | apply Kd.R_drewN | apply Kd.R_drew)); exact HO_5.out) hb); have n1_ := Aside0.mk (Kd.R_elder' (by (with_reducible repeat (first | apply Kd.R_alloc | apply Kd.R_drewN | apply Kd.R_drew)); exact HO_6.out) (Kd.R_base ho0) hb); have n2_ := Aside0.mk (Kd.R_lower (Kd.R_new' ho0 (Kd.R_lt (by (with_reducible repeat (first | apply Kd.R_alloc | apply Kd.R_drewN | apply Kd.R_drew)); exact HO_6.out))) (below_size (by repeat (first | (with_reducible first | exact HB.out | apply below_alloc | apply pw_below_drewN | apply below_drew1) | exact HB.out)))); have n3_ := Aside0.mk (below_step (by repeat (first | (with_reducible first | exact HB.out | apply below_alloc | apply pw_below_drewN | apply below_drew1) | exact HB.out)) hb); clear HO_5; clear HO_6; clear HB; have HO_5 := n0_; have HO_6 := n1_; have HO178 := n2_; have HB := n3_; clear n0_ n1_ n2_ n3_; (try clear hb); (try clear hb2); (try clear hk); (try clear hi); (try clear ho0)))
       (try simp only [Act.put, List.setIfInBounds_toArray, List.set_cons_zero, List.set_cons_succ])
       go_cut [75] (fun v75 wc => ∃ (kq : Nat) (x75_72 : Bool), v75 = .bool x75_72 ∧ Aside0 (scarflaw01_UtfBack.j4 kq l1 x75_72 = some r) ∧ Aside0 (kq ≤ k1) ∧ Aside0 (Below w.heap.size w wc))
       case first =>
        have H := HC73.out
        clear HC73
        replace H := Option.bind_eq_some_iff.mp H
        obtain ⟨t179, A760, H⟩ := H
        replace H : (if t179 = true then (if t176 = 0 then ((scarflaw01_same.f k1 t175 x6_1).bind fun t180 => (if t180 = true then ((utf_Text.f k1 x5_1).bind fun t181 => (scarflaw01_UtfBack.j4 k1 l1 (!t181))) else (scarflaw01_UtfBack.j4 k1 l1 true))) else (scarflaw01_UtfBack.j4 k1 l1 true)) else (scarflaw01_UtfBack.j4 k1 l1 true)) = some r := H
        have A76 := Aside0.mk A760
        clear A760
        by_cases c77 : t179 = true
        ·subst c77
         have H1 : (if t176 = 0 then ((scarflaw01_same.f k1 t175 x6_1).bind fun t180 => (if t180 = true then ((utf_Text.f k1 x5_1).bind fun t181 => (scarflaw01_UtfBack.j4 k1 l1 (!t181))) else (scarflaw01_UtfBack.j4 k1 l1 true))) else (scarflaw01_UtfBack.j4 k1 l1 true)) = some r := by rw [if_pos rfl] at H; exact H
         clear H
         have H := H1
         clear H1
         by_cases c78 : t176 = 0
         ·rw [if_pos c78] at H
          have c78b0 : (t176 == 0) = true := beq_iff_eq.mpr c78
          have c78b1 : (t176 != 0) = false := bne_eq_false_iff_eq.mpr c78
          clear c78
          (first | rw [c78b0] | (simp only [i64_w, i32_w]; rw [c78b0]) | skip)
          replace H := Option.bind_eq_some_iff.mp H
          obtain ⟨t180, A790, H⟩ := H
          replace H : (if t180 = true then ((utf_Text.f k1 x5_1).bind fun t181 => (scarflaw01_UtfBack.j4 k1 l1 (!t181))) else (scarflaw01_UtfBack.j4 k1 l1 true)) = some r := H
          have A79 := Aside0.mk A790
          clear A790
          by_cases c80 : t180 = true
          ·subst c80
           have H1 : ((utf_Text.f k1 x5_1).bind fun t181 => (scarflaw01_UtfBack.j4 k1 l1 (!t181))) = some r := by rw [if_pos rfl] at H; exact H
           clear H
           have H := H1
           clear H1
           replace H := Option.bind_eq_some_iff.mp H
           obtain ⟨t181, A810, H⟩ := H
           replace H : (scarflaw01_UtfBack.j4 k1 l1 (!t181)) = some r := H
           have A81 := Aside0.mk A810
           clear A810
           have H' := Aside0.mk H
           clear H
           go_wp2_with (first | ((with_reducible refine gate_callee (f := 12) rfl ?_); refine goesL_ (some 59) rfl rfl Tryd.func12 (by kernel_rfl) rfl #[] rfl (by (try simp only [List.map_toArray, List.map_cons, List.map_nil]); first | done | rfl | (simp only [List.length_drop, List.length_take]; rfl)) ?_; (with_reducible refine (scarflaw01_known.calls  true _ ?side1 A76.out).mono ?_); (case side1 => repeat (first | exact (GLOB_below HG_.out HB.out) | (with_reducible refine GLOB_alloc ?_ _) | (with_reducible refine GLOB_drewN ?_ _) | (with_reducible refine GLOB_drew ?_))); rintro e w82 ⟨rfl, hb⟩; refine ⟨_, rfl, ?_⟩; have n0_ := Aside0.mk (Kd.R_below (by (with_reducible repeat (first | apply Kd.R_alloc | apply Kd.R_drewN | apply Kd.R_drew)); exact HO_5.out) hb); have n1_ := Aside0.mk (Kd.R_below (by (with_reducible repeat (first | apply Kd.R_alloc | apply Kd.R_drewN | apply Kd.R_drew)); exact HO_6.out) hb); have n2_ := Aside0.mk (Kd.R_below (by (with_reducible repeat (first | apply Kd.R_alloc | apply Kd.R_drewN | apply Kd.R_drew)); exact HO178.out) hb); have n3_ := Aside0.mk (below_step (by repeat (first | (with_reducible first | exact HB.out | apply below_alloc | apply pw_below_drewN | apply below_drew1) | exact HB.out)) hb); clear HO_5; clear HO_6; clear HO178; clear HB; have HO_5 := n0_; have HO_6 := n1_; have HO178 := n2_; have HB := n3_; clear n0_ n1_ n2_ n3_; (try clear hb); (try clear hb2); (try clear hk); (try clear hi); obtain ⟨Ao83, co83, eo83⟩ := Kd.R_slice HO178.out; subst eo83; obtain ⟨Ao84, co84, eo84⟩ := Kd.R_slice HO_6.out; subst eo84) | (go_at_call 20; (with_reducible refine (scarflaw01_same.calls k1 _ _ t175 _ _ x6_1 true _ ?side1 ?side2 ?side3 ?side4 A79.out).mono ?_); (case side1 => repeat (first | exact (Kd.R_reads' HO178.out).2.2 | (with_reducible refine Kd.C_alloc ?_ _) | (with_reducible refine Kd.C_drewN ?_ _) | (with_reducible refine Kd.C_drew ?_))); (case side2 => exact (Kd.R_reads' HO178.out).2.1); (case side3 => repeat (first | exact (Kd.R_reads' HO_6.out).2.2 | (with_reducible refine Kd.C_alloc ?_ _) | (with_reducible refine Kd.C_drewN ?_ _) | (with_reducible refine Kd.C_drew ?_))); (case side4 => exact (Kd.R_reads' HO_6.out).2.1); rintro e w' ⟨rfl, ⟨nd, rfl⟩⟩) | (go_at_call 17; (with_reducible refine (utf_Text.calls k1 _ _ x5_1 t181 _ ?side1 ?side2 ?side3 A81.out).mono ?_); (case side1 => repeat (first | exact (Kd.R_reads' HO_5.out).2.2 | (with_reducible refine Kd.C_alloc ?_ _) | (with_reducible refine Kd.C_drewN ?_ _) | (with_reducible refine Kd.C_drew ?_))); (case side2 => exact (Kd.R_reads' HO_5.out).2.1); (case side3 => repeat (first | exact (GLOB_below HG_.out (by repeat (first | (with_reducible first | exact HB.out | apply below_alloc | apply pw_below_drewN | apply below_drew1) | exact HB.out))) | (with_reducible refine GLOB_alloc ?_ _) | (with_reducible refine GLOB_drewN ?_ _) | (with_reducible refine GLOB_drew ?_))); rintro e w85 ⟨rfl, hb⟩; have n0_ := Aside0.mk (Kd.R_below (by (with_reducible repeat (first | apply Kd.R_alloc | apply Kd.R_drewN | apply Kd.R_drew)); exact HO_5.out) hb); have n1_ := Aside0.mk (Kd.R_below (by (with_reducible repeat (first | apply Kd.R_alloc | apply Kd.R_drewN | apply Kd.R_drew)); exact HO_6.out) hb); have n2_ := Aside0.mk (Kd.R_below (by (with_reducible repeat (first | apply Kd.R_alloc | apply Kd.R_drewN | apply Kd.R_drew)); exact HO178.out) hb); have n3_ := Aside0.mk (below_step (by repeat (first | (with_reducible first | exact HB.out | apply below_alloc | apply pw_below_drewN | apply below_drew1) | exact HB.out)) hb); clear HO_5; clear HO_6; clear HO178; clear HB; have HO_5 := n0_; have HO_6 := n1_; have HO178 := n2_; have HB := n3_; clear n0_ n1_ n2_ n3_; (try clear hb); (try clear hb2); (try clear hk); (try clear hi)))
           go_meet
           case rel => exact ⟨_, (!t181), (by first | rfl | (simp; done) | (simp [*]; done)), H', ⟨by have := HK1.out; first | omega | exact Nat.le_refl _⟩, ⟨by repeat (first | (with_reducible first | exact HB.out | apply below_alloc | apply pw_below_drewN | apply below_drew1) | exact HB.out)⟩⟩
          ·replace c80 := Bool.eq_false_iff.mpr c80
           subst c80
           have H1 : (scarflaw01_UtfBack.j4 k1 l1 true) = some r := by rw [if_neg (show ¬ (false = true) by decide)] at H; exact H
           clear H
           have H := H1
           clear H1
           have H' := Aside0.mk H
           clear H
           go_wp2_with (first | ((with_reducible refine gate_callee (f := 12) rfl ?_); refine goesL_ (some 59) rfl rfl Tryd.func12 (by kernel_rfl) rfl #[] rfl (by (try simp only [List.map_toArray, List.map_cons, List.map_nil]); first | done | rfl | (simp only [List.length_drop, List.length_take]; rfl)) ?_; (with_reducible refine (scarflaw01_known.calls  true _ ?side1 A76.out).mono ?_); (case side1 => repeat (first | exact (GLOB_below HG_.out HB.out) | (with_reducible refine GLOB_alloc ?_ _) | (with_reducible refine GLOB_drewN ?_ _) | (with_reducible refine GLOB_drew ?_))); rintro e w86 ⟨rfl, hb⟩; refine ⟨_, rfl, ?_⟩; have n0_ := Aside0.mk (Kd.R_below (by (with_reducible repeat (first | apply Kd.R_alloc | apply Kd.R_drewN | apply Kd.R_drew)); exact HO_5.out) hb); have n1_ := Aside0.mk (Kd.R_below (by (with_reducible repeat (first | apply Kd.R_alloc | apply Kd.R_drewN | apply Kd.R_drew)); exact HO_6.out) hb); have n2_ := Aside0.mk (Kd.R_below (by (with_reducible repeat (first | apply Kd.R_alloc | apply Kd.R_drewN | apply Kd.R_drew)); exact HO178.out) hb); have n3_ := Aside0.mk (below_step (by repeat (first | (with_reducible first | exact HB.out | apply below_alloc | apply pw_below_drewN | apply below_drew1) | exact HB.out)) hb); clear HO_5; clear HO_6; clear HO178; clear HB; have HO_5 := n0_; have HO_6 := n1_; have HO178 := n2_; have HB := n3_; clear n0_ n1_ n2_ n3_; (try clear hb); (try clear hb2); (try clear hk); (try clear hi); obtain ⟨Ao87, co87, eo87⟩ := Kd.R_slice HO178.out; subst eo87; obtain ⟨Ao88, co88, eo88⟩ := Kd.R_slice HO_6.out; subst eo88) | (go_at_call 20; (with_reducible refine (scarflaw01_same.calls k1 _ _ t175 _ _ x6_1 false _ ?side1 ?side2 ?side3 ?side4 A79.out).mono ?_); (case side1 => repeat (first | exact (Kd.R_reads' HO178.out).2.2 | (with_reducible refine Kd.C_alloc ?_ _) | (with_reducible refine Kd.C_drewN ?_ _) | (with_reducible refine Kd.C_drew ?_))); (case side2 => exact (Kd.R_reads' HO178.out).2.1); (case side3 => repeat (first | exact (Kd.R_reads' HO_6.out).2.2 | (with_reducible refine Kd.C_alloc ?_ _) | (with_reducible refine Kd.C_drewN ?_ _) | (with_reducible refine Kd.C_drew ?_))); (case side4 => exact (Kd.R_reads' HO_6.out).2.1); rintro e w' ⟨rfl, ⟨nd, rfl⟩⟩))
           go_meet
           case rel => exact ⟨_, (true), (by first | rfl | (simp; done) | (simp [*]; done)), H', ⟨by have := HK1.out; first | omega | exact Nat.le_refl _⟩, ⟨by repeat (first | (with_reducible first | exact HB.out | apply below_alloc | apply pw_below_drewN | apply below_drew1) | exact HB.out)⟩⟩
         ·rw [if_neg c78] at H
          have c78b0 : (t176 == 0) = false := beq_eq_false_iff_ne.mpr c78
          have c78b1 : (t176 != 0) = true := bne_iff_ne.mpr c78
          (first | rw [c78b0] | (simp only [i64_w, i32_w]; rw [c78b0]) | skip)
          have H' := Aside0.mk H
          clear H
          go_wp2_with (first | ((with_reducible refine gate_callee (f := 12) rfl ?_); refine goesL_ (some 59) rfl rfl Tryd.func12 (by kernel_rfl) rfl #[] rfl (by (try simp only [List.map_toArray, List.map_cons, List.map_nil]); first | done | rfl | (simp only [List.length_drop, List.length_take]; rfl)) ?_; (with_reducible refine (scarflaw01_known.calls  true _ ?side1 A76.out).mono ?_); (case side1 => repeat (first | exact (GLOB_below HG_.out HB.out) | (with_reducible refine GLOB_alloc ?_ _) | (with_reducible refine GLOB_drewN ?_ _) | (with_reducible refine GLOB_drew ?_))); rintro e w89 ⟨rfl, hb⟩; refine ⟨_, rfl, ?_⟩; have n0_ := Aside0.mk (Kd.R_below (by (with_reducible repeat (first | apply Kd.R_alloc | apply Kd.R_drewN | apply Kd.R_drew)); exact HO_5.out) hb); have n1_ := Aside0.mk (Kd.R_below (by (with_reducible repeat (first | apply Kd.R_alloc | apply Kd.R_drewN | apply Kd.R_drew)); exact HO_6.out) hb); have n2_ := Aside0.mk (Kd.R_below (by (with_reducible repeat (first | apply Kd.R_alloc | apply Kd.R_drewN | apply Kd.R_drew)); exact HO178.out) hb); have n3_ := Aside0.mk (below_step (by repeat (first | (with_reducible first | exact HB.out | apply below_alloc | apply pw_below_drewN | apply below_drew1) | exact HB.out)) hb); clear HO_5; clear HO_6; clear HO178; clear HB; have HO_5 := n0_; have HO_6 := n1_; have HO178 := n2_; have HB := n3_; clear n0_ n1_ n2_ n3_; (try clear hb); (try clear hb2); (try clear hk); (try clear hi)))
          go_meet
          case rel => exact ⟨_, (true), (by first | rfl | (simp; done) | (simp [*]; done)), H', ⟨by have := HK1.out; first | omega | exact Nat.le_refl _⟩, ⟨by repeat (first | (with_reducible first | exact HB.out | apply below_alloc | apply pw_below_drewN | apply below_drew1) | exact HB.out)⟩⟩
        ·replace c77 := Bool.eq_false_iff.mpr c77
         subst c77
         have H1 : (scarflaw01_UtfBack.j4 k1 l1 true) = some r := by rw [if_neg (show ¬ (false = true) by decide)] at H; exact H
         clear H
         have H := H1
         clear H1
         have H' := Aside0.mk H
         clear H
         go_wp2_with (first | ((with_reducible refine gate_callee (f := 12) rfl ?_); refine goesL_ (some 59) rfl rfl Tryd.func12 (by kernel_rfl) rfl #[] rfl (by (try simp only [List.map_toArray, List.map_cons, List.map_nil]); first | done | rfl | (simp only [List.length_drop, List.length_take]; rfl)) ?_; (with_reducible refine (scarflaw01_known.calls  false _ ?side1 A76.out).mono ?_); (case side1 => repeat (first | exact (GLOB_below HG_.out HB.out) | (with_reducible refine GLOB_alloc ?_ _) | (with_reducible refine GLOB_drewN ?_ _) | (with_reducible refine GLOB_drew ?_))); rintro e w90 ⟨rfl, hb⟩; refine ⟨_, rfl, ?_⟩; have n0_ := Aside0.mk (Kd.R_below (by (with_reducible repeat (first | apply Kd.R_alloc | apply Kd.R_drewN | apply Kd.R_drew)); exact HO_5.out) hb); have n1_ := Aside0.mk (Kd.R_below (by (with_reducible repeat (first | apply Kd.R_alloc | apply Kd.R_drewN | apply Kd.R_drew)); exact HO_6.out) hb); have n2_ := Aside0.mk (Kd.R_below (by (with_reducible repeat (first | apply Kd.R_alloc | apply Kd.R_drewN | apply Kd.R_drew)); exact HO178.out) hb); have n3_ := Aside0.mk (below_step (by repeat (first | (with_reducible first | exact HB.out | apply below_alloc | apply pw_below_drewN | apply below_drew1) | exact HB.out)) hb); clear HO_5; clear HO_6; clear HO178; clear HB; have HO_5 := n0_; have HO_6 := n1_; have HO178 := n2_; have HB := n3_; clear n0_ n1_ n2_ n3_; (try clear hb); (try clear hb2); (try clear hk); (try clear hi)))
         go_meet
         case rel => exact ⟨_, (true), (by first | rfl | (simp; done) | (simp [*]; done)), H', ⟨by have := HK1.out; first | omega | exact Nat.le_refl _⟩, ⟨by repeat (first | (with_reducible first | exact HB.out | apply below_alloc | apply pw_below_drewN | apply below_drew1) | exact HB.out)⟩⟩
       case rest =>
        clear HC73
        try clear c1
        try clear p1
        try clear q1
        try clear hx1
        try clear c2
        try clear p2
        try clear c3
        try clear c3b0
        try clear c3b1
        try clear c4
        try clear c4b0
        try clear c4b1
        try clear c5
        try clear c5b0
        try clear c5b1
        try clear hcv5
        try clear c6
        try clear c6b0
        try clear c6b1
        try clear p6
        try clear c7
        try clear c8
        try clear c9
        try clear c9b0
        try clear c10
        try clear c10b0
        try clear c12
        try clear c12b0
        try clear c12b1
        try clear c13
        try clear p13
        try clear q13
        try clear hx13
        try clear c14
        try clear p15
        try clear q15
        try clear hx15
        try clear p16
        try clear q16
        try clear hx16
        try clear c17
        try clear p17
        try clear q17
        try clear hx17
        try clear c18
        try clear c25
        try clear c26
        try clear c26b0
        try clear c26b1
        try clear c28
        try clear c39
        try clear c41
        try clear c41b0
        try clear c41b1
        try clear c43
        try clear c43b0
        try clear c44
        try clear c44b0
        try clear c46
        try clear c46b0
        try clear c46b1
        try clear c47
        try clear hcv55
        try clear hcv56
        try clear c61
        try clear c61b0
        try clear c62
        try clear c62b0
        try clear c64
        try clear c64b0
        try clear c64b1
        try clear p64
        try clear c65
        try clear c66
        try clear c77
        try clear c78
        try clear c78b0
        try clear c78b1
        try clear c80
        try clear hx131_0
        try clear hx139_0
        try clear hx155_0
        try clear hx163_0
        try clear hx171_0
        try clear p1
        try clear p13
        try clear p131
        try clear p139
        try clear p15
        try clear p155
        try clear p163
        try clear p171
        try clear p2
        try clear p6
        try clear q1
        try clear q13
        try clear q131
        try clear q139
        try clear q15
        try clear q155
        try clear q163
        try clear q171
        obtain ⟨kq, x75_72, rfl, HA, HJ72, HB⟩ := hcut
        cases kq with
        | zero => exact absurd HA.out (by simp [scarflaw01_UtfBack.j4])
        | succ kj72 =>
         have H := HA.out
         clear HA
         simp only [scarflaw01_UtfBack.j4] at H
         by_cases c91 : x75_72 = true
         ·subst c91
          have H1 : (some false) = some r := by rw [if_pos rfl] at H; exact H
          clear H
          have H := H1
          clear H1
          obtain rfl := Option.some.inj H
          go_wp2
          go_ret
          exact ⟨by first | rfl | (simp [errW_none, errW_some] <;> rfl) | (simp [*, errW_none, errW_some] <;> rfl), by repeat (first | (with_reducible first | exact HB.out | apply below_alloc | apply pw_below_drewN | apply below_drew1) | exact HB.out)⟩
         ·replace c91 := Bool.eq_false_iff.mpr c91
          subst c91
          have H1 : ((utf_Signs.f kj72 l1).bind fun bt182 => (if bt182.2 = 0 then (scarflaw01_UtfBack.l3 kj72 l1 bt182.1 ([] : List Int) 0) else ((utf_Text.f kj72 l1).bind fun t186 => (some (!t186))))) = some r := by rw [if_neg (show ¬ (false = true) by decide)] at H; exact H
          clear H
          have H := H1
          clear H1
          replace H := Option.bind_eq_some_iff.mp H
          obtain ⟨⟨t182, t183⟩, A920, H⟩ := H
          replace H : (if t183 = 0 then (scarflaw01_UtfBack.l3 kj72 l1 t182 ([] : List Int) 0) else ((utf_Text.f kj72 l1).bind fun t186 => (some (!t186)))) = some r := H
          have A92 := Aside0.mk A920
          clear A920
          by_cases c93 : t183 = 0
          ·rw [if_pos c93] at H
           have c93b0 : (t183 == 0) = true := beq_iff_eq.mpr c93
           have c93b1 : (t183 != 0) = false := bne_eq_false_iff_eq.mpr c93
           clear c93
           have H' := Aside0.mk H
           clear H
           go_wp2_with (first | ((with_reducible refine gate_callee (f := 18) rfl ?_); refine goesL_ (some 78) rfl rfl Tryd.func18 (by kernel_rfl) rfl #[.slice A1 l1.length c1] rfl (by (try simp only [List.map_toArray, List.map_cons, List.map_nil]); first | done | rfl | (simp only [List.length_drop, List.length_take]; rfl)) ?_; (with_reducible refine (utf_Signs.calls kj72 _ _ l1 t182 t183 _ ?side1 ?side2 ?side3 A92.out).mono ?_); (case side1 => repeat (first | exact (Kd.C_below HR1.out HB.out) | (with_reducible refine Kd.C_alloc ?_ _) | (with_reducible refine Kd.C_drewN ?_ _) | (with_reducible refine Kd.C_drew ?_))); (case side2 => exact HC1.out); (case side3 => repeat (first | exact (GLOB_below HG_.out HB.out) | (with_reducible refine GLOB_alloc ?_ _) | (with_reducible refine GLOB_drewN ?_ _) | (with_reducible refine GLOB_drew ?_))); rintro e w94 ⟨v184, rfl, ho0, hb⟩; refine ⟨_, rfl, ?_⟩; have n0_ := Aside0.mk (Kd.R_lower ho0 (below_size (by repeat (first | (with_reducible first | exact HB.out | apply below_alloc | apply pw_below_drewN | apply below_drew1) | exact HB.out)))); have n1_ := Aside0.mk (below_step (by repeat (first | (with_reducible first | exact HB.out | apply below_alloc | apply pw_below_drewN | apply below_drew1) | exact HB.out)) hb); clear HB; have HO185 := n0_; have HB := n1_; clear n0_ n1_; (try clear hb); (try clear hb2); (try clear hk); (try clear hi); (try clear ho0)))
           go_loopg [14, 15] kj72 (fun kq v14 v15 w' => ∃ (x14_3 : List Int) (x15_3 : Int), v15 = .int .i64 x15_3 ∧ Aside0 (scarflaw01_UtfBack.l3 kq l1 t182 x14_3 x15_3 = some r) ∧ Aside0 (kq ≤ kj72) ∧ Aside0 (Kd.R (Kd.int .i64) 3 w' w.heap.size (fun _ => True) v184 t182) ∧ Aside0 (Kd.R (Kd.int .u8) 5 w' w.heap.size (fun _ => True) v14 x14_3) ∧ Aside0 (Below w.heap.size w w'))
           case atStart => exact ⟨(([] : List Int)), (0), (by first | rfl | (simp; done) | (simp [*]; done)), H', ⟨Nat.le_refl _⟩, ⟨by (with_reducible repeat (first | apply Kd.R_alloc | apply Kd.R_drewN | apply Kd.R_drew)); exact HO185.out⟩, ⟨by first | exact Kd.R_nil _ _ _ _ _ | exact Kd.N_nil _ _ _ _ _ | exact Kd.V_nil _ _ _ _ _ | exact Kd.Q_nil _ _ _ _ _ | exact Kd.S_nil _ _ _ _ _⟩, ⟨by repeat (first | (with_reducible first | exact HB.out | apply below_alloc | apply pw_below_drewN | apply below_drew1) | exact HB.out)⟩⟩
           case round =>
            clear H'
            try clear c1
            try clear p1
            try clear q1
            try clear hx1
            try clear c2
            try clear p2
            try clear c3
            try clear c3b0
            try clear c3b1
            try clear c4
            try clear c4b0
            try clear c4b1
            try clear c5
            try clear c5b0
            try clear c5b1
            try clear hcv5
            try clear c6
            try clear c6b0
            try clear c6b1
            try clear p6
            try clear c7
            try clear c8
            try clear c9
            try clear c9b0
            try clear c10
            try clear c10b0
            try clear c12
            try clear c12b0
            try clear c12b1
            try clear c13
            try clear p13
            try clear q13
            try clear hx13
            try clear c14
            try clear p15
            try clear q15
            try clear hx15
            try clear p16
            try clear q16
            try clear hx16
            try clear c17
            try clear p17
            try clear q17
            try clear hx17
            try clear c18
            try clear c25
            try clear c26
            try clear c26b0
            try clear c26b1
            try clear c28
            try clear c39
            try clear c41
            try clear c41b0
            try clear c41b1
            try clear c43
            try clear c43b0
            try clear c44
            try clear c44b0
            try clear c46
            try clear c46b0
            try clear c46b1
            try clear c47
            try clear hcv55
            try clear hcv56
            try clear c61
            try clear c61b0
            try clear c62
            try clear c62b0
            try clear c64
            try clear c64b0
            try clear c64b1
            try clear p64
            try clear c65
            try clear c66
            try clear c77
            try clear c78
            try clear c78b0
            try clear c78b1
            try clear c80
            try clear c91
            try clear c93
            try clear c93b0
            try clear c93b1
            try clear hx131_0
            try clear hx139_0
            try clear hx155_0
            try clear hx163_0
            try clear hx171_0
            try clear p1
            try clear p13
            try clear p131
            try clear p139
            try clear p15
            try clear p155
            try clear p16
            try clear p163
            try clear p17
            try clear p171
            try clear p2
            try clear p6
            try clear p64
            try clear q1
            try clear q13
            try clear q131
            try clear q139
            try clear q15
            try clear q155
            try clear q16
            try clear q163
            try clear q17
            try clear q171
            obtain ⟨x14_3, x15_3, rfl, HA, HK3, HO_12, HO_14, HB⟩ := hrel
            cases gk with
            | zero => exact absurd HA.out (by simp [scarflaw01_UtfBack.l3])
            | succ k3 =>
             have H := HA.out
             clear HA
             simp only [scarflaw01_UtfBack.l3] at H
             by_cases c95 : x15_3 < (t182.length : Int)
             ·rw [if_pos c95] at H
              have c95b0 : decide (x15_3 < (t182.length : Int)) = true := decide_eq_true c95
              clear c95
              by_cases c96 : 0 ≤ x15_3
              ·rw [if_pos c96] at H
               have c96b0 : decide (0 ≤ x15_3) = true := decide_eq_true c96
               clear c96
               replace H := Option.bind_eq_some_iff.mp H
               obtain ⟨⟨t188, t189⟩, A970, H⟩ := H
               replace H : (if t189 = 0 then (if x14_3.length + t188.length < 140737488355328 then (scarflaw01_UtfBack.l3 k3 l1 t182 (x14_3 ++ t188) (wrap64 (x15_3 + 1))) else (none)) else (some false)) = some r := H
               have A97 := Aside0.mk A970
               clear A970
               by_cases c98 : t189 = 0
               ·rw [if_pos c98] at H
                have c98b0 : (t189 == 0) = true := beq_iff_eq.mpr c98
                have c98b1 : (t189 != 0) = false := bne_eq_false_iff_eq.mpr c98
                clear c98
                by_cases c99 : x14_3.length + t188.length < 140737488355328
                ·rw [if_pos c99] at H
                 have LMc99 := Aside0.mk c99
                 clear c99
                 obtain ⟨y192, hy192⟩ : ∃ y_ : List Int, y_ = (x14_3 ++ t188) := ⟨_, rfl⟩
                 replace H : (scarflaw01_UtfBack.l3 k3 l1 t182 y192 (wrap64 (x15_3 + 1))) = some r := by first | (rw [hy192]; with_reducible exact H) | (have H2_ := (Option.bind_some _ _).symm.trans H; rw [hy192]; with_reducible exact H2_) | (have H2_ := (Option.bind_some _ _).symm.trans H; with_reducible exact H2_) | with_reducible exact H | (rw [hy192]; exact H) | exact H
                 have Ny192 := Aside0.mk hy192
                 clear hy192
                 have H' := Aside0.mk H
                 clear H
                 obtain ⟨Ao100, co100, eo100⟩ := Kd.R_slice HO_12.out
                 subst eo100
                 have p187 : 0 ≤ (x15_3 : Int) := of_decide_eq_true (by with_reducible assumption)
                 have q187 : x15_3 < (t182.length : Int) := of_decide_eq_true (by with_reducible assumption)
                 obtain ⟨ad187, e187, hx187_0⟩ := Kd.at_int (Kd.R_reads' HO_12.out).2.2 x15_3 p187 q187
                 cases e187
                 replace p187 := eq_true p187
                 replace q187 := eq_true q187
                 go_wp2_with (first | ((with_reducible refine gate_callee (f := 13) rfl ?_); refine goesL_ (some 97) rfl rfl Tryd.func13 (by kernel_rfl) rfl #[.int .i64 (rd t182 x15_3)] rfl (by (try simp only [List.map_toArray, List.map_cons, List.map_nil]); first | done | rfl | (simp only [List.length_drop, List.length_take]; rfl)) ?_; (with_reducible refine (utf_Bytes.calls (rd t182 x15_3) t188 t189 _ A97.out).mono ?_); rintro e w101 ⟨v190, rfl, ho0, hb⟩; refine ⟨_, rfl, ?_⟩; have n0_ := Aside0.mk (Kd.R_below (by (with_reducible repeat (first | apply Kd.R_alloc | apply Kd.R_drewN | apply Kd.R_drew)); exact HO_12.out) hb); have n1_ := Aside0.mk (Kd.R_elder' (by (with_reducible repeat (first | apply Kd.R_alloc | apply Kd.R_drewN | apply Kd.R_drew)); exact HO_14.out) (Kd.R_base ho0) hb); have n2_ := Aside0.mk (Kd.R_lower (Kd.R_new' ho0 (Kd.R_lt (by (with_reducible repeat (first | apply Kd.R_alloc | apply Kd.R_drewN | apply Kd.R_drew)); exact HO_14.out))) (below_size (by repeat (first | (with_reducible first | exact HB.out | apply below_alloc | apply pw_below_drewN | apply below_drew1) | exact HB.out)))); have n3_ := Aside0.mk (below_step (by repeat (first | (with_reducible first | exact HB.out | apply below_alloc | apply pw_below_drewN | apply below_drew1) | exact HB.out)) hb); clear HO_12; clear HO_14; clear HB; have HO_12 := n0_; have HO_14 := n1_; have HO191 := n2_; have HB := n3_; clear n0_ n1_ n2_ n3_; (try clear hb); (try clear hb2); (try clear hk); (try clear hi); (try clear ho0); obtain ⟨Ao103, co103, eo103⟩ := Kd.R_slice HO191.out; subst eo103) | ((with_reducible refine gate_builtin (b := .append) (xs := #[.tmp 102, .tmp 103]) rfl ?_); at_builtin; refine Kd.R_append_rows (Kd.int .u8) (w0 := w) w.heap.size rfl (.tmp 102) (.tmp 103) 22 5 (.int .u8 0) 1 rfl Tryd.underlying22 info5 rfl (by decide) (by omega) u14 x14_3 t188 _ _ _ (fun k_ => some k_ ≠ (.slice Ao103 t188.length co103 : Value).ownBlock) (fun _ => False) rfl rfl ?aO ?aR (fun _ _ h => h) (fun _ h => h.elim) ?aF ?aB ?aS ?aL ?_; (case aR => repeat (first | exact (Kd.R_reads' HO191.out).2.2 | (with_reducible refine Kd.C_alloc ?_ _) | (with_reducible refine Kd.C_drewN ?_ _) | (with_reducible refine Kd.C_drew ?_))); (case aB => exact (by repeat (first | (with_reducible first | exact HB.out | apply below_alloc | apply pw_below_drewN | apply below_drew1) | exact HB.out))); (case aF => exact (fun k_ hk => Kd.fresh' (Kd.R_lt (by (with_reducible repeat (first | apply Kd.R_alloc | apply Kd.R_drewN | apply Kd.R_drew)); exact HO191.out)) k_ hk)); (case aO => exact (by (with_reducible repeat (first | apply Kd.R_alloc | apply Kd.R_drewN | apply Kd.R_drew)); exact Kd.R_mono HO_14.out (fun _ hk => hk.2))); (case aS => exact (below_size (by repeat (first | (with_reducible first | exact HB.out | apply below_alloc | apply pw_below_drewN | apply below_drew1) | exact HB.out)))); (case aL => have := LMc99.out; omega); intro v193 w102 ho hb hg hat; rw [← Ny192.out] at ho; have n0_ := Aside0.mk (Kd.R_over' (by (with_reducible repeat (first | apply Kd.R_alloc | apply Kd.R_drewN | apply Kd.R_drew)); exact HO_12.out) (Kd.R_typed (by (with_reducible repeat (first | apply Kd.R_alloc | apply Kd.R_drewN | apply Kd.R_drew)); exact HO_14.out)) (by decide) hg); have n1_ := Aside0.mk (Kd.R_after (ok := (fun _ => True)) (by (with_reducible repeat (first | apply Kd.R_alloc | apply Kd.R_drewN | apply Kd.R_drew)); exact HO191.out) hg hat); have n2_ := Aside0.mk (hb); have n3_ := Aside0.mk (ho); clear HO_12; clear HO191; clear HB; clear HO_14; have HO_12 := n0_; have HO191 := n1_; have HB := n2_; have HO194 := n3_; clear n0_ n1_ n2_ n3_; clear ho hb hg hat))
                 go_roundg k3
                 case measure => have := HK1.out; have := HJ72.out; have := HK3.out; omega
                 case rel => exact ⟨(y192), (wrap64 (x15_3 + 1)), (by first | rfl | (simp; done) | (simp [*]; done)), H', ⟨by have := HK1.out; have := HJ72.out; have := HK3.out; omega⟩, ⟨by (with_reducible repeat (first | apply Kd.R_alloc | apply Kd.R_drewN | apply Kd.R_drew)); exact HO_12.out⟩, ⟨by (with_reducible repeat (first | apply Kd.R_alloc | apply Kd.R_drewN | apply Kd.R_drew)); exact Kd.R_mono HO194.out (fun _ hk => trivial)⟩, ⟨by repeat (first | (with_reducible first | exact HB.out | apply below_alloc | apply pw_below_drewN | apply below_drew1) | exact HB.out)⟩⟩
                ·rw [if_neg c99] at H
                 exact absurd H (by simp)
               ·rw [if_neg c98] at H
                have c98b0 : (t189 == 0) = false := beq_eq_false_iff_ne.mpr c98
                have c98b1 : (t189 != 0) = true := bne_iff_ne.mpr c98
                obtain rfl := Option.some.inj H
                obtain ⟨Ao104, co104, eo104⟩ := Kd.R_slice HO_12.out
                subst eo104
                have p187 : 0 ≤ (x15_3 : Int) := of_decide_eq_true (by with_reducible assumption)
                have q187 : x15_3 < (t182.length : Int) := of_decide_eq_true (by with_reducible assumption)
                obtain ⟨ad187, e187, hx187_0⟩ := Kd.at_int (Kd.R_reads' HO_12.out).2.2 x15_3 p187 q187
                cases e187
                replace p187 := eq_true p187
                replace q187 := eq_true q187
                go_wp2_with (first | ((with_reducible refine gate_callee (f := 13) rfl ?_); refine goesL_ (some 97) rfl rfl Tryd.func13 (by kernel_rfl) rfl #[.int .i64 (rd t182 x15_3)] rfl (by (try simp only [List.map_toArray, List.map_cons, List.map_nil]); first | done | rfl | (simp only [List.length_drop, List.length_take]; rfl)) ?_; (with_reducible refine (utf_Bytes.calls (rd t182 x15_3) t188 t189 _ A97.out).mono ?_); rintro e w105 ⟨v190, rfl, ho0, hb⟩; refine ⟨_, rfl, ?_⟩; have n0_ := Aside0.mk (Kd.R_below (by (with_reducible repeat (first | apply Kd.R_alloc | apply Kd.R_drewN | apply Kd.R_drew)); exact HO_12.out) hb); have n1_ := Aside0.mk (Kd.R_elder' (by (with_reducible repeat (first | apply Kd.R_alloc | apply Kd.R_drewN | apply Kd.R_drew)); exact HO_14.out) (Kd.R_base ho0) hb); have n2_ := Aside0.mk (Kd.R_lower (Kd.R_new' ho0 (Kd.R_lt (by (with_reducible repeat (first | apply Kd.R_alloc | apply Kd.R_drewN | apply Kd.R_drew)); exact HO_14.out))) (below_size (by repeat (first | (with_reducible first | exact HB.out | apply below_alloc | apply pw_below_drewN | apply below_drew1) | exact HB.out)))); have n3_ := Aside0.mk (below_step (by repeat (first | (with_reducible first | exact HB.out | apply below_alloc | apply pw_below_drewN | apply below_drew1) | exact HB.out)) hb); clear HO_12; clear HO_14; clear HB; have HO_12 := n0_; have HO_14 := n1_; have HO191 := n2_; have HB := n3_; clear n0_ n1_ n2_ n3_; (try clear hb); (try clear hb2); (try clear hk); (try clear hi); (try clear ho0)))
                go_ret
                exact ⟨by first | rfl | (simp [errW_none, errW_some] <;> rfl) | (simp [*, errW_none, errW_some] <;> rfl), by repeat (first | (with_reducible first | exact HB.out | apply below_alloc | apply pw_below_drewN | apply below_drew1) | exact HB.out)⟩
              ·rw [if_neg c96] at H
               exact absurd H (by simp)
             ·rw [if_neg c95] at H
              have c95b0 : decide (x15_3 < (t182.length : Int)) = false := decide_eq_false c95
              clear c95
              obtain rfl := Option.some.inj H
              obtain ⟨Ao106, co106, eo106⟩ := Kd.R_slice HO_12.out
              subst eo106
              have hcv107 := own_string (P := Tryd.prog) Tryd.underlying22 Tryd.underlying5 Tryd.underlying9 (Kd.own_of_R HO_14.out)
              (try (have hcn107 := fun n_ : Nat => own_string (P := Tryd.prog) Tryd.underlying22 Tryd.underlying5 Tryd.underlying9 (Kd.own_of_R (Kd.R_drewN HO_14.out n_))))
              have hcv108 := Kd.C_string (P := Tryd.prog) (A := A1) (c := c1) Tryd.underlying22 Tryd.underlying5 Tryd.underlying9 (Kd.C_below HR1.out HB.out)
              have hcn108 := fun n_ : Nat => Kd.C_string (P := Tryd.prog) (A := A1) (c := c1) Tryd.underlying22 Tryd.underlying5 Tryd.underlying9 (Kd.C_drewN (Kd.C_below HR1.out HB.out) n_)
              go_wp2
              go_ret
              exact ⟨by first | rfl | (simp [errW_none, errW_some] <;> rfl) | (simp [*, errW_none, errW_some] <;> rfl), by repeat (first | (with_reducible first | exact HB.out | apply below_alloc | apply pw_below_drewN | apply below_drew1) | exact HB.out)⟩
          ·rw [if_neg c93] at H
           have c93b0 : (t183 == 0) = false := beq_eq_false_iff_ne.mpr c93
           have c93b1 : (t183 != 0) = true := bne_iff_ne.mpr c93
           replace H := Option.bind_eq_some_iff.mp H
           obtain ⟨t186, A1090, H⟩ := H
           replace H : (some (!t186)) = some r := H
           have A109 := Aside0.mk A1090
           clear A1090
           obtain rfl := Option.some.inj H
           go_wp2_with (first | ((with_reducible refine gate_callee (f := 18) rfl ?_); refine goesL_ (some 78) rfl rfl Tryd.func18 (by kernel_rfl) rfl #[.slice A1 l1.length c1] rfl (by (try simp only [List.map_toArray, List.map_cons, List.map_nil]); first | done | rfl | (simp only [List.length_drop, List.length_take]; rfl)) ?_; (with_reducible refine (utf_Signs.calls kj72 _ _ l1 t182 t183 _ ?side1 ?side2 ?side3 A92.out).mono ?_); (case side1 => repeat (first | exact (Kd.C_below HR1.out HB.out) | (with_reducible refine Kd.C_alloc ?_ _) | (with_reducible refine Kd.C_drewN ?_ _) | (with_reducible refine Kd.C_drew ?_))); (case side2 => exact HC1.out); (case side3 => repeat (first | exact (GLOB_below HG_.out HB.out) | (with_reducible refine GLOB_alloc ?_ _) | (with_reducible refine GLOB_drewN ?_ _) | (with_reducible refine GLOB_drew ?_))); rintro e w110 ⟨v184, rfl, ho0, hb⟩; refine ⟨_, rfl, ?_⟩; have n0_ := Aside0.mk (Kd.R_lower ho0 (below_size (by repeat (first | (with_reducible first | exact HB.out | apply below_alloc | apply pw_below_drewN | apply below_drew1) | exact HB.out)))); have n1_ := Aside0.mk (below_step (by repeat (first | (with_reducible first | exact HB.out | apply below_alloc | apply pw_below_drewN | apply below_drew1) | exact HB.out)) hb); clear HB; have HO185 := n0_; have HB := n1_; clear n0_ n1_; (try clear hb); (try clear hb2); (try clear hk); (try clear hi); (try clear ho0)) | ((with_reducible refine gate_callee (f := 17) rfl ?_); refine goesL_ (some 84) rfl rfl Tryd.func17 (by kernel_rfl) rfl #[.slice A1 l1.length c1] rfl (by (try simp only [List.map_toArray, List.map_cons, List.map_nil]); first | done | rfl | (simp only [List.length_drop, List.length_take]; rfl)) ?_; (with_reducible refine (utf_Text.calls kj72 _ _ l1 t186 _ ?side1 ?side2 ?side3 A109.out).mono ?_); (case side1 => repeat (first | exact (Kd.C_below HR1.out HB.out) | (with_reducible refine Kd.C_alloc ?_ _) | (with_reducible refine Kd.C_drewN ?_ _) | (with_reducible refine Kd.C_drew ?_))); (case side2 => exact HC1.out); (case side3 => repeat (first | exact (GLOB_below HG_.out HB.out) | (with_reducible refine GLOB_alloc ?_ _) | (with_reducible refine GLOB_drewN ?_ _) | (with_reducible refine GLOB_drew ?_))); rintro e w111 ⟨rfl, hb⟩; refine ⟨_, rfl, ?_⟩; have n0_ := Aside0.mk (Kd.R_below (by (with_reducible repeat (first | apply Kd.R_alloc | apply Kd.R_drewN | apply Kd.R_drew)); exact HO185.out) hb); have n1_ := Aside0.mk (below_step (by repeat (first | (with_reducible first | exact HB.out | apply below_alloc | apply pw_below_drewN | apply below_drew1) | exact HB.out)) hb); clear HO185; clear HB; have HO185 := n0_; have HB := n1_; clear n0_ n1_; (try clear hb); (try clear hb2); (try clear hk); (try clear hi)))
           go_ret
           exact ⟨by first | rfl | (simp [errW_none, errW_some] <;> rfl) | (simp [*, errW_none, errW_some] <;> rfl), by repeat (first | (with_reducible first | exact HB.out | apply below_alloc | apply pw_below_drewN | apply below_drew1) | exact HB.out)⟩
  ·rw [if_neg c4] at H
   exact absurd H (by simp)
 ·rw [if_neg c3] at H
  have c3b0 : decide (20000 < (l0.length : Int)) = false := decide_eq_false c3
  have c3b1 : decide (20000 < l0.length) = false := decide_eq_false (by omega)
  clear c3
  by_cases c112 : (l1.length : Int) > 100000
  ·rw [if_pos c112] at H
   have c112b0 : decide (100000 < (l1.length : Int)) = true := decide_eq_true c112
   have c112b1 : decide (100000 < l1.length) = true := decide_eq_true (by omega)
   clear c112
   by_cases c113 : 100000 ≤ (l1.length : Int)
   ·rw [if_pos c113] at H
    have c113b0 := eq_true c113
    have c113b1 : decide (100000 ≤ (l1.length : Int)) = true := decide_eq_true c113
    clear c113
    have H' := Aside0.mk H
    clear H
    obtain ⟨i0114, hi0114, _, hsz114, _⟩ := info_parts info5
    obtain ⟨hcut114, hA114, hC114⟩ := print_take_of (P := Tryd.prog) (Value.int .u8) 0 22 5 .i64 Tryd.underlying22 hi0114 hsz114 A1 c1 l1 100000 (by omega) (of_decide_eq_true (by with_reducible assumption)) HC1.out
    have HR195 := Aside0.mk (Kd.C_of_reads (h1 := fun _ => rfl) (hA114 _ (Kd.reads_of_C HR1.out)))
    have HC195 := Aside0.mk hC114
    clear hA114 hC114 hi0114 hsz114
    go_enter Tryd.func9, Tryd.ntmps9
    go_wp2
    go_loopg [5, 6, 7] k (fun kq v5 v6 v7 w' => ∃ (x5_1 : List Int) (x6_1 : List Int) (x7_1 : Int), v7 = .int .i64 x7_1 ∧ Aside0 (scarflaw01_UtfBack.l4 kq l0 (l1.take 100000) x5_1 x6_1 x7_1 = some r) ∧ Aside0 (kq ≤ k) ∧ Aside0 (Kd.R (Kd.int .u8) 5 w' w.heap.size (fun _ => True) v5 x5_1) ∧ Aside0 (Kd.R (Kd.int .i64) 3 w' w.heap.size (fun _ => True) v6 x6_1) ∧ Aside0 (Below w.heap.size w w'))
    case atStart => exact ⟨(([] : List Int)), (([] : List Int)), (0), (by first | rfl | (simp; done) | (simp [*]; done)), H', ⟨Nat.le_refl _⟩, ⟨by first | exact Kd.R_nil _ _ _ _ _ | exact Kd.N_nil _ _ _ _ _ | exact Kd.V_nil _ _ _ _ _ | exact Kd.Q_nil _ _ _ _ _ | exact Kd.S_nil _ _ _ _ _⟩, ⟨by first | exact Kd.R_nil _ _ _ _ _ | exact Kd.N_nil _ _ _ _ _ | exact Kd.V_nil _ _ _ _ _ | exact Kd.Q_nil _ _ _ _ _ | exact Kd.S_nil _ _ _ _ _⟩, ⟨by repeat (first | (with_reducible first | exact HB.out | apply below_alloc | apply pw_below_drewN | apply below_drew1) | exact HB.out)⟩⟩
    case round =>
     clear H'
     try clear c1
     try clear p1
     try clear q1
     try clear hx1
     try clear hcv1
     try clear c2
     try clear p2
     try clear c3
     try clear c3b0
     try clear c3b1
     try clear c4
     try clear c4b0
     try clear c4b1
     try clear c5
     try clear c5b0
     try clear c5b1
     try clear hcv5
     try clear c6
     try clear c6b0
     try clear c6b1
     try clear p6
     try clear c7
     try clear c8
     try clear c9
     try clear c9b0
     try clear c10
     try clear c10b0
     try clear hcv10
     try clear c11
     try clear c12
     try clear c12b0
     try clear c12b1
     try clear c13
     try clear p13
     try clear q13
     try clear hx13
     try clear c14
     try clear p15
     try clear q15
     try clear hx15
     try clear p16
     try clear q16
     try clear hx16
     try clear c17
     try clear p17
     try clear q17
     try clear hx17
     try clear c18
     try clear p18
     try clear q18
     try clear hx18
     try clear c25
     try clear c26
     try clear c26b0
     try clear c26b1
     try clear c28
     try clear c39
     try clear c41
     try clear c41b0
     try clear c41b1
     try clear c43
     try clear c43b0
     try clear c44
     try clear c44b0
     try clear c46
     try clear c46b0
     try clear c46b1
     try clear c47
     try clear hcv55
     try clear hcv56
     try clear c61
     try clear c61b0
     try clear c62
     try clear c62b0
     try clear c64
     try clear c64b0
     try clear c64b1
     try clear p64
     try clear c65
     try clear c66
     try clear c77
     try clear c78
     try clear c78b0
     try clear c78b1
     try clear c80
     try clear c91
     try clear c93
     try clear c93b0
     try clear c93b1
     try clear c95
     try clear c95b0
     try clear c96
     try clear c96b0
     try clear c98
     try clear c98b0
     try clear c98b1
     try clear c99
     try clear hcv107
     try clear hcv108
     try clear c112
     try clear c112b0
     try clear c112b1
     try clear c113
     try clear c113b0
     try clear c113b1
     try clear hx131_0
     try clear hx139_0
     try clear hx155_0
     try clear hx163_0
     try clear hx171_0
     try clear hx187_0
     try clear p1
     try clear p13
     try clear p131
     try clear p139
     try clear p15
     try clear p155
     try clear p16
     try clear p163
     try clear p17
     try clear p171
     try clear p187
     try clear p2
     try clear p6
     try clear p64
     try clear q1
     try clear q13
     try clear q131
     try clear q139
     try clear q15
     try clear q155
     try clear q16
     try clear q163
     try clear q17
     try clear q171
     try clear q187
     obtain ⟨x5_1, x6_1, x7_1, rfl, HA, HK1, HO_5, HO_6, HB⟩ := hrel
     cases gk with
     | zero => exact absurd HA.out (by simp [scarflaw01_UtfBack.l4])
     | succ k1 =>
      have H := HA.out
      clear HA
      simp only [scarflaw01_UtfBack.l4] at H
      by_cases c115 : x7_1 < (l0.length : Int)
      ·rw [if_pos c115] at H
       have c115b0 : decide (x7_1 < (l0.length : Int)) = true := decide_eq_true c115
       clear c115
       by_cases c116 : 0 ≤ x7_1
       ·rw [if_pos c116] at H
        have c116b0 : decide (0 ≤ x7_1) = true := decide_eq_true c116
        clear c116
        replace H := Option.bind_eq_some_iff.mp H
        obtain ⟨⟨t197, t198⟩, A1170, H⟩ := H
        replace H : (if t198 = 0 then (if x5_1.length + t197.length < 140737488355328 then (if x6_1.length < 17592186044416 then (scarflaw01_UtfBack.l4 k1 l0 (l1.take 100000) (x5_1 ++ t197) (x6_1 ++ [rd l0 x7_1]) (wrap64 (x7_1 + 1))) else (none)) else (none)) else (scarflaw01_UtfBack.l4 k1 l0 (l1.take 100000) x5_1 x6_1 (wrap64 (x7_1 + 1)))) = some r := H
        have A117 := Aside0.mk A1170
        clear A1170
        by_cases c118 : t198 = 0
        ·rw [if_pos c118] at H
         have c118b0 : (t198 == 0) = true := beq_iff_eq.mpr c118
         have c118b1 : (t198 != 0) = false := bne_eq_false_iff_eq.mpr c118
         clear c118
         by_cases c119 : x5_1.length + t197.length < 140737488355328
         ·rw [if_pos c119] at H
          have LMc119 := Aside0.mk c119
          clear c119
          obtain ⟨y201, hy201⟩ : ∃ y_ : List Int, y_ = (x5_1 ++ t197) := ⟨_, rfl⟩
          replace H : (if x6_1.length < 17592186044416 then (scarflaw01_UtfBack.l4 k1 l0 (l1.take 100000) y201 (x6_1 ++ [rd l0 x7_1]) (wrap64 (x7_1 + 1))) else (none)) = some r := by first | (rw [hy201]; with_reducible exact H) | (have H2_ := (Option.bind_some _ _).symm.trans H; rw [hy201]; with_reducible exact H2_) | (have H2_ := (Option.bind_some _ _).symm.trans H; with_reducible exact H2_) | with_reducible exact H | (rw [hy201]; exact H) | exact H
          have Ny201 := Aside0.mk hy201
          clear hy201
          by_cases c120 : x6_1.length < 17592186044416
          ·rw [if_pos c120] at H
           have LMc120 := Aside0.mk c120
           clear c120
           obtain ⟨y205, hy205⟩ : ∃ y_ : List Int, y_ = (x6_1 ++ [rd l0 x7_1]) := ⟨_, rfl⟩
           replace H : (scarflaw01_UtfBack.l4 k1 l0 (l1.take 100000) y201 y205 (wrap64 (x7_1 + 1))) = some r := by first | (rw [hy205]; with_reducible exact H) | (have H2_ := (Option.bind_some _ _).symm.trans H; rw [hy205]; with_reducible exact H2_) | (have H2_ := (Option.bind_some _ _).symm.trans H; with_reducible exact H2_) | with_reducible exact H | (rw [hy205]; exact H) | exact H
           have Ny205 := Aside0.mk hy205
           clear hy205
           have H' := Aside0.mk H
           clear H
           have p196 : 0 ≤ (x7_1 : Int) := of_decide_eq_true (by with_reducible assumption)
           have q196 : x7_1 < (l0.length : Int) := of_decide_eq_true (by with_reducible assumption)
           obtain ⟨ad196, e196, hx196_0⟩ := Kd.at_int HR0.out x7_1 p196 q196
           cases e196
           replace hx196_0 := (HB.out.cell (World.block_lt_of_cell? w _ hx196_0)).trans hx196_0
           replace p196 := eq_true p196
           replace q196 := eq_true q196
           go_wp2_with (first | ((with_reducible refine gate_callee (f := 13) rfl ?_); refine goesL_ (some 39) rfl rfl Tryd.func13 (by kernel_rfl) rfl #[.int .i64 (rd l0 x7_1)] rfl (by (try simp only [List.map_toArray, List.map_cons, List.map_nil]); first | done | rfl | (simp only [List.length_drop, List.length_take]; rfl)) ?_; (with_reducible refine (utf_Bytes.calls (rd l0 x7_1) t197 t198 _ A117.out).mono ?_); rintro e w121 ⟨v199, rfl, ho0, hb⟩; refine ⟨_, rfl, ?_⟩; have n0_ := Aside0.mk (Kd.R_elder' (by (with_reducible repeat (first | apply Kd.R_alloc | apply Kd.R_drewN | apply Kd.R_drew)); exact HO_5.out) (Kd.R_base ho0) hb); have n1_ := Aside0.mk (Kd.R_below (by (with_reducible repeat (first | apply Kd.R_alloc | apply Kd.R_drewN | apply Kd.R_drew)); exact HO_6.out) hb); have n2_ := Aside0.mk (Kd.R_lower (Kd.R_new' ho0 (Kd.R_lt (by (with_reducible repeat (first | apply Kd.R_alloc | apply Kd.R_drewN | apply Kd.R_drew)); exact HO_5.out))) (below_size (by repeat (first | (with_reducible first | exact HB.out | apply below_alloc | apply pw_below_drewN | apply below_drew1) | exact HB.out)))); have n3_ := Aside0.mk (below_step (by repeat (first | (with_reducible first | exact HB.out | apply below_alloc | apply pw_below_drewN | apply below_drew1) | exact HB.out)) hb); clear HO_5; clear HO_6; clear HB; have HO_5 := n0_; have HO_6 := n1_; have HO200 := n2_; have HB := n3_; clear n0_ n1_ n2_ n3_; (try clear hb); (try clear hb2); (try clear hk); (try clear hi); (try clear ho0); obtain ⟨Ao123, co123, eo123⟩ := Kd.R_slice HO200.out; subst eo123) | ((with_reducible refine gate_builtin (b := .append) (xs := #[.tmp 44, .tmp 45]) rfl ?_); at_builtin; refine Kd.R_append_rows (Kd.int .u8) (w0 := w) w.heap.size rfl (.tmp 44) (.tmp 45) 22 5 (.int .u8 0) 1 rfl Tryd.underlying22 info5 rfl (by decide) (by omega) u5 x5_1 t197 _ _ _ (fun k_ => some k_ ≠ (.slice Ao123 t197.length co123 : Value).ownBlock) (fun _ => False) rfl rfl ?aO ?aR (fun _ _ h => h) (fun _ h => h.elim) ?aF ?aB ?aS ?aL ?_; (case aR => repeat (first | exact (Kd.R_reads' HO200.out).2.2 | (with_reducible refine Kd.C_alloc ?_ _) | (with_reducible refine Kd.C_drewN ?_ _) | (with_reducible refine Kd.C_drew ?_))); (case aB => exact (by repeat (first | (with_reducible first | exact HB.out | apply below_alloc | apply pw_below_drewN | apply below_drew1) | exact HB.out))); (case aF => exact (fun k_ hk => Kd.fresh' (Kd.R_lt (by (with_reducible repeat (first | apply Kd.R_alloc | apply Kd.R_drewN | apply Kd.R_drew)); exact HO200.out)) k_ hk)); (case aO => exact (by (with_reducible repeat (first | apply Kd.R_alloc | apply Kd.R_drewN | apply Kd.R_drew)); exact Kd.R_mono HO_5.out (fun _ hk => hk.2))); (case aS => exact (below_size (by repeat (first | (with_reducible first | exact HB.out | apply below_alloc | apply pw_below_drewN | apply below_drew1) | exact HB.out)))); (case aL => have := LMc119.out; omega); intro v202 w122 ho hb hg hat; rw [← Ny201.out] at ho; have n0_ := Aside0.mk (Kd.R_over' (by (with_reducible repeat (first | apply Kd.R_alloc | apply Kd.R_drewN | apply Kd.R_drew)); exact HO_6.out) (Kd.R_typed (by (with_reducible repeat (first | apply Kd.R_alloc | apply Kd.R_drewN | apply Kd.R_drew)); exact HO_5.out)) (by decide) hg); have n1_ := Aside0.mk (Kd.R_after (ok := (fun _ => True)) (by (with_reducible repeat (first | apply Kd.R_alloc | apply Kd.R_drewN | apply Kd.R_drew)); exact HO200.out) hg hat); have n2_ := Aside0.mk (hb); have n3_ := Aside0.mk (ho); clear HO_6; clear HO200; clear HB; clear HO_5; have HO_6 := n0_; have HO200 := n1_; have HB := n2_; have HO203 := n3_; clear n0_ n1_ n2_ n3_; clear ho hb hg hat; have p204 : 0 ≤ (x7_1 : Int) := of_decide_eq_true (by with_reducible assumption); have q204 : x7_1 < (l0.length : Int) := of_decide_eq_true (by with_reducible assumption); obtain ⟨ad204, e204, hx204_0⟩ := Kd.at_int HR0.out x7_1 p204 q204; obtain rfl : ad196 = ad204 := (by injection e204); replace hx204_0 := (HB.out.cell (World.block_lt_of_cell? w _ hx204_0)).trans hx204_0; replace p204 := eq_true p204; replace q204 := eq_true q204) | ((with_reducible refine gate_builtin (b := .append) (xs := #[.tmp 47, .tmp 52]) rfl ?_); at_builtin; refine Kd.R_append (Kd.int .i64) (w0 := w) w.heap.size rfl (.tmp 47) (.tmp 52) 33 3 (.int .i64 0) 8 rfl Tryd.underlying33 info3 rfl (by decide) (by omega) u6 x6_1 (rd l0 x7_1) [.int .i64 (rd l0 x7_1)] (fun _ => True) (fun _ => False) rfl rfl ?aP (fun _ hk => hk.elim) ?aF ?aO ?aB ?aS ?aL ?_; (case aP => exact rfl); (case aB => exact (by repeat (first | (with_reducible first | exact HB.out | apply below_alloc | apply pw_below_drewN | apply below_drew1) | exact HB.out))); (case aF => exact (fun _ _ => trivial)); (case aO => exact (by (with_reducible repeat (first | apply Kd.R_alloc | apply Kd.R_drewN | apply Kd.R_drew)); exact HO_6.out)); (case aS => exact (below_size (by repeat (first | (with_reducible first | exact HB.out | apply below_alloc | apply pw_below_drewN | apply below_drew1) | exact HB.out)))); (case aL => have := LMc120.out; omega); intro v206 w124 ho hb hg hat; rw [← Ny205.out] at ho; have n0_ := Aside0.mk (Kd.R_over' (by (with_reducible repeat (first | apply Kd.R_alloc | apply Kd.R_drewN | apply Kd.R_drew)); exact HO200.out) (Kd.R_typed (by (with_reducible repeat (first | apply Kd.R_alloc | apply Kd.R_drewN | apply Kd.R_drew)); exact HO_6.out)) (by decide) hg); have n1_ := Aside0.mk (Kd.R_over' (by (with_reducible repeat (first | apply Kd.R_alloc | apply Kd.R_drewN | apply Kd.R_drew)); exact HO203.out) (Kd.R_typed (by (with_reducible repeat (first | apply Kd.R_alloc | apply Kd.R_drewN | apply Kd.R_drew)); exact HO_6.out)) (by decide) hg); have n2_ := Aside0.mk (hb); have n3_ := Aside0.mk (ho); clear HO200; clear HO203; clear HB; clear HO_6; have HO200 := n0_; have HO203 := n1_; have HB := n2_; have HO207 := n3_; clear n0_ n1_ n2_ n3_; clear ho hb hg hat))
           go_roundg k1
           case measure => have := HK1.out; omega
           case rel => exact ⟨(y201), (y205), (wrap64 (x7_1 + 1)), (by first | rfl | (simp; done) | (simp [*]; done)), H', ⟨by have := HK1.out; omega⟩, ⟨by (with_reducible repeat (first | apply Kd.R_alloc | apply Kd.R_drewN | apply Kd.R_drew)); exact Kd.R_mono HO203.out (fun _ hk => trivial)⟩, ⟨by (with_reducible repeat (first | apply Kd.R_alloc | apply Kd.R_drewN | apply Kd.R_drew)); exact HO207.out⟩, ⟨by repeat (first | (with_reducible first | exact HB.out | apply below_alloc | apply pw_below_drewN | apply below_drew1) | exact HB.out)⟩⟩
          ·rw [if_neg c120] at H
           exact absurd H (by simp)
         ·rw [if_neg c119] at H
          exact absurd H (by simp)
        ·rw [if_neg c118] at H
         have c118b0 : (t198 == 0) = false := beq_eq_false_iff_ne.mpr c118
         have c118b1 : (t198 != 0) = true := bne_iff_ne.mpr c118
         have H' := Aside0.mk H
         clear H
         have p196 : 0 ≤ (x7_1 : Int) := of_decide_eq_true (by with_reducible assumption)
         have q196 : x7_1 < (l0.length : Int) := of_decide_eq_true (by with_reducible assumption)
         obtain ⟨ad196, e196, hx196_0⟩ := Kd.at_int HR0.out x7_1 p196 q196
         cases e196
         replace hx196_0 := (HB.out.cell (World.block_lt_of_cell? w _ hx196_0)).trans hx196_0
         replace p196 := eq_true p196
         replace q196 := eq_true q196
         go_wp2_with (first | ((with_reducible refine gate_callee (f := 13) rfl ?_); refine goesL_ (some 39) rfl rfl Tryd.func13 (by kernel_rfl) rfl #[.int .i64 (rd l0 x7_1)] rfl (by (try simp only [List.map_toArray, List.map_cons, List.map_nil]); first | done | rfl | (simp only [List.length_drop, List.length_take]; rfl)) ?_; (with_reducible refine (utf_Bytes.calls (rd l0 x7_1) t197 t198 _ A117.out).mono ?_); rintro e w125 ⟨v199, rfl, ho0, hb⟩; refine ⟨_, rfl, ?_⟩; have n0_ := Aside0.mk (Kd.R_elder' (by (with_reducible repeat (first | apply Kd.R_alloc | apply Kd.R_drewN | apply Kd.R_drew)); exact HO_5.out) (Kd.R_base ho0) hb); have n1_ := Aside0.mk (Kd.R_below (by (with_reducible repeat (first | apply Kd.R_alloc | apply Kd.R_drewN | apply Kd.R_drew)); exact HO_6.out) hb); have n2_ := Aside0.mk (Kd.R_lower (Kd.R_new' ho0 (Kd.R_lt (by (with_reducible repeat (first | apply Kd.R_alloc | apply Kd.R_drewN | apply Kd.R_drew)); exact HO_5.out))) (below_size (by repeat (first | (with_reducible first | exact HB.out | apply below_alloc | apply pw_below_drewN | apply below_drew1) | exact HB.out)))); have n3_ := Aside0.mk (below_step (by repeat (first | (with_reducible first | exact HB.out | apply below_alloc | apply pw_below_drewN | apply below_drew1) | exact HB.out)) hb); clear HO_5; clear HO_6; clear HB; have HO_5 := n0_; have HO_6 := n1_; have HO200 := n2_; have HB := n3_; clear n0_ n1_ n2_ n3_; (try clear hb); (try clear hb2); (try clear hk); (try clear hi); (try clear ho0)))
         go_roundg k1
         case measure => have := HK1.out; omega
         case rel => exact ⟨(x5_1), (x6_1), (wrap64 (x7_1 + 1)), (by first | rfl | (simp; done) | (simp [*]; done)), H', ⟨by have := HK1.out; omega⟩, ⟨by (with_reducible repeat (first | apply Kd.R_alloc | apply Kd.R_drewN | apply Kd.R_drew)); exact Kd.R_mono HO_5.out (fun _ hk => trivial)⟩, ⟨by (with_reducible repeat (first | apply Kd.R_alloc | apply Kd.R_drewN | apply Kd.R_drew)); exact HO_6.out⟩, ⟨by repeat (first | (with_reducible first | exact HB.out | apply below_alloc | apply pw_below_drewN | apply below_drew1) | exact HB.out)⟩⟩
       ·rw [if_neg c116] at H
        exact absurd H (by simp)
      ·rw [if_neg c115] at H
       have c115b0 : decide (x7_1 < (l0.length : Int)) = false := decide_eq_false c115
       clear c115
       replace H := Option.bind_eq_some_iff.mp H
       obtain ⟨⟨t208, t209⟩, A1260, H⟩ := H
       replace H : ((scarflaw01_known.f).bind fun t212 => (if t212 = true then (if t209 = 0 then ((scarflaw01_same.f k1 t208 x6_1).bind fun t213 => (if t213 = true then ((utf_Text.f k1 x5_1).bind fun t214 => (scarflaw01_UtfBack.j7 k1 (l1.take 100000) (!t214))) else (scarflaw01_UtfBack.j7 k1 (l1.take 100000) true))) else (scarflaw01_UtfBack.j7 k1 (l1.take 100000) true)) else (scarflaw01_UtfBack.j7 k1 (l1.take 100000) true))) = some r := H
       have A126 := Aside0.mk A1260
       clear A1260
       have HC127 := Aside0.mk H
       clear H
       obtain ⟨Ao128, co128, eo128⟩ := Kd.R_slice HO_5.out
       subst eo128
       go_upto_region 15 with (first | ((with_reducible refine gate_callee (f := 18) rfl ?_); refine goesL_ (some 56) rfl rfl Tryd.func18 (by kernel_rfl) rfl #[.slice Ao128 x5_1.length co128] rfl (by (try simp only [List.map_toArray, List.map_cons, List.map_nil]); first | done | rfl | (simp only [List.length_drop, List.length_take]; rfl)) ?_; (with_reducible refine (utf_Signs.calls k1 _ _ x5_1 t208 t209 _ ?side1 ?side2 ?side3 A126.out).mono ?_); (case side1 => repeat (first | exact (Kd.R_reads' HO_5.out).2.2 | (with_reducible refine Kd.C_alloc ?_ _) | (with_reducible refine Kd.C_drewN ?_ _) | (with_reducible refine Kd.C_drew ?_))); (case side2 => exact (Kd.R_reads' HO_5.out).2.1); (case side3 => repeat (first | exact (GLOB_below HG_.out HB.out) | (with_reducible refine GLOB_alloc ?_ _) | (with_reducible refine GLOB_drewN ?_ _) | (with_reducible refine GLOB_drew ?_))); rintro e w129 ⟨v210, rfl, ho0, hb⟩; refine ⟨_, rfl, ?_⟩; have n0_ := Aside0.mk (Kd.R_below (by (with_reducible repeat (first | apply Kd.R_alloc | apply Kd.R_drewN | apply Kd.R_drew)); exact HO_5.out) hb); have n1_ := Aside0.mk (Kd.R_elder' (by (with_reducible repeat (first | apply Kd.R_alloc | apply Kd.R_drewN | apply Kd.R_drew)); exact HO_6.out) (Kd.R_base ho0) hb); have n2_ := Aside0.mk (Kd.R_lower (Kd.R_new' ho0 (Kd.R_lt (by (with_reducible repeat (first | apply Kd.R_alloc | apply Kd.R_drewN | apply Kd.R_drew)); exact HO_6.out))) (below_size (by repeat (first | (with_reducible first | exact HB.out | apply below_alloc | apply pw_below_drewN | apply below_drew1) | exact HB.out)))); have n3_ := Aside0.mk (below_step (by repeat (first | (with_reducible first | exact HB.out | apply below_alloc | apply pw_below_drewN | apply below_drew1) | exact HB.out)) hb); clear HO_5; clear HO_6; clear HB; have HO_5 := n0_; have HO_6 := n1_; have HO211 := n2_; have HB := n3_; clear n0_ n1_ n2_ n3_; (try clear hb); (try clear hb2); (try clear hk); (try clear hi); (try clear ho0)))
       (try simp only [Act.put, List.setIfInBounds_toArray, List.set_cons_zero, List.set_cons_succ])
       go_cut [75] (fun v75 wc => ∃ (kq : Nat) (x75_126 : Bool), v75 = .bool x75_126 ∧ Aside0 (scarflaw01_UtfBack.j7 kq (l1.take 100000) x75_126 = some r) ∧ Aside0 (kq ≤ k1) ∧ Aside0 (Below w.heap.size w wc))
       case first =>
        have H := HC127.out
        clear HC127
        replace H := Option.bind_eq_some_iff.mp H
        obtain ⟨t212, A1300, H⟩ := H
        replace H : (if t212 = true then (if t209 = 0 then ((scarflaw01_same.f k1 t208 x6_1).bind fun t213 => (if t213 = true then ((utf_Text.f k1 x5_1).bind fun t214 => (scarflaw01_UtfBack.j7 k1 (l1.take 100000) (!t214))) else (scarflaw01_UtfBack.j7 k1 (l1.take 100000) true))) else (scarflaw01_UtfBack.j7 k1 (l1.take 100000) true)) else (scarflaw01_UtfBack.j7 k1 (l1.take 100000) true)) = some r := H
        have A130 := Aside0.mk A1300
        clear A1300
        by_cases c131 : t212 = true
        ·subst c131
         have H1 : (if t209 = 0 then ((scarflaw01_same.f k1 t208 x6_1).bind fun t213 => (if t213 = true then ((utf_Text.f k1 x5_1).bind fun t214 => (scarflaw01_UtfBack.j7 k1 (l1.take 100000) (!t214))) else (scarflaw01_UtfBack.j7 k1 (l1.take 100000) true))) else (scarflaw01_UtfBack.j7 k1 (l1.take 100000) true)) = some r := by rw [if_pos rfl] at H; exact H
         clear H
         have H := H1
         clear H1
         by_cases c132 : t209 = 0
         ·rw [if_pos c132] at H
          have c132b0 : (t209 == 0) = true := beq_iff_eq.mpr c132
          have c132b1 : (t209 != 0) = false := bne_eq_false_iff_eq.mpr c132
          clear c132
          (first | rw [c132b0] | (simp only [i64_w, i32_w]; rw [c132b0]) | skip)
          replace H := Option.bind_eq_some_iff.mp H
          obtain ⟨t213, A1330, H⟩ := H
          replace H : (if t213 = true then ((utf_Text.f k1 x5_1).bind fun t214 => (scarflaw01_UtfBack.j7 k1 (l1.take 100000) (!t214))) else (scarflaw01_UtfBack.j7 k1 (l1.take 100000) true)) = some r := H
          have A133 := Aside0.mk A1330
          clear A1330
          by_cases c134 : t213 = true
          ·subst c134
           have H1 : ((utf_Text.f k1 x5_1).bind fun t214 => (scarflaw01_UtfBack.j7 k1 (l1.take 100000) (!t214))) = some r := by rw [if_pos rfl] at H; exact H
           clear H
           have H := H1
           clear H1
           replace H := Option.bind_eq_some_iff.mp H
           obtain ⟨t214, A1350, H⟩ := H
           replace H : (scarflaw01_UtfBack.j7 k1 (l1.take 100000) (!t214)) = some r := H
           have A135 := Aside0.mk A1350
           clear A1350
           have H' := Aside0.mk H
           clear H
           go_wp2_with (first | ((with_reducible refine gate_callee (f := 12) rfl ?_); refine goesL_ (some 59) rfl rfl Tryd.func12 (by kernel_rfl) rfl #[] rfl (by (try simp only [List.map_toArray, List.map_cons, List.map_nil]); first | done | rfl | (simp only [List.length_drop, List.length_take]; rfl)) ?_; (with_reducible refine (scarflaw01_known.calls  true _ ?side1 A130.out).mono ?_); (case side1 => repeat (first | exact (GLOB_below HG_.out HB.out) | (with_reducible refine GLOB_alloc ?_ _) | (with_reducible refine GLOB_drewN ?_ _) | (with_reducible refine GLOB_drew ?_))); rintro e w136 ⟨rfl, hb⟩; refine ⟨_, rfl, ?_⟩; have n0_ := Aside0.mk (Kd.R_below (by (with_reducible repeat (first | apply Kd.R_alloc | apply Kd.R_drewN | apply Kd.R_drew)); exact HO_5.out) hb); have n1_ := Aside0.mk (Kd.R_below (by (with_reducible repeat (first | apply Kd.R_alloc | apply Kd.R_drewN | apply Kd.R_drew)); exact HO_6.out) hb); have n2_ := Aside0.mk (Kd.R_below (by (with_reducible repeat (first | apply Kd.R_alloc | apply Kd.R_drewN | apply Kd.R_drew)); exact HO211.out) hb); have n3_ := Aside0.mk (below_step (by repeat (first | (with_reducible first | exact HB.out | apply below_alloc | apply pw_below_drewN | apply below_drew1) | exact HB.out)) hb); clear HO_5; clear HO_6; clear HO211; clear HB; have HO_5 := n0_; have HO_6 := n1_; have HO211 := n2_; have HB := n3_; clear n0_ n1_ n2_ n3_; (try clear hb); (try clear hb2); (try clear hk); (try clear hi); obtain ⟨Ao137, co137, eo137⟩ := Kd.R_slice HO211.out; subst eo137; obtain ⟨Ao138, co138, eo138⟩ := Kd.R_slice HO_6.out; subst eo138) | (go_at_call 20; (with_reducible refine (scarflaw01_same.calls k1 _ _ t208 _ _ x6_1 true _ ?side1 ?side2 ?side3 ?side4 A133.out).mono ?_); (case side1 => repeat (first | exact (Kd.R_reads' HO211.out).2.2 | (with_reducible refine Kd.C_alloc ?_ _) | (with_reducible refine Kd.C_drewN ?_ _) | (with_reducible refine Kd.C_drew ?_))); (case side2 => exact (Kd.R_reads' HO211.out).2.1); (case side3 => repeat (first | exact (Kd.R_reads' HO_6.out).2.2 | (with_reducible refine Kd.C_alloc ?_ _) | (with_reducible refine Kd.C_drewN ?_ _) | (with_reducible refine Kd.C_drew ?_))); (case side4 => exact (Kd.R_reads' HO_6.out).2.1); rintro e w' ⟨rfl, ⟨nd, rfl⟩⟩) | (go_at_call 17; (with_reducible refine (utf_Text.calls k1 _ _ x5_1 t214 _ ?side1 ?side2 ?side3 A135.out).mono ?_); (case side1 => repeat (first | exact (Kd.R_reads' HO_5.out).2.2 | (with_reducible refine Kd.C_alloc ?_ _) | (with_reducible refine Kd.C_drewN ?_ _) | (with_reducible refine Kd.C_drew ?_))); (case side2 => exact (Kd.R_reads' HO_5.out).2.1); (case side3 => repeat (first | exact (GLOB_below HG_.out (by repeat (first | (with_reducible first | exact HB.out | apply below_alloc | apply pw_below_drewN | apply below_drew1) | exact HB.out))) | (with_reducible refine GLOB_alloc ?_ _) | (with_reducible refine GLOB_drewN ?_ _) | (with_reducible refine GLOB_drew ?_))); rintro e w139 ⟨rfl, hb⟩; have n0_ := Aside0.mk (Kd.R_below (by (with_reducible repeat (first | apply Kd.R_alloc | apply Kd.R_drewN | apply Kd.R_drew)); exact HO_5.out) hb); have n1_ := Aside0.mk (Kd.R_below (by (with_reducible repeat (first | apply Kd.R_alloc | apply Kd.R_drewN | apply Kd.R_drew)); exact HO_6.out) hb); have n2_ := Aside0.mk (Kd.R_below (by (with_reducible repeat (first | apply Kd.R_alloc | apply Kd.R_drewN | apply Kd.R_drew)); exact HO211.out) hb); have n3_ := Aside0.mk (below_step (by repeat (first | (with_reducible first | exact HB.out | apply below_alloc | apply pw_below_drewN | apply below_drew1) | exact HB.out)) hb); clear HO_5; clear HO_6; clear HO211; clear HB; have HO_5 := n0_; have HO_6 := n1_; have HO211 := n2_; have HB := n3_; clear n0_ n1_ n2_ n3_; (try clear hb); (try clear hb2); (try clear hk); (try clear hi)))
           go_meet
           case rel => exact ⟨_, (!t214), (by first | rfl | (simp; done) | (simp [*]; done)), H', ⟨by have := HK1.out; first | omega | exact Nat.le_refl _⟩, ⟨by repeat (first | (with_reducible first | exact HB.out | apply below_alloc | apply pw_below_drewN | apply below_drew1) | exact HB.out)⟩⟩
          ·replace c134 := Bool.eq_false_iff.mpr c134
           subst c134
           have H1 : (scarflaw01_UtfBack.j7 k1 (l1.take 100000) true) = some r := by rw [if_neg (show ¬ (false = true) by decide)] at H; exact H
           clear H
           have H := H1
           clear H1
           have H' := Aside0.mk H
           clear H
           go_wp2_with (first | ((with_reducible refine gate_callee (f := 12) rfl ?_); refine goesL_ (some 59) rfl rfl Tryd.func12 (by kernel_rfl) rfl #[] rfl (by (try simp only [List.map_toArray, List.map_cons, List.map_nil]); first | done | rfl | (simp only [List.length_drop, List.length_take]; rfl)) ?_; (with_reducible refine (scarflaw01_known.calls  true _ ?side1 A130.out).mono ?_); (case side1 => repeat (first | exact (GLOB_below HG_.out HB.out) | (with_reducible refine GLOB_alloc ?_ _) | (with_reducible refine GLOB_drewN ?_ _) | (with_reducible refine GLOB_drew ?_))); rintro e w140 ⟨rfl, hb⟩; refine ⟨_, rfl, ?_⟩; have n0_ := Aside0.mk (Kd.R_below (by (with_reducible repeat (first | apply Kd.R_alloc | apply Kd.R_drewN | apply Kd.R_drew)); exact HO_5.out) hb); have n1_ := Aside0.mk (Kd.R_below (by (with_reducible repeat (first | apply Kd.R_alloc | apply Kd.R_drewN | apply Kd.R_drew)); exact HO_6.out) hb); have n2_ := Aside0.mk (Kd.R_below (by (with_reducible repeat (first | apply Kd.R_alloc | apply Kd.R_drewN | apply Kd.R_drew)); exact HO211.out) hb); have n3_ := Aside0.mk (below_step (by repeat (first | (with_reducible first | exact HB.out | apply below_alloc | apply pw_below_drewN | apply below_drew1) | exact HB.out)) hb); clear HO_5; clear HO_6; clear HO211; clear HB; have HO_5 := n0_; have HO_6 := n1_; have HO211 := n2_; have HB := n3_; clear n0_ n1_ n2_ n3_; (try clear hb); (try clear hb2); (try clear hk); (try clear hi); obtain ⟨Ao141, co141, eo141⟩ := Kd.R_slice HO211.out; subst eo141; obtain ⟨Ao142, co142, eo142⟩ := Kd.R_slice HO_6.out; subst eo142) | (go_at_call 20; (with_reducible refine (scarflaw01_same.calls k1 _ _ t208 _ _ x6_1 false _ ?side1 ?side2 ?side3 ?side4 A133.out).mono ?_); (case side1 => repeat (first | exact (Kd.R_reads' HO211.out).2.2 | (with_reducible refine Kd.C_alloc ?_ _) | (with_reducible refine Kd.C_drewN ?_ _) | (with_reducible refine Kd.C_drew ?_))); (case side2 => exact (Kd.R_reads' HO211.out).2.1); (case side3 => repeat (first | exact (Kd.R_reads' HO_6.out).2.2 | (with_reducible refine Kd.C_alloc ?_ _) | (with_reducible refine Kd.C_drewN ?_ _) | (with_reducible refine Kd.C_drew ?_))); (case side4 => exact (Kd.R_reads' HO_6.out).2.1); rintro e w' ⟨rfl, ⟨nd, rfl⟩⟩))
           go_meet
           case rel => exact ⟨_, (true), (by first | rfl | (simp; done) | (simp [*]; done)), H', ⟨by have := HK1.out; first | omega | exact Nat.le_refl _⟩, ⟨by repeat (first | (with_reducible first | exact HB.out | apply below_alloc | apply pw_below_drewN | apply below_drew1) | exact HB.out)⟩⟩
         ·rw [if_neg c132] at H
          have c132b0 : (t209 == 0) = false := beq_eq_false_iff_ne.mpr c132
          have c132b1 : (t209 != 0) = true := bne_iff_ne.mpr c132
          (first | rw [c132b0] | (simp only [i64_w, i32_w]; rw [c132b0]) | skip)
          have H' := Aside0.mk H
          clear H
          go_wp2_with (first | ((with_reducible refine gate_callee (f := 12) rfl ?_); refine goesL_ (some 59) rfl rfl Tryd.func12 (by kernel_rfl) rfl #[] rfl (by (try simp only [List.map_toArray, List.map_cons, List.map_nil]); first | done | rfl | (simp only [List.length_drop, List.length_take]; rfl)) ?_; (with_reducible refine (scarflaw01_known.calls  true _ ?side1 A130.out).mono ?_); (case side1 => repeat (first | exact (GLOB_below HG_.out HB.out) | (with_reducible refine GLOB_alloc ?_ _) | (with_reducible refine GLOB_drewN ?_ _) | (with_reducible refine GLOB_drew ?_))); rintro e w143 ⟨rfl, hb⟩; refine ⟨_, rfl, ?_⟩; have n0_ := Aside0.mk (Kd.R_below (by (with_reducible repeat (first | apply Kd.R_alloc | apply Kd.R_drewN | apply Kd.R_drew)); exact HO_5.out) hb); have n1_ := Aside0.mk (Kd.R_below (by (with_reducible repeat (first | apply Kd.R_alloc | apply Kd.R_drewN | apply Kd.R_drew)); exact HO_6.out) hb); have n2_ := Aside0.mk (Kd.R_below (by (with_reducible repeat (first | apply Kd.R_alloc | apply Kd.R_drewN | apply Kd.R_drew)); exact HO211.out) hb); have n3_ := Aside0.mk (below_step (by repeat (first | (with_reducible first | exact HB.out | apply below_alloc | apply pw_below_drewN | apply below_drew1) | exact HB.out)) hb); clear HO_5; clear HO_6; clear HO211; clear HB; have HO_5 := n0_; have HO_6 := n1_; have HO211 := n2_; have HB := n3_; clear n0_ n1_ n2_ n3_; (try clear hb); (try clear hb2); (try clear hk); (try clear hi)))
          go_meet
          case rel => exact ⟨_, (true), (by first | rfl | (simp; done) | (simp [*]; done)), H', ⟨by have := HK1.out; first | omega | exact Nat.le_refl _⟩, ⟨by repeat (first | (with_reducible first | exact HB.out | apply below_alloc | apply pw_below_drewN | apply below_drew1) | exact HB.out)⟩⟩
        ·replace c131 := Bool.eq_false_iff.mpr c131
         subst c131
         have H1 : (scarflaw01_UtfBack.j7 k1 (l1.take 100000) true) = some r := by rw [if_neg (show ¬ (false = true) by decide)] at H; exact H
         clear H
         have H := H1
         clear H1
         have H' := Aside0.mk H
         clear H
         go_wp2_with (first | ((with_reducible refine gate_callee (f := 12) rfl ?_); refine goesL_ (some 59) rfl rfl Tryd.func12 (by kernel_rfl) rfl #[] rfl (by (try simp only [List.map_toArray, List.map_cons, List.map_nil]); first | done | rfl | (simp only [List.length_drop, List.length_take]; rfl)) ?_; (with_reducible refine (scarflaw01_known.calls  false _ ?side1 A130.out).mono ?_); (case side1 => repeat (first | exact (GLOB_below HG_.out HB.out) | (with_reducible refine GLOB_alloc ?_ _) | (with_reducible refine GLOB_drewN ?_ _) | (with_reducible refine GLOB_drew ?_))); rintro e w144 ⟨rfl, hb⟩; refine ⟨_, rfl, ?_⟩; have n0_ := Aside0.mk (Kd.R_below (by (with_reducible repeat (first | apply Kd.R_alloc | apply Kd.R_drewN | apply Kd.R_drew)); exact HO_5.out) hb); have n1_ := Aside0.mk (Kd.R_below (by (with_reducible repeat (first | apply Kd.R_alloc | apply Kd.R_drewN | apply Kd.R_drew)); exact HO_6.out) hb); have n2_ := Aside0.mk (Kd.R_below (by (with_reducible repeat (first | apply Kd.R_alloc | apply Kd.R_drewN | apply Kd.R_drew)); exact HO211.out) hb); have n3_ := Aside0.mk (below_step (by repeat (first | (with_reducible first | exact HB.out | apply below_alloc | apply pw_below_drewN | apply below_drew1) | exact HB.out)) hb); clear HO_5; clear HO_6; clear HO211; clear HB; have HO_5 := n0_; have HO_6 := n1_; have HO211 := n2_; have HB := n3_; clear n0_ n1_ n2_ n3_; (try clear hb); (try clear hb2); (try clear hk); (try clear hi)))
         go_meet
         case rel => exact ⟨_, (true), (by first | rfl | (simp; done) | (simp [*]; done)), H', ⟨by have := HK1.out; first | omega | exact Nat.le_refl _⟩, ⟨by repeat (first | (with_reducible first | exact HB.out | apply below_alloc | apply pw_below_drewN | apply below_drew1) | exact HB.out)⟩⟩
       case rest =>
        clear HC127
        try clear c1
        try clear p1
        try clear q1
        try clear hx1
        try clear hcv1
        try clear c2
        try clear p2
        try clear q2
        try clear hx2
        try clear c3
        try clear c3b0
        try clear c3b1
        try clear c4
        try clear c4b0
        try clear c4b1
        try clear c5
        try clear c5b0
        try clear c5b1
        try clear hcv5
        try clear c6
        try clear c6b0
        try clear c6b1
        try clear p6
        try clear c7
        try clear c8
        try clear c9
        try clear c9b0
        try clear c10
        try clear c10b0
        try clear hcv10
        try clear c11
        try clear c12
        try clear c12b0
        try clear c12b1
        try clear c13
        try clear p13
        try clear q13
        try clear hx13
        try clear c14
        try clear p15
        try clear q15
        try clear hx15
        try clear p16
        try clear q16
        try clear hx16
        try clear c17
        try clear p17
        try clear q17
        try clear hx17
        try clear c18
        try clear p18
        try clear q18
        try clear hx18
        try clear p19
        try clear q19
        try clear hx19
        try clear p20
        try clear q20
        try clear hx20
        try clear c25
        try clear c26
        try clear c26b0
        try clear c26b1
        try clear c28
        try clear c39
        try clear c41
        try clear c41b0
        try clear c41b1
        try clear c43
        try clear c43b0
        try clear c44
        try clear c44b0
        try clear c46
        try clear c46b0
        try clear c46b1
        try clear c47
        try clear hcv55
        try clear hcv56
        try clear c61
        try clear c61b0
        try clear c62
        try clear c62b0
        try clear c64
        try clear c64b0
        try clear c64b1
        try clear p64
        try clear c65
        try clear c66
        try clear c77
        try clear c78
        try clear c78b0
        try clear c78b1
        try clear c80
        try clear c91
        try clear c93
        try clear c93b0
        try clear c93b1
        try clear c95
        try clear c95b0
        try clear c96
        try clear c96b0
        try clear c98
        try clear c98b0
        try clear c98b1
        try clear c99
        try clear hcv107
        try clear hcv108
        try clear c112
        try clear c112b0
        try clear c112b1
        try clear c113
        try clear c113b0
        try clear c113b1
        try clear c115
        try clear c115b0
        try clear c116
        try clear c116b0
        try clear c118
        try clear c118b0
        try clear c118b1
        try clear c119
        try clear c120
        try clear c131
        try clear p131
        try clear q131
        try clear hx131
        try clear c132
        try clear c132b0
        try clear c132b1
        try clear c134
        try clear p139
        try clear q139
        try clear hx139
        try clear hx131_0
        try clear hx139_0
        try clear hx155_0
        try clear hx163_0
        try clear hx171_0
        try clear hx187_0
        try clear hx196_0
        try clear hx204_0
        try clear p1
        try clear p13
        try clear p131
        try clear p139
        try clear p15
        try clear p155
        try clear p16
        try clear p163
        try clear p17
        try clear p171
        try clear p18
        try clear p187
        try clear p196
        try clear p2
        try clear p204
        try clear p6
        try clear p64
        try clear q1
        try clear q13
        try clear q131
        try clear q139
        try clear q15
        try clear q155
        try clear q16
        try clear q163
        try clear q17
        try clear q171
        try clear q18
        try clear q187
        try clear q196
        try clear q204
        obtain ⟨kq, x75_126, rfl, HA, HJ126, HB⟩ := hcut
        cases kq with
        | zero => exact absurd HA.out (by simp [scarflaw01_UtfBack.j7])
        | succ kj126 =>
         have H := HA.out
         clear HA
         simp only [scarflaw01_UtfBack.j7] at H
         by_cases c145 : x75_126 = true
         ·subst c145
          have H1 : (some false) = some r := by rw [if_pos rfl] at H; exact H
          clear H
          have H := H1
          clear H1
          obtain rfl := Option.some.inj H
          go_wp2
          go_ret
          exact ⟨by first | rfl | (simp [errW_none, errW_some] <;> rfl) | (simp [*, errW_none, errW_some] <;> rfl), by repeat (first | (with_reducible first | exact HB.out | apply below_alloc | apply pw_below_drewN | apply below_drew1) | exact HB.out)⟩
         ·replace c145 := Bool.eq_false_iff.mpr c145
          subst c145
          have H1 : ((utf_Signs.f kj126 (l1.take 100000)).bind fun bt215 => (if bt215.2 = 0 then (scarflaw01_UtfBack.l5 kj126 (l1.take 100000) bt215.1 ([] : List Int) 0) else ((utf_Text.f kj126 (l1.take 100000)).bind fun t219 => (some (!t219))))) = some r := by rw [if_neg (show ¬ (false = true) by decide)] at H; exact H
          clear H
          have H := H1
          clear H1
          replace H := Option.bind_eq_some_iff.mp H
          obtain ⟨⟨t215, t216⟩, A1460, H⟩ := H
          replace H : (if t216 = 0 then (scarflaw01_UtfBack.l5 kj126 (l1.take 100000) t215 ([] : List Int) 0) else ((utf_Text.f kj126 (l1.take 100000)).bind fun t219 => (some (!t219)))) = some r := H
          have A146 := Aside0.mk A1460
          clear A1460
          by_cases c147 : t216 = 0
          ·rw [if_pos c147] at H
           have c147b0 : (t216 == 0) = true := beq_iff_eq.mpr c147
           have c147b1 : (t216 != 0) = false := bne_eq_false_iff_eq.mpr c147
           clear c147
           have H' := Aside0.mk H
           clear H
           go_wp2_with (first | ((with_reducible refine gate_callee (f := 18) rfl ?_); refine goesL_ (some 78) rfl rfl Tryd.func18 (by kernel_rfl) rfl #[.slice A1 (l1.take 100000).length c1] rfl (by (try simp only [List.map_toArray, List.map_cons, List.map_nil]); first | done | (rw [show (l1.take 100000).length = 100000 from (by rw [List.length_take]; have h_ : (100000 : Int) ≤ (l1.length : Int) := of_decide_eq_true (by with_reducible assumption); omega)] <;> rfl) | rfl | (simp only [List.length_drop, List.length_take]; rfl)) ?_; (with_reducible refine (utf_Signs.calls kj126 _ _ (l1.take 100000) t215 t216 _ ?side1 ?side2 ?side3 A146.out).mono ?_); (case side1 => repeat (first | exact (Kd.C_below HR195.out HB.out) | (with_reducible refine Kd.C_alloc ?_ _) | (with_reducible refine Kd.C_drewN ?_ _) | (with_reducible refine Kd.C_drew ?_))); (case side2 => exact HC195.out); (case side3 => repeat (first | exact (GLOB_below HG_.out HB.out) | (with_reducible refine GLOB_alloc ?_ _) | (with_reducible refine GLOB_drewN ?_ _) | (with_reducible refine GLOB_drew ?_))); rintro e w148 ⟨v217, rfl, ho0, hb⟩; refine ⟨_, rfl, ?_⟩; have n0_ := Aside0.mk (Kd.R_lower ho0 (below_size (by repeat (first | (with_reducible first | exact HB.out | apply below_alloc | apply pw_below_drewN | apply below_drew1) | exact HB.out)))); have n1_ := Aside0.mk (below_step (by repeat (first | (with_reducible first | exact HB.out | apply below_alloc | apply pw_below_drewN | apply below_drew1) | exact HB.out)) hb); clear HB; have HO218 := n0_; have HB := n1_; clear n0_ n1_; (try clear hb); (try clear hb2); (try clear hk); (try clear hi); (try clear ho0)))
           go_loopg [14, 15] kj126 (fun kq v14 v15 w' => ∃ (x14_3 : List Int) (x15_3 : Int), v15 = .int .i64 x15_3 ∧ Aside0 (scarflaw01_UtfBack.l5 kq (l1.take 100000) t215 x14_3 x15_3 = some r) ∧ Aside0 (kq ≤ kj126) ∧ Aside0 (Kd.R (Kd.int .i64) 3 w' w.heap.size (fun _ => True) v217 t215) ∧ Aside0 (Kd.R (Kd.int .u8) 5 w' w.heap.size (fun _ => True) v14 x14_3) ∧ Aside0 (Below w.heap.size w w'))
           case atStart => exact ⟨(([] : List Int)), (0), (by first | rfl | (simp; done) | (simp [*]; done)), H', ⟨Nat.le_refl _⟩, ⟨by (with_reducible repeat (first | apply Kd.R_alloc | apply Kd.R_drewN | apply Kd.R_drew)); exact HO218.out⟩, ⟨by first | exact Kd.R_nil _ _ _ _ _ | exact Kd.N_nil _ _ _ _ _ | exact Kd.V_nil _ _ _ _ _ | exact Kd.Q_nil _ _ _ _ _ | exact Kd.S_nil _ _ _ _ _⟩, ⟨by repeat (first | (with_reducible first | exact HB.out | apply below_alloc | apply pw_below_drewN | apply below_drew1) | exact HB.out)⟩⟩
           case round =>
            clear H'
            try clear c1
            try clear p1
            try clear q1
            try clear hx1
            try clear hcv1
            try clear c2
            try clear p2
            try clear q2
            try clear hx2
            try clear c3
            try clear c3b0
            try clear c3b1
            try clear c4
            try clear c4b0
            try clear c4b1
            try clear c5
            try clear c5b0
            try clear c5b1
            try clear hcv5
            try clear c6
            try clear c6b0
            try clear c6b1
            try clear p6
            try clear c7
            try clear c8
            try clear c9
            try clear c9b0
            try clear c10
            try clear c10b0
            try clear hcv10
            try clear c11
            try clear c12
            try clear c12b0
            try clear c12b1
            try clear c13
            try clear p13
            try clear q13
            try clear hx13
            try clear c14
            try clear p15
            try clear q15
            try clear hx15
            try clear p16
            try clear q16
            try clear hx16
            try clear c17
            try clear p17
            try clear q17
            try clear hx17
            try clear c18
            try clear p18
            try clear q18
            try clear hx18
            try clear p19
            try clear q19
            try clear hx19
            try clear p20
            try clear q20
            try clear hx20
            try clear c25
            try clear c26
            try clear c26b0
            try clear c26b1
            try clear c28
            try clear c39
            try clear c41
            try clear c41b0
            try clear c41b1
            try clear c43
            try clear c43b0
            try clear c44
            try clear c44b0
            try clear c46
            try clear c46b0
            try clear c46b1
            try clear c47
            try clear hcv55
            try clear hcv56
            try clear c61
            try clear c61b0
            try clear c62
            try clear c62b0
            try clear c64
            try clear c64b0
            try clear c64b1
            try clear p64
            try clear c65
            try clear c66
            try clear c77
            try clear c78
            try clear c78b0
            try clear c78b1
            try clear c80
            try clear c91
            try clear c93
            try clear c93b0
            try clear c93b1
            try clear c95
            try clear c95b0
            try clear c96
            try clear c96b0
            try clear c98
            try clear c98b0
            try clear c98b1
            try clear c99
            try clear hcv107
            try clear hcv108
            try clear c112
            try clear c112b0
            try clear c112b1
            try clear c113
            try clear c113b0
            try clear c113b1
            try clear c115
            try clear c115b0
            try clear c116
            try clear c116b0
            try clear c118
            try clear c118b0
            try clear c118b1
            try clear c119
            try clear c120
            try clear c131
            try clear p131
            try clear q131
            try clear hx131
            try clear c132
            try clear c132b0
            try clear c132b1
            try clear c134
            try clear p139
            try clear q139
            try clear hx139
            try clear c145
            try clear c147
            try clear c147b0
            try clear c147b1
            try clear hx131_0
            try clear hx139_0
            try clear hx155_0
            try clear hx163_0
            try clear hx171_0
            try clear hx187_0
            try clear hx196_0
            try clear hx204_0
            try clear p1
            try clear p13
            try clear p131
            try clear p139
            try clear p15
            try clear p155
            try clear p16
            try clear p163
            try clear p17
            try clear p171
            try clear p18
            try clear p187
            try clear p19
            try clear p196
            try clear p2
            try clear p20
            try clear p204
            try clear p6
            try clear p64
            try clear q1
            try clear q13
            try clear q131
            try clear q139
            try clear q15
            try clear q155
            try clear q16
            try clear q163
            try clear q17
            try clear q171
            try clear q18
            try clear q187
            try clear q19
            try clear q196
            try clear q2
            try clear q20
            try clear q204
            obtain ⟨x14_3, x15_3, rfl, HA, HK3, HO_12, HO_14, HB⟩ := hrel
            cases gk with
            | zero => exact absurd HA.out (by simp [scarflaw01_UtfBack.l5])
            | succ k3 =>
             have H := HA.out
             clear HA
             simp only [scarflaw01_UtfBack.l5] at H
             by_cases c149 : x15_3 < (t215.length : Int)
             ·rw [if_pos c149] at H
              have c149b0 : decide (x15_3 < (t215.length : Int)) = true := decide_eq_true c149
              clear c149
              by_cases c150 : 0 ≤ x15_3
              ·rw [if_pos c150] at H
               have c150b0 : decide (0 ≤ x15_3) = true := decide_eq_true c150
               clear c150
               replace H := Option.bind_eq_some_iff.mp H
               obtain ⟨⟨t221, t222⟩, A1510, H⟩ := H
               replace H : (if t222 = 0 then (if x14_3.length + t221.length < 140737488355328 then (scarflaw01_UtfBack.l5 k3 (l1.take 100000) t215 (x14_3 ++ t221) (wrap64 (x15_3 + 1))) else (none)) else (some false)) = some r := H
               have A151 := Aside0.mk A1510
               clear A1510
               by_cases c152 : t222 = 0
               ·rw [if_pos c152] at H
                have c152b0 : (t222 == 0) = true := beq_iff_eq.mpr c152
                have c152b1 : (t222 != 0) = false := bne_eq_false_iff_eq.mpr c152
                clear c152
                by_cases c153 : x14_3.length + t221.length < 140737488355328
                ·rw [if_pos c153] at H
                 have LMc153 := Aside0.mk c153
                 clear c153
                 obtain ⟨y225, hy225⟩ : ∃ y_ : List Int, y_ = (x14_3 ++ t221) := ⟨_, rfl⟩
                 replace H : (scarflaw01_UtfBack.l5 k3 (l1.take 100000) t215 y225 (wrap64 (x15_3 + 1))) = some r := by first | (rw [hy225]; with_reducible exact H) | (have H2_ := (Option.bind_some _ _).symm.trans H; rw [hy225]; with_reducible exact H2_) | (have H2_ := (Option.bind_some _ _).symm.trans H; with_reducible exact H2_) | with_reducible exact H | (rw [hy225]; exact H) | exact H
                 have Ny225 := Aside0.mk hy225
                 clear hy225
                 have H' := Aside0.mk H
                 clear H
                 obtain ⟨Ao154, co154, eo154⟩ := Kd.R_slice HO_12.out
                 subst eo154
                 have p220 : 0 ≤ (x15_3 : Int) := of_decide_eq_true (by with_reducible assumption)
                 have q220 : x15_3 < (t215.length : Int) := of_decide_eq_true (by with_reducible assumption)
                 obtain ⟨ad220, e220, hx220_0⟩ := Kd.at_int (Kd.R_reads' HO_12.out).2.2 x15_3 p220 q220
                 cases e220
                 replace p220 := eq_true p220
                 replace q220 := eq_true q220
                 go_wp2_with (first | ((with_reducible refine gate_callee (f := 13) rfl ?_); refine goesL_ (some 97) rfl rfl Tryd.func13 (by kernel_rfl) rfl #[.int .i64 (rd t215 x15_3)] rfl (by (try simp only [List.map_toArray, List.map_cons, List.map_nil]); first | done | rfl | (simp only [List.length_drop, List.length_take]; rfl)) ?_; (with_reducible refine (utf_Bytes.calls (rd t215 x15_3) t221 t222 _ A151.out).mono ?_); rintro e w155 ⟨v223, rfl, ho0, hb⟩; refine ⟨_, rfl, ?_⟩; have n0_ := Aside0.mk (Kd.R_below (by (with_reducible repeat (first | apply Kd.R_alloc | apply Kd.R_drewN | apply Kd.R_drew)); exact HO_12.out) hb); have n1_ := Aside0.mk (Kd.R_elder' (by (with_reducible repeat (first | apply Kd.R_alloc | apply Kd.R_drewN | apply Kd.R_drew)); exact HO_14.out) (Kd.R_base ho0) hb); have n2_ := Aside0.mk (Kd.R_lower (Kd.R_new' ho0 (Kd.R_lt (by (with_reducible repeat (first | apply Kd.R_alloc | apply Kd.R_drewN | apply Kd.R_drew)); exact HO_14.out))) (below_size (by repeat (first | (with_reducible first | exact HB.out | apply below_alloc | apply pw_below_drewN | apply below_drew1) | exact HB.out)))); have n3_ := Aside0.mk (below_step (by repeat (first | (with_reducible first | exact HB.out | apply below_alloc | apply pw_below_drewN | apply below_drew1) | exact HB.out)) hb); clear HO_12; clear HO_14; clear HB; have HO_12 := n0_; have HO_14 := n1_; have HO224 := n2_; have HB := n3_; clear n0_ n1_ n2_ n3_; (try clear hb); (try clear hb2); (try clear hk); (try clear hi); (try clear ho0); obtain ⟨Ao157, co157, eo157⟩ := Kd.R_slice HO224.out; subst eo157) | ((with_reducible refine gate_builtin (b := .append) (xs := #[.tmp 102, .tmp 103]) rfl ?_); at_builtin; refine Kd.R_append_rows (Kd.int .u8) (w0 := w) w.heap.size rfl (.tmp 102) (.tmp 103) 22 5 (.int .u8 0) 1 rfl Tryd.underlying22 info5 rfl (by decide) (by omega) u14 x14_3 t221 _ _ _ (fun k_ => some k_ ≠ (.slice Ao157 t221.length co157 : Value).ownBlock) (fun _ => False) rfl rfl ?aO ?aR (fun _ _ h => h) (fun _ h => h.elim) ?aF ?aB ?aS ?aL ?_; (case aR => repeat (first | exact (Kd.R_reads' HO224.out).2.2 | (with_reducible refine Kd.C_alloc ?_ _) | (with_reducible refine Kd.C_drewN ?_ _) | (with_reducible refine Kd.C_drew ?_))); (case aB => exact (by repeat (first | (with_reducible first | exact HB.out | apply below_alloc | apply pw_below_drewN | apply below_drew1) | exact HB.out))); (case aF => exact (fun k_ hk => Kd.fresh' (Kd.R_lt (by (with_reducible repeat (first | apply Kd.R_alloc | apply Kd.R_drewN | apply Kd.R_drew)); exact HO224.out)) k_ hk)); (case aO => exact (by (with_reducible repeat (first | apply Kd.R_alloc | apply Kd.R_drewN | apply Kd.R_drew)); exact Kd.R_mono HO_14.out (fun _ hk => hk.2))); (case aS => exact (below_size (by repeat (first | (with_reducible first | exact HB.out | apply below_alloc | apply pw_below_drewN | apply below_drew1) | exact HB.out)))); (case aL => have := LMc153.out; omega); intro v226 w156 ho hb hg hat; rw [← Ny225.out] at ho; have n0_ := Aside0.mk (Kd.R_over' (by (with_reducible repeat (first | apply Kd.R_alloc | apply Kd.R_drewN | apply Kd.R_drew)); exact HO_12.out) (Kd.R_typed (by (with_reducible repeat (first | apply Kd.R_alloc | apply Kd.R_drewN | apply Kd.R_drew)); exact HO_14.out)) (by decide) hg); have n1_ := Aside0.mk (Kd.R_after (ok := (fun _ => True)) (by (with_reducible repeat (first | apply Kd.R_alloc | apply Kd.R_drewN | apply Kd.R_drew)); exact HO224.out) hg hat); have n2_ := Aside0.mk (hb); have n3_ := Aside0.mk (ho); clear HO_12; clear HO224; clear HB; clear HO_14; have HO_12 := n0_; have HO224 := n1_; have HB := n2_; have HO227 := n3_; clear n0_ n1_ n2_ n3_; clear ho hb hg hat))
                 go_roundg k3
                 case measure => have := HK1.out; have := HJ126.out; have := HK3.out; omega
                 case rel => exact ⟨(y225), (wrap64 (x15_3 + 1)), (by first | rfl | (simp; done) | (simp [*]; done)), H', ⟨by have := HK1.out; have := HJ126.out; have := HK3.out; omega⟩, ⟨by (with_reducible repeat (first | apply Kd.R_alloc | apply Kd.R_drewN | apply Kd.R_drew)); exact HO_12.out⟩, ⟨by (with_reducible repeat (first | apply Kd.R_alloc | apply Kd.R_drewN | apply Kd.R_drew)); exact Kd.R_mono HO227.out (fun _ hk => trivial)⟩, ⟨by repeat (first | (with_reducible first | exact HB.out | apply below_alloc | apply pw_below_drewN | apply below_drew1) | exact HB.out)⟩⟩
                ·rw [if_neg c153] at H
                 exact absurd H (by simp)
               ·rw [if_neg c152] at H
                have c152b0 : (t222 == 0) = false := beq_eq_false_iff_ne.mpr c152
                have c152b1 : (t222 != 0) = true := bne_iff_ne.mpr c152
                obtain rfl := Option.some.inj H
                obtain ⟨Ao158, co158, eo158⟩ := Kd.R_slice HO_12.out
                subst eo158
                have p220 : 0 ≤ (x15_3 : Int) := of_decide_eq_true (by with_reducible assumption)
                have q220 : x15_3 < (t215.length : Int) := of_decide_eq_true (by with_reducible assumption)
                obtain ⟨ad220, e220, hx220_0⟩ := Kd.at_int (Kd.R_reads' HO_12.out).2.2 x15_3 p220 q220
                cases e220
                replace p220 := eq_true p220
                replace q220 := eq_true q220
                go_wp2_with (first | ((with_reducible refine gate_callee (f := 13) rfl ?_); refine goesL_ (some 97) rfl rfl Tryd.func13 (by kernel_rfl) rfl #[.int .i64 (rd t215 x15_3)] rfl (by (try simp only [List.map_toArray, List.map_cons, List.map_nil]); first | done | rfl | (simp only [List.length_drop, List.length_take]; rfl)) ?_; (with_reducible refine (utf_Bytes.calls (rd t215 x15_3) t221 t222 _ A151.out).mono ?_); rintro e w159 ⟨v223, rfl, ho0, hb⟩; refine ⟨_, rfl, ?_⟩; have n0_ := Aside0.mk (Kd.R_below (by (with_reducible repeat (first | apply Kd.R_alloc | apply Kd.R_drewN | apply Kd.R_drew)); exact HO_12.out) hb); have n1_ := Aside0.mk (Kd.R_elder' (by (with_reducible repeat (first | apply Kd.R_alloc | apply Kd.R_drewN | apply Kd.R_drew)); exact HO_14.out) (Kd.R_base ho0) hb); have n2_ := Aside0.mk (Kd.R_lower (Kd.R_new' ho0 (Kd.R_lt (by (with_reducible repeat (first | apply Kd.R_alloc | apply Kd.R_drewN | apply Kd.R_drew)); exact HO_14.out))) (below_size (by repeat (first | (with_reducible first | exact HB.out | apply below_alloc | apply pw_below_drewN | apply below_drew1) | exact HB.out)))); have n3_ := Aside0.mk (below_step (by repeat (first | (with_reducible first | exact HB.out | apply below_alloc | apply pw_below_drewN | apply below_drew1) | exact HB.out)) hb); clear HO_12; clear HO_14; clear HB; have HO_12 := n0_; have HO_14 := n1_; have HO224 := n2_; have HB := n3_; clear n0_ n1_ n2_ n3_; (try clear hb); (try clear hb2); (try clear hk); (try clear hi); (try clear ho0)))
                go_ret
                exact ⟨by first | rfl | (simp [errW_none, errW_some] <;> rfl) | (simp [*, errW_none, errW_some] <;> rfl), by repeat (first | (with_reducible first | exact HB.out | apply below_alloc | apply pw_below_drewN | apply below_drew1) | exact HB.out)⟩
              ·rw [if_neg c150] at H
               exact absurd H (by simp)
             ·rw [if_neg c149] at H
              have c149b0 : decide (x15_3 < (t215.length : Int)) = false := decide_eq_false c149
              clear c149
              obtain rfl := Option.some.inj H
              obtain ⟨Ao160, co160, eo160⟩ := Kd.R_slice HO_12.out
              subst eo160
              have hcv161 := own_string (P := Tryd.prog) Tryd.underlying22 Tryd.underlying5 Tryd.underlying9 (Kd.own_of_R HO_14.out)
              (try (have hcn161 := fun n_ : Nat => own_string (P := Tryd.prog) Tryd.underlying22 Tryd.underlying5 Tryd.underlying9 (Kd.own_of_R (Kd.R_drewN HO_14.out n_))))
              have hcv162 := Kd.C_string (P := Tryd.prog) (A := A1) (c := c1) Tryd.underlying22 Tryd.underlying5 Tryd.underlying9 (Kd.C_below HR195.out HB.out)
              (try (have hcv162t := hcv162; simp only [Int.reduceToNat, show (l1.take 100000).length = 100000 from (by rw [List.length_take]; have h_ : (100000 : Int) ≤ (l1.length : Int) := of_decide_eq_true (by with_reducible assumption); omega)] at hcv162t))
              (try (have hcv162m := hcv162; simp only [List.length_take, List.length_drop, Int.reduceToNat] at hcv162m))
              have hcn162 := fun n_ : Nat => Kd.C_string (P := Tryd.prog) (A := A1) (c := c1) Tryd.underlying22 Tryd.underlying5 Tryd.underlying9 (Kd.C_drewN (Kd.C_below HR195.out HB.out) n_)
              (try (have hcn162t := hcn162; simp only [Int.reduceToNat, show (l1.take 100000).length = 100000 from (by rw [List.length_take]; have h_ : (100000 : Int) ≤ (l1.length : Int) := of_decide_eq_true (by with_reducible assumption); omega)] at hcn162t))
              (try (have hcn162m := hcn162; simp only [List.length_take, List.length_drop, Int.reduceToNat] at hcn162m))
              go_wp2
              go_ret
              exact ⟨by first | rfl | (simp [errW_none, errW_some] <;> rfl) | (simp [*, errW_none, errW_some] <;> rfl), by repeat (first | (with_reducible first | exact HB.out | apply below_alloc | apply pw_below_drewN | apply below_drew1) | exact HB.out)⟩
          ·rw [if_neg c147] at H
           have c147b0 : (t216 == 0) = false := beq_eq_false_iff_ne.mpr c147
           have c147b1 : (t216 != 0) = true := bne_iff_ne.mpr c147
           replace H := Option.bind_eq_some_iff.mp H
           obtain ⟨t219, A1630, H⟩ := H
           replace H : (some (!t219)) = some r := H
           have A163 := Aside0.mk A1630
           clear A1630
           obtain rfl := Option.some.inj H
           go_wp2_with (first | ((with_reducible refine gate_callee (f := 18) rfl ?_); refine goesL_ (some 78) rfl rfl Tryd.func18 (by kernel_rfl) rfl #[.slice A1 (l1.take 100000).length c1] rfl (by (try simp only [List.map_toArray, List.map_cons, List.map_nil]); first | done | (rw [show (l1.take 100000).length = 100000 from (by rw [List.length_take]; have h_ : (100000 : Int) ≤ (l1.length : Int) := of_decide_eq_true (by with_reducible assumption); omega)] <;> rfl) | rfl | (simp only [List.length_drop, List.length_take]; rfl)) ?_; (with_reducible refine (utf_Signs.calls kj126 _ _ (l1.take 100000) t215 t216 _ ?side1 ?side2 ?side3 A146.out).mono ?_); (case side1 => repeat (first | exact (Kd.C_below HR195.out HB.out) | (with_reducible refine Kd.C_alloc ?_ _) | (with_reducible refine Kd.C_drewN ?_ _) | (with_reducible refine Kd.C_drew ?_))); (case side2 => exact HC195.out); (case side3 => repeat (first | exact (GLOB_below HG_.out HB.out) | (with_reducible refine GLOB_alloc ?_ _) | (with_reducible refine GLOB_drewN ?_ _) | (with_reducible refine GLOB_drew ?_))); rintro e w164 ⟨v217, rfl, ho0, hb⟩; refine ⟨_, rfl, ?_⟩; have n0_ := Aside0.mk (Kd.R_lower ho0 (below_size (by repeat (first | (with_reducible first | exact HB.out | apply below_alloc | apply pw_below_drewN | apply below_drew1) | exact HB.out)))); have n1_ := Aside0.mk (below_step (by repeat (first | (with_reducible first | exact HB.out | apply below_alloc | apply pw_below_drewN | apply below_drew1) | exact HB.out)) hb); clear HB; have HO218 := n0_; have HB := n1_; clear n0_ n1_; (try clear hb); (try clear hb2); (try clear hk); (try clear hi); (try clear ho0)) | ((with_reducible refine gate_callee (f := 17) rfl ?_); refine goesL_ (some 84) rfl rfl Tryd.func17 (by kernel_rfl) rfl #[.slice A1 (l1.take 100000).length c1] rfl (by (try simp only [List.map_toArray, List.map_cons, List.map_nil]); first | done | (rw [show (l1.take 100000).length = 100000 from (by rw [List.length_take]; have h_ : (100000 : Int) ≤ (l1.length : Int) := of_decide_eq_true (by with_reducible assumption); omega)] <;> rfl) | rfl | (simp only [List.length_drop, List.length_take]; rfl)) ?_; (with_reducible refine (utf_Text.calls kj126 _ _ (l1.take 100000) t219 _ ?side1 ?side2 ?side3 A163.out).mono ?_); (case side1 => repeat (first | exact (Kd.C_below HR195.out HB.out) | (with_reducible refine Kd.C_alloc ?_ _) | (with_reducible refine Kd.C_drewN ?_ _) | (with_reducible refine Kd.C_drew ?_))); (case side2 => exact HC195.out); (case side3 => repeat (first | exact (GLOB_below HG_.out HB.out) | (with_reducible refine GLOB_alloc ?_ _) | (with_reducible refine GLOB_drewN ?_ _) | (with_reducible refine GLOB_drew ?_))); rintro e w165 ⟨rfl, hb⟩; refine ⟨_, rfl, ?_⟩; have n0_ := Aside0.mk (Kd.R_below (by (with_reducible repeat (first | apply Kd.R_alloc | apply Kd.R_drewN | apply Kd.R_drew)); exact HO218.out) hb); have n1_ := Aside0.mk (below_step (by repeat (first | (with_reducible first | exact HB.out | apply below_alloc | apply pw_below_drewN | apply below_drew1) | exact HB.out)) hb); clear HO218; clear HB; have HO218 := n0_; have HB := n1_; clear n0_ n1_; (try clear hb); (try clear hb2); (try clear hk); (try clear hi)))
           go_ret
           exact ⟨by first | rfl | (simp [errW_none, errW_some] <;> rfl) | (simp [*, errW_none, errW_some] <;> rfl), by repeat (first | (with_reducible first | exact HB.out | apply below_alloc | apply pw_below_drewN | apply below_drew1) | exact HB.out)⟩
   ·rw [if_neg c113] at H
    exact absurd H (by simp)
  ·rw [if_neg c112] at H
   have c112b0 : decide (100000 < (l1.length : Int)) = false := decide_eq_false c112
   have c112b1 : decide (100000 < l1.length) = false := decide_eq_false (by omega)
   clear c112
   have H' := Aside0.mk H
   clear H
   go_enter Tryd.func9, Tryd.ntmps9
   go_wp2
   go_loopg [5, 6, 7] k (fun kq v5 v6 v7 w' => ∃ (x5_1 : List Int) (x6_1 : List Int) (x7_1 : Int), v7 = .int .i64 x7_1 ∧ Aside0 (scarflaw01_UtfBack.l6 kq l0 l1 x5_1 x6_1 x7_1 = some r) ∧ Aside0 (kq ≤ k) ∧ Aside0 (Kd.R (Kd.int .u8) 5 w' w.heap.size (fun _ => True) v5 x5_1) ∧ Aside0 (Kd.R (Kd.int .i64) 3 w' w.heap.size (fun _ => True) v6 x6_1) ∧ Aside0 (Below w.heap.size w w'))
   case atStart => exact ⟨(([] : List Int)), (([] : List Int)), (0), (by first | rfl | (simp; done) | (simp [*]; done)), H', ⟨Nat.le_refl _⟩, ⟨by first | exact Kd.R_nil _ _ _ _ _ | exact Kd.N_nil _ _ _ _ _ | exact Kd.V_nil _ _ _ _ _ | exact Kd.Q_nil _ _ _ _ _ | exact Kd.S_nil _ _ _ _ _⟩, ⟨by first | exact Kd.R_nil _ _ _ _ _ | exact Kd.N_nil _ _ _ _ _ | exact Kd.V_nil _ _ _ _ _ | exact Kd.Q_nil _ _ _ _ _ | exact Kd.S_nil _ _ _ _ _⟩, ⟨by repeat (first | (with_reducible first | exact HB.out | apply below_alloc | apply pw_below_drewN | apply below_drew1) | exact HB.out)⟩⟩
   case round =>
    clear H'
    try clear c1
    try clear p1
    try clear q1
    try clear hx1
    try clear hcv1
    try clear c2
    try clear p2
    try clear q2
    try clear hx2
    try clear c3
    try clear c3b0
    try clear c3b1
    try clear c4
    try clear c4b0
    try clear c4b1
    try clear c5
    try clear c5b0
    try clear c5b1
    try clear hcv5
    try clear c6
    try clear c6b0
    try clear c6b1
    try clear p6
    try clear c7
    try clear c8
    try clear c9
    try clear c9b0
    try clear c10
    try clear c10b0
    try clear hcv10
    try clear c11
    try clear c12
    try clear c12b0
    try clear c12b1
    try clear c13
    try clear p13
    try clear q13
    try clear hx13
    try clear c14
    try clear c15
    try clear p15
    try clear q15
    try clear hx15
    try clear p16
    try clear q16
    try clear hx16
    try clear hcv16
    try clear c17
    try clear p17
    try clear q17
    try clear hx17
    try clear c18
    try clear p18
    try clear q18
    try clear hx18
    try clear p19
    try clear q19
    try clear hx19
    try clear p20
    try clear q20
    try clear hx20
    try clear p22
    try clear q22
    try clear hx22
    try clear c25
    try clear c26
    try clear c26b0
    try clear c26b1
    try clear c28
    try clear c39
    try clear c41
    try clear c41b0
    try clear c41b1
    try clear c43
    try clear c43b0
    try clear c44
    try clear c44b0
    try clear c46
    try clear c46b0
    try clear c46b1
    try clear c47
    try clear hcv55
    try clear hcv56
    try clear c61
    try clear c61b0
    try clear c62
    try clear c62b0
    try clear c64
    try clear c64b0
    try clear c64b1
    try clear p64
    try clear c65
    try clear c66
    try clear c77
    try clear c78
    try clear c78b0
    try clear c78b1
    try clear c80
    try clear c91
    try clear c93
    try clear c93b0
    try clear c93b1
    try clear c95
    try clear c95b0
    try clear c96
    try clear c96b0
    try clear c98
    try clear c98b0
    try clear c98b1
    try clear c99
    try clear hcv107
    try clear hcv108
    try clear c112
    try clear c112b0
    try clear c112b1
    try clear c113
    try clear c113b0
    try clear c113b1
    try clear c115
    try clear c115b0
    try clear c116
    try clear c116b0
    try clear c118
    try clear c118b0
    try clear c118b1
    try clear c119
    try clear c120
    try clear c131
    try clear p131
    try clear q131
    try clear hx131
    try clear c132
    try clear c132b0
    try clear c132b1
    try clear c134
    try clear p139
    try clear q139
    try clear hx139
    try clear c145
    try clear c147
    try clear c147b0
    try clear c147b1
    try clear c149
    try clear c149b0
    try clear c150
    try clear c150b0
    try clear c152
    try clear c152b0
    try clear c152b1
    try clear c153
    try clear p155
    try clear q155
    try clear hx155
    try clear hcv161
    try clear hcv162
    try clear p163
    try clear q163
    try clear hx163
    try clear hx131_0
    try clear hx139_0
    try clear hx155_0
    try clear hx163_0
    try clear hx171_0
    try clear hx187_0
    try clear hx196_0
    try clear hx204_0
    try clear hx220_0
    try clear p1
    try clear p13
    try clear p131
    try clear p139
    try clear p15
    try clear p155
    try clear p16
    try clear p163
    try clear p17
    try clear p171
    try clear p18
    try clear p187
    try clear p19
    try clear p196
    try clear p2
    try clear p20
    try clear p204
    try clear p220
    try clear p6
    try clear p64
    try clear q1
    try clear q13
    try clear q131
    try clear q139
    try clear q15
    try clear q155
    try clear q16
    try clear q163
    try clear q17
    try clear q171
    try clear q18
    try clear q187
    try clear q19
    try clear q196
    try clear q2
    try clear q20
    try clear q204
    try clear q220
    obtain ⟨x5_1, x6_1, x7_1, rfl, HA, HK1, HO_5, HO_6, HB⟩ := hrel
    cases gk with
    | zero => exact absurd HA.out (by simp [scarflaw01_UtfBack.l6])
    | succ k1 =>
     have H := HA.out
     clear HA
     simp only [scarflaw01_UtfBack.l6] at H
     by_cases c166 : x7_1 < (l0.length : Int)
     ·rw [if_pos c166] at H
      have c166b0 : decide (x7_1 < (l0.length : Int)) = true := decide_eq_true c166
      clear c166
      by_cases c167 : 0 ≤ x7_1
      ·rw [if_pos c167] at H
       have c167b0 : decide (0 ≤ x7_1) = true := decide_eq_true c167
       clear c167
       replace H := Option.bind_eq_some_iff.mp H
       obtain ⟨⟨t229, t230⟩, A1680, H⟩ := H
       replace H : (if t230 = 0 then (if x5_1.length + t229.length < 140737488355328 then (if x6_1.length < 17592186044416 then (scarflaw01_UtfBack.l6 k1 l0 l1 (x5_1 ++ t229) (x6_1 ++ [rd l0 x7_1]) (wrap64 (x7_1 + 1))) else (none)) else (none)) else (scarflaw01_UtfBack.l6 k1 l0 l1 x5_1 x6_1 (wrap64 (x7_1 + 1)))) = some r := H
       have A168 := Aside0.mk A1680
       clear A1680
       by_cases c169 : t230 = 0
       ·rw [if_pos c169] at H
        have c169b0 : (t230 == 0) = true := beq_iff_eq.mpr c169
        have c169b1 : (t230 != 0) = false := bne_eq_false_iff_eq.mpr c169
        clear c169
        by_cases c170 : x5_1.length + t229.length < 140737488355328
        ·rw [if_pos c170] at H
         have LMc170 := Aside0.mk c170
         clear c170
         obtain ⟨y233, hy233⟩ : ∃ y_ : List Int, y_ = (x5_1 ++ t229) := ⟨_, rfl⟩
         replace H : (if x6_1.length < 17592186044416 then (scarflaw01_UtfBack.l6 k1 l0 l1 y233 (x6_1 ++ [rd l0 x7_1]) (wrap64 (x7_1 + 1))) else (none)) = some r := by first | (rw [hy233]; with_reducible exact H) | (have H2_ := (Option.bind_some _ _).symm.trans H; rw [hy233]; with_reducible exact H2_) | (have H2_ := (Option.bind_some _ _).symm.trans H; with_reducible exact H2_) | with_reducible exact H | (rw [hy233]; exact H) | exact H
         have Ny233 := Aside0.mk hy233
         clear hy233
         by_cases c171 : x6_1.length < 17592186044416
         ·rw [if_pos c171] at H
          have LMc171 := Aside0.mk c171
          clear c171
          obtain ⟨y237, hy237⟩ : ∃ y_ : List Int, y_ = (x6_1 ++ [rd l0 x7_1]) := ⟨_, rfl⟩
          replace H : (scarflaw01_UtfBack.l6 k1 l0 l1 y233 y237 (wrap64 (x7_1 + 1))) = some r := by first | (rw [hy237]; with_reducible exact H) | (have H2_ := (Option.bind_some _ _).symm.trans H; rw [hy237]; with_reducible exact H2_) | (have H2_ := (Option.bind_some _ _).symm.trans H; with_reducible exact H2_) | with_reducible exact H | (rw [hy237]; exact H) | exact H
          have Ny237 := Aside0.mk hy237
          clear hy237
          have H' := Aside0.mk H
          clear H
          have p228 : 0 ≤ (x7_1 : Int) := of_decide_eq_true (by with_reducible assumption)
          have q228 : x7_1 < (l0.length : Int) := of_decide_eq_true (by with_reducible assumption)
          obtain ⟨ad228, e228, hx228_0⟩ := Kd.at_int HR0.out x7_1 p228 q228
          cases e228
          replace hx228_0 := (HB.out.cell (World.block_lt_of_cell? w _ hx228_0)).trans hx228_0
          replace p228 := eq_true p228
          replace q228 := eq_true q228
          go_wp2_with (first | ((with_reducible refine gate_callee (f := 13) rfl ?_); refine goesL_ (some 39) rfl rfl Tryd.func13 (by kernel_rfl) rfl #[.int .i64 (rd l0 x7_1)] rfl (by (try simp only [List.map_toArray, List.map_cons, List.map_nil]); first | done | rfl | (simp only [List.length_drop, List.length_take]; rfl)) ?_; (with_reducible refine (utf_Bytes.calls (rd l0 x7_1) t229 t230 _ A168.out).mono ?_); rintro e w172 ⟨v231, rfl, ho0, hb⟩; refine ⟨_, rfl, ?_⟩; have n0_ := Aside0.mk (Kd.R_elder' (by (with_reducible repeat (first | apply Kd.R_alloc | apply Kd.R_drewN | apply Kd.R_drew)); exact HO_5.out) (Kd.R_base ho0) hb); have n1_ := Aside0.mk (Kd.R_below (by (with_reducible repeat (first | apply Kd.R_alloc | apply Kd.R_drewN | apply Kd.R_drew)); exact HO_6.out) hb); have n2_ := Aside0.mk (Kd.R_lower (Kd.R_new' ho0 (Kd.R_lt (by (with_reducible repeat (first | apply Kd.R_alloc | apply Kd.R_drewN | apply Kd.R_drew)); exact HO_5.out))) (below_size (by repeat (first | (with_reducible first | exact HB.out | apply below_alloc | apply pw_below_drewN | apply below_drew1) | exact HB.out)))); have n3_ := Aside0.mk (below_step (by repeat (first | (with_reducible first | exact HB.out | apply below_alloc | apply pw_below_drewN | apply below_drew1) | exact HB.out)) hb); clear HO_5; clear HO_6; clear HB; have HO_5 := n0_; have HO_6 := n1_; have HO232 := n2_; have HB := n3_; clear n0_ n1_ n2_ n3_; (try clear hb); (try clear hb2); (try clear hk); (try clear hi); (try clear ho0); obtain ⟨Ao174, co174, eo174⟩ := Kd.R_slice HO232.out; subst eo174) | ((with_reducible refine gate_builtin (b := .append) (xs := #[.tmp 44, .tmp 45]) rfl ?_); at_builtin; refine Kd.R_append_rows (Kd.int .u8) (w0 := w) w.heap.size rfl (.tmp 44) (.tmp 45) 22 5 (.int .u8 0) 1 rfl Tryd.underlying22 info5 rfl (by decide) (by omega) u5 x5_1 t229 _ _ _ (fun k_ => some k_ ≠ (.slice Ao174 t229.length co174 : Value).ownBlock) (fun _ => False) rfl rfl ?aO ?aR (fun _ _ h => h) (fun _ h => h.elim) ?aF ?aB ?aS ?aL ?_; (case aR => repeat (first | exact (Kd.R_reads' HO232.out).2.2 | (with_reducible refine Kd.C_alloc ?_ _) | (with_reducible refine Kd.C_drewN ?_ _) | (with_reducible refine Kd.C_drew ?_))); (case aB => exact (by repeat (first | (with_reducible first | exact HB.out | apply below_alloc | apply pw_below_drewN | apply below_drew1) | exact HB.out))); (case aF => exact (fun k_ hk => Kd.fresh' (Kd.R_lt (by (with_reducible repeat (first | apply Kd.R_alloc | apply Kd.R_drewN | apply Kd.R_drew)); exact HO232.out)) k_ hk)); (case aO => exact (by (with_reducible repeat (first | apply Kd.R_alloc | apply Kd.R_drewN | apply Kd.R_drew)); exact Kd.R_mono HO_5.out (fun _ hk => hk.2))); (case aS => exact (below_size (by repeat (first | (with_reducible first | exact HB.out | apply below_alloc | apply pw_below_drewN | apply below_drew1) | exact HB.out)))); (case aL => have := LMc170.out; omega); intro v234 w173 ho hb hg hat; rw [← Ny233.out] at ho; have n0_ := Aside0.mk (Kd.R_over' (by (with_reducible repeat (first | apply Kd.R_alloc | apply Kd.R_drewN | apply Kd.R_drew)); exact HO_6.out) (Kd.R_typed (by (with_reducible repeat (first | apply Kd.R_alloc | apply Kd.R_drewN | apply Kd.R_drew)); exact HO_5.out)) (by decide) hg); have n1_ := Aside0.mk (Kd.R_after (ok := (fun _ => True)) (by (with_reducible repeat (first | apply Kd.R_alloc | apply Kd.R_drewN | apply Kd.R_drew)); exact HO232.out) hg hat); have n2_ := Aside0.mk (hb); have n3_ := Aside0.mk (ho); clear HO_6; clear HO232; clear HB; clear HO_5; have HO_6 := n0_; have HO232 := n1_; have HB := n2_; have HO235 := n3_; clear n0_ n1_ n2_ n3_; clear ho hb hg hat; have p236 : 0 ≤ (x7_1 : Int) := of_decide_eq_true (by with_reducible assumption); have q236 : x7_1 < (l0.length : Int) := of_decide_eq_true (by with_reducible assumption); obtain ⟨ad236, e236, hx236_0⟩ := Kd.at_int HR0.out x7_1 p236 q236; obtain rfl : ad228 = ad236 := (by injection e236); replace hx236_0 := (HB.out.cell (World.block_lt_of_cell? w _ hx236_0)).trans hx236_0; replace p236 := eq_true p236; replace q236 := eq_true q236) | ((with_reducible refine gate_builtin (b := .append) (xs := #[.tmp 47, .tmp 52]) rfl ?_); at_builtin; refine Kd.R_append (Kd.int .i64) (w0 := w) w.heap.size rfl (.tmp 47) (.tmp 52) 33 3 (.int .i64 0) 8 rfl Tryd.underlying33 info3 rfl (by decide) (by omega) u6 x6_1 (rd l0 x7_1) [.int .i64 (rd l0 x7_1)] (fun _ => True) (fun _ => False) rfl rfl ?aP (fun _ hk => hk.elim) ?aF ?aO ?aB ?aS ?aL ?_; (case aP => exact rfl); (case aB => exact (by repeat (first | (with_reducible first | exact HB.out | apply below_alloc | apply pw_below_drewN | apply below_drew1) | exact HB.out))); (case aF => exact (fun _ _ => trivial)); (case aO => exact (by (with_reducible repeat (first | apply Kd.R_alloc | apply Kd.R_drewN | apply Kd.R_drew)); exact HO_6.out)); (case aS => exact (below_size (by repeat (first | (with_reducible first | exact HB.out | apply below_alloc | apply pw_below_drewN | apply below_drew1) | exact HB.out)))); (case aL => have := LMc171.out; omega); intro v238 w175 ho hb hg hat; rw [← Ny237.out] at ho; have n0_ := Aside0.mk (Kd.R_over' (by (with_reducible repeat (first | apply Kd.R_alloc | apply Kd.R_drewN | apply Kd.R_drew)); exact HO232.out) (Kd.R_typed (by (with_reducible repeat (first | apply Kd.R_alloc | apply Kd.R_drewN | apply Kd.R_drew)); exact HO_6.out)) (by decide) hg); have n1_ := Aside0.mk (Kd.R_over' (by (with_reducible repeat (first | apply Kd.R_alloc | apply Kd.R_drewN | apply Kd.R_drew)); exact HO235.out) (Kd.R_typed (by (with_reducible repeat (first | apply Kd.R_alloc | apply Kd.R_drewN | apply Kd.R_drew)); exact HO_6.out)) (by decide) hg); have n2_ := Aside0.mk (hb); have n3_ := Aside0.mk (ho); clear HO232; clear HO235; clear HB; clear HO_6; have HO232 := n0_; have HO235 := n1_; have HB := n2_; have HO239 := n3_; clear n0_ n1_ n2_ n3_; clear ho hb hg hat))
          go_roundg k1
          case measure => have := HK1.out; omega
          case rel => exact ⟨(y233), (y237), (wrap64 (x7_1 + 1)), (by first | rfl | (simp; done) | (simp [*]; done)), H', ⟨by have := HK1.out; omega⟩, ⟨by (with_reducible repeat (first | apply Kd.R_alloc | apply Kd.R_drewN | apply Kd.R_drew)); exact Kd.R_mono HO235.out (fun _ hk => trivial)⟩, ⟨by (with_reducible repeat (first | apply Kd.R_alloc | apply Kd.R_drewN | apply Kd.R_drew)); exact HO239.out⟩, ⟨by repeat (first | (with_reducible first | exact HB.out | apply below_alloc | apply pw_below_drewN | apply below_drew1) | exact HB.out)⟩⟩
         ·rw [if_neg c171] at H
          exact absurd H (by simp)
        ·rw [if_neg c170] at H
         exact absurd H (by simp)
       ·rw [if_neg c169] at H
        have c169b0 : (t230 == 0) = false := beq_eq_false_iff_ne.mpr c169
        have c169b1 : (t230 != 0) = true := bne_iff_ne.mpr c169
        have H' := Aside0.mk H
        clear H
        have p228 : 0 ≤ (x7_1 : Int) := of_decide_eq_true (by with_reducible assumption)
        have q228 : x7_1 < (l0.length : Int) := of_decide_eq_true (by with_reducible assumption)
        obtain ⟨ad228, e228, hx228_0⟩ := Kd.at_int HR0.out x7_1 p228 q228
        cases e228
        replace hx228_0 := (HB.out.cell (World.block_lt_of_cell? w _ hx228_0)).trans hx228_0
        replace p228 := eq_true p228
        replace q228 := eq_true q228
        go_wp2_with (first | ((with_reducible refine gate_callee (f := 13) rfl ?_); refine goesL_ (some 39) rfl rfl Tryd.func13 (by kernel_rfl) rfl #[.int .i64 (rd l0 x7_1)] rfl (by (try simp only [List.map_toArray, List.map_cons, List.map_nil]); first | done | rfl | (simp only [List.length_drop, List.length_take]; rfl)) ?_; (with_reducible refine (utf_Bytes.calls (rd l0 x7_1) t229 t230 _ A168.out).mono ?_); rintro e w176 ⟨v231, rfl, ho0, hb⟩; refine ⟨_, rfl, ?_⟩; have n0_ := Aside0.mk (Kd.R_elder' (by (with_reducible repeat (first | apply Kd.R_alloc | apply Kd.R_drewN | apply Kd.R_drew)); exact HO_5.out) (Kd.R_base ho0) hb); have n1_ := Aside0.mk (Kd.R_below (by (with_reducible repeat (first | apply Kd.R_alloc | apply Kd.R_drewN | apply Kd.R_drew)); exact HO_6.out) hb); have n2_ := Aside0.mk (Kd.R_lower (Kd.R_new' ho0 (Kd.R_lt (by (with_reducible repeat (first | apply Kd.R_alloc | apply Kd.R_drewN | apply Kd.R_drew)); exact HO_5.out))) (below_size (by repeat (first | (with_reducible first | exact HB.out | apply below_alloc | apply pw_below_drewN | apply below_drew1) | exact HB.out)))); have n3_ := Aside0.mk (below_step (by repeat (first | (with_reducible first | exact HB.out | apply below_alloc | apply pw_below_drewN | apply below_drew1) | exact HB.out)) hb); clear HO_5; clear HO_6; clear HB; have HO_5 := n0_; have HO_6 := n1_; have HO232 := n2_; have HB := n3_; clear n0_ n1_ n2_ n3_; (try clear hb); (try clear hb2); (try clear hk); (try clear hi); (try clear ho0)))
        go_roundg k1
        case measure => have := HK1.out; omega
        case rel => exact ⟨(x5_1), (x6_1), (wrap64 (x7_1 + 1)), (by first | rfl | (simp; done) | (simp [*]; done)), H', ⟨by have := HK1.out; omega⟩, ⟨by (with_reducible repeat (first | apply Kd.R_alloc | apply Kd.R_drewN | apply Kd.R_drew)); exact Kd.R_mono HO_5.out (fun _ hk => trivial)⟩, ⟨by (with_reducible repeat (first | apply Kd.R_alloc | apply Kd.R_drewN | apply Kd.R_drew)); exact HO_6.out⟩, ⟨by repeat (first | (with_reducible first | exact HB.out | apply below_alloc | apply pw_below_drewN | apply below_drew1) | exact HB.out)⟩⟩
      ·rw [if_neg c167] at H
       exact absurd H (by simp)
     ·rw [if_neg c166] at H
      have c166b0 : decide (x7_1 < (l0.length : Int)) = false := decide_eq_false c166
      clear c166
      replace H := Option.bind_eq_some_iff.mp H
      obtain ⟨⟨t240, t241⟩, A1770, H⟩ := H
      replace H : ((scarflaw01_known.f).bind fun t244 => (if t244 = true then (if t241 = 0 then ((scarflaw01_same.f k1 t240 x6_1).bind fun t245 => (if t245 = true then ((utf_Text.f k1 x5_1).bind fun t246 => (scarflaw01_UtfBack.j10 k1 l1 (!t246))) else (scarflaw01_UtfBack.j10 k1 l1 true))) else (scarflaw01_UtfBack.j10 k1 l1 true)) else (scarflaw01_UtfBack.j10 k1 l1 true))) = some r := H
      have A177 := Aside0.mk A1770
      clear A1770
      have HC178 := Aside0.mk H
      clear H
      obtain ⟨Ao179, co179, eo179⟩ := Kd.R_slice HO_5.out
      subst eo179
      go_upto_region 15 with (first | ((with_reducible refine gate_callee (f := 18) rfl ?_); refine goesL_ (some 56) rfl rfl Tryd.func18 (by kernel_rfl) rfl #[.slice Ao179 x5_1.length co179] rfl (by (try simp only [List.map_toArray, List.map_cons, List.map_nil]); first | done | rfl | (simp only [List.length_drop, List.length_take]; rfl)) ?_; (with_reducible refine (utf_Signs.calls k1 _ _ x5_1 t240 t241 _ ?side1 ?side2 ?side3 A177.out).mono ?_); (case side1 => repeat (first | exact (Kd.R_reads' HO_5.out).2.2 | (with_reducible refine Kd.C_alloc ?_ _) | (with_reducible refine Kd.C_drewN ?_ _) | (with_reducible refine Kd.C_drew ?_))); (case side2 => exact (Kd.R_reads' HO_5.out).2.1); (case side3 => repeat (first | exact (GLOB_below HG_.out HB.out) | (with_reducible refine GLOB_alloc ?_ _) | (with_reducible refine GLOB_drewN ?_ _) | (with_reducible refine GLOB_drew ?_))); rintro e w180 ⟨v242, rfl, ho0, hb⟩; refine ⟨_, rfl, ?_⟩; have n0_ := Aside0.mk (Kd.R_below (by (with_reducible repeat (first | apply Kd.R_alloc | apply Kd.R_drewN | apply Kd.R_drew)); exact HO_5.out) hb); have n1_ := Aside0.mk (Kd.R_elder' (by (with_reducible repeat (first | apply Kd.R_alloc | apply Kd.R_drewN | apply Kd.R_drew)); exact HO_6.out) (Kd.R_base ho0) hb); have n2_ := Aside0.mk (Kd.R_lower (Kd.R_new' ho0 (Kd.R_lt (by (with_reducible repeat (first | apply Kd.R_alloc | apply Kd.R_drewN | apply Kd.R_drew)); exact HO_6.out))) (below_size (by repeat (first | (with_reducible first | exact HB.out | apply below_alloc | apply pw_below_drewN | apply below_drew1) | exact HB.out)))); have n3_ := Aside0.mk (below_step (by repeat (first | (with_reducible first | exact HB.out | apply below_alloc | apply pw_below_drewN | apply below_drew1) | exact HB.out)) hb); clear HO_5; clear HO_6; clear HB; have HO_5 := n0_; have HO_6 := n1_; have HO243 := n2_; have HB := n3_; clear n0_ n1_ n2_ n3_; (try clear hb); (try clear hb2); (try clear hk); (try clear hi); (try clear ho0)))
      (try simp only [Act.put, List.setIfInBounds_toArray, List.set_cons_zero, List.set_cons_succ])
      go_cut [75] (fun v75 wc => ∃ (kq : Nat) (x75_177 : Bool), v75 = .bool x75_177 ∧ Aside0 (scarflaw01_UtfBack.j10 kq l1 x75_177 = some r) ∧ Aside0 (kq ≤ k1) ∧ Aside0 (Below w.heap.size w wc))
      case first =>
       have H := HC178.out
       clear HC178
       replace H := Option.bind_eq_some_iff.mp H
       obtain ⟨t244, A1810, H⟩ := H
       replace H : (if t244 = true then (if t241 = 0 then ((scarflaw01_same.f k1 t240 x6_1).bind fun t245 => (if t245 = true then ((utf_Text.f k1 x5_1).bind fun t246 => (scarflaw01_UtfBack.j10 k1 l1 (!t246))) else (scarflaw01_UtfBack.j10 k1 l1 true))) else (scarflaw01_UtfBack.j10 k1 l1 true)) else (scarflaw01_UtfBack.j10 k1 l1 true)) = some r := H
       have A181 := Aside0.mk A1810
       clear A1810
       by_cases c182 : t244 = true
       ·subst c182
        have H1 : (if t241 = 0 then ((scarflaw01_same.f k1 t240 x6_1).bind fun t245 => (if t245 = true then ((utf_Text.f k1 x5_1).bind fun t246 => (scarflaw01_UtfBack.j10 k1 l1 (!t246))) else (scarflaw01_UtfBack.j10 k1 l1 true))) else (scarflaw01_UtfBack.j10 k1 l1 true)) = some r := by rw [if_pos rfl] at H; exact H
        clear H
        have H := H1
        clear H1
        by_cases c183 : t241 = 0
        ·rw [if_pos c183] at H
         have c183b0 : (t241 == 0) = true := beq_iff_eq.mpr c183
         have c183b1 : (t241 != 0) = false := bne_eq_false_iff_eq.mpr c183
         clear c183
         (first | rw [c183b0] | (simp only [i64_w, i32_w]; rw [c183b0]) | skip)
         replace H := Option.bind_eq_some_iff.mp H
         obtain ⟨t245, A1840, H⟩ := H
         replace H : (if t245 = true then ((utf_Text.f k1 x5_1).bind fun t246 => (scarflaw01_UtfBack.j10 k1 l1 (!t246))) else (scarflaw01_UtfBack.j10 k1 l1 true)) = some r := H
         have A184 := Aside0.mk A1840
         clear A1840
         by_cases c185 : t245 = true
         ·subst c185
          have H1 : ((utf_Text.f k1 x5_1).bind fun t246 => (scarflaw01_UtfBack.j10 k1 l1 (!t246))) = some r := by rw [if_pos rfl] at H; exact H
          clear H
          have H := H1
          clear H1
          replace H := Option.bind_eq_some_iff.mp H
          obtain ⟨t246, A1860, H⟩ := H
          replace H : (scarflaw01_UtfBack.j10 k1 l1 (!t246)) = some r := H
          have A186 := Aside0.mk A1860
          clear A1860
          have H' := Aside0.mk H
          clear H
          go_wp2_with (first | ((with_reducible refine gate_callee (f := 12) rfl ?_); refine goesL_ (some 59) rfl rfl Tryd.func12 (by kernel_rfl) rfl #[] rfl (by (try simp only [List.map_toArray, List.map_cons, List.map_nil]); first | done | rfl | (simp only [List.length_drop, List.length_take]; rfl)) ?_; (with_reducible refine (scarflaw01_known.calls  true _ ?side1 A181.out).mono ?_); (case side1 => repeat (first | exact (GLOB_below HG_.out HB.out) | (with_reducible refine GLOB_alloc ?_ _) | (with_reducible refine GLOB_drewN ?_ _) | (with_reducible refine GLOB_drew ?_))); rintro e w187 ⟨rfl, hb⟩; refine ⟨_, rfl, ?_⟩; have n0_ := Aside0.mk (Kd.R_below (by (with_reducible repeat (first | apply Kd.R_alloc | apply Kd.R_drewN | apply Kd.R_drew)); exact HO_5.out) hb); have n1_ := Aside0.mk (Kd.R_below (by (with_reducible repeat (first | apply Kd.R_alloc | apply Kd.R_drewN | apply Kd.R_drew)); exact HO_6.out) hb); have n2_ := Aside0.mk (Kd.R_below (by (with_reducible repeat (first | apply Kd.R_alloc | apply Kd.R_drewN | apply Kd.R_drew)); exact HO243.out) hb); have n3_ := Aside0.mk (below_step (by repeat (first | (with_reducible first | exact HB.out | apply below_alloc | apply pw_below_drewN | apply below_drew1) | exact HB.out)) hb); clear HO_5; clear HO_6; clear HO243; clear HB; have HO_5 := n0_; have HO_6 := n1_; have HO243 := n2_; have HB := n3_; clear n0_ n1_ n2_ n3_; (try clear hb); (try clear hb2); (try clear hk); (try clear hi); obtain ⟨Ao188, co188, eo188⟩ := Kd.R_slice HO243.out; subst eo188; obtain ⟨Ao189, co189, eo189⟩ := Kd.R_slice HO_6.out; subst eo189) | (go_at_call 20; (with_reducible refine (scarflaw01_same.calls k1 _ _ t240 _ _ x6_1 true _ ?side1 ?side2 ?side3 ?side4 A184.out).mono ?_); (case side1 => repeat (first | exact (Kd.R_reads' HO243.out).2.2 | (with_reducible refine Kd.C_alloc ?_ _) | (with_reducible refine Kd.C_drewN ?_ _) | (with_reducible refine Kd.C_drew ?_))); (case side2 => exact (Kd.R_reads' HO243.out).2.1); (case side3 => repeat (first | exact (Kd.R_reads' HO_6.out).2.2 | (with_reducible refine Kd.C_alloc ?_ _) | (with_reducible refine Kd.C_drewN ?_ _) | (with_reducible refine Kd.C_drew ?_))); (case side4 => exact (Kd.R_reads' HO_6.out).2.1); rintro e w' ⟨rfl, ⟨nd, rfl⟩⟩) | (go_at_call 17; (with_reducible refine (utf_Text.calls k1 _ _ x5_1 t246 _ ?side1 ?side2 ?side3 A186.out).mono ?_); (case side1 => repeat (first | exact (Kd.R_reads' HO_5.out).2.2 | (with_reducible refine Kd.C_alloc ?_ _) | (with_reducible refine Kd.C_drewN ?_ _) | (with_reducible refine Kd.C_drew ?_))); (case side2 => exact (Kd.R_reads' HO_5.out).2.1); (case side3 => repeat (first | exact (GLOB_below HG_.out (by repeat (first | (with_reducible first | exact HB.out | apply below_alloc | apply pw_below_drewN | apply below_drew1) | exact HB.out))) | (with_reducible refine GLOB_alloc ?_ _) | (with_reducible refine GLOB_drewN ?_ _) | (with_reducible refine GLOB_drew ?_))); rintro e w190 ⟨rfl, hb⟩; have n0_ := Aside0.mk (Kd.R_below (by (with_reducible repeat (first | apply Kd.R_alloc | apply Kd.R_drewN | apply Kd.R_drew)); exact HO_5.out) hb); have n1_ := Aside0.mk (Kd.R_below (by (with_reducible repeat (first | apply Kd.R_alloc | apply Kd.R_drewN | apply Kd.R_drew)); exact HO_6.out) hb); have n2_ := Aside0.mk (Kd.R_below (by (with_reducible repeat (first | apply Kd.R_alloc | apply Kd.R_drewN | apply Kd.R_drew)); exact HO243.out) hb); have n3_ := Aside0.mk (below_step (by repeat (first | (with_reducible first | exact HB.out | apply below_alloc | apply pw_below_drewN | apply below_drew1) | exact HB.out)) hb); clear HO_5; clear HO_6; clear HO243; clear HB; have HO_5 := n0_; have HO_6 := n1_; have HO243 := n2_; have HB := n3_; clear n0_ n1_ n2_ n3_; (try clear hb); (try clear hb2); (try clear hk); (try clear hi)))
          go_meet
          case rel => exact ⟨_, (!t246), (by first | rfl | (simp; done) | (simp [*]; done)), H', ⟨by have := HK1.out; first | omega | exact Nat.le_refl _⟩, ⟨by repeat (first | (with_reducible first | exact HB.out | apply below_alloc | apply pw_below_drewN | apply below_drew1) | exact HB.out)⟩⟩
         ·replace c185 := Bool.eq_false_iff.mpr c185
          subst c185
          have H1 : (scarflaw01_UtfBack.j10 k1 l1 true) = some r := by rw [if_neg (show ¬ (false = true) by decide)] at H; exact H
          clear H
          have H := H1
          clear H1
          have H' := Aside0.mk H
          clear H
          go_wp2_with (first | ((with_reducible refine gate_callee (f := 12) rfl ?_); refine goesL_ (some 59) rfl rfl Tryd.func12 (by kernel_rfl) rfl #[] rfl (by (try simp only [List.map_toArray, List.map_cons, List.map_nil]); first | done | rfl | (simp only [List.length_drop, List.length_take]; rfl)) ?_; (with_reducible refine (scarflaw01_known.calls  true _ ?side1 A181.out).mono ?_); (case side1 => repeat (first | exact (GLOB_below HG_.out HB.out) | (with_reducible refine GLOB_alloc ?_ _) | (with_reducible refine GLOB_drewN ?_ _) | (with_reducible refine GLOB_drew ?_))); rintro e w191 ⟨rfl, hb⟩; refine ⟨_, rfl, ?_⟩; have n0_ := Aside0.mk (Kd.R_below (by (with_reducible repeat (first | apply Kd.R_alloc | apply Kd.R_drewN | apply Kd.R_drew)); exact HO_5.out) hb); have n1_ := Aside0.mk (Kd.R_below (by (with_reducible repeat (first | apply Kd.R_alloc | apply Kd.R_drewN | apply Kd.R_drew)); exact HO_6.out) hb); have n2_ := Aside0.mk (Kd.R_below (by (with_reducible repeat (first | apply Kd.R_alloc | apply Kd.R_drewN | apply Kd.R_drew)); exact HO243.out) hb); have n3_ := Aside0.mk (below_step (by repeat (first | (with_reducible first | exact HB.out | apply below_alloc | apply pw_below_drewN | apply below_drew1) | exact HB.out)) hb); clear HO_5; clear HO_6; clear HO243; clear HB; have HO_5 := n0_; have HO_6 := n1_; have HO243 := n2_; have HB := n3_; clear n0_ n1_ n2_ n3_; (try clear hb); (try clear hb2); (try clear hk); (try clear hi); obtain ⟨Ao192, co192, eo192⟩ := Kd.R_slice HO243.out; subst eo192; obtain ⟨Ao193, co193, eo193⟩ := Kd.R_slice HO_6.out; subst eo193) | (go_at_call 20; (with_reducible refine (scarflaw01_same.calls k1 _ _ t240 _ _ x6_1 false _ ?side1 ?side2 ?side3 ?side4 A184.out).mono ?_); (case side1 => repeat (first | exact (Kd.R_reads' HO243.out).2.2 | (with_reducible refine Kd.C_alloc ?_ _) | (with_reducible refine Kd.C_drewN ?_ _) | (with_reducible refine Kd.C_drew ?_))); (case side2 => exact (Kd.R_reads' HO243.out).2.1); (case side3 => repeat (first | exact (Kd.R_reads' HO_6.out).2.2 | (with_reducible refine Kd.C_alloc ?_ _) | (with_reducible refine Kd.C_drewN ?_ _) | (with_reducible refine Kd.C_drew ?_))); (case side4 => exact (Kd.R_reads' HO_6.out).2.1); rintro e w' ⟨rfl, ⟨nd, rfl⟩⟩))
          go_meet
          case rel => exact ⟨_, (true), (by first | rfl | (simp; done) | (simp [*]; done)), H', ⟨by have := HK1.out; first | omega | exact Nat.le_refl _⟩, ⟨by repeat (first | (with_reducible first | exact HB.out | apply below_alloc | apply pw_below_drewN | apply below_drew1) | exact HB.out)⟩⟩
        ·rw [if_neg c183] at H
         have c183b0 : (t241 == 0) = false := beq_eq_false_iff_ne.mpr c183
         have c183b1 : (t241 != 0) = true := bne_iff_ne.mpr c183
         (first | rw [c183b0] | (simp only [i64_w, i32_w]; rw [c183b0]) | skip)
         have H' := Aside0.mk H
         clear H
         go_wp2_with (first | ((with_reducible refine gate_callee (f := 12) rfl ?_); refine goesL_ (some 59) rfl rfl Tryd.func12 (by kernel_rfl) rfl #[] rfl (by (try simp only [List.map_toArray, List.map_cons, List.map_nil]); first | done | rfl | (simp only [List.length_drop, List.length_take]; rfl)) ?_; (with_reducible refine (scarflaw01_known.calls  true _ ?side1 A181.out).mono ?_); (case side1 => repeat (first | exact (GLOB_below HG_.out HB.out) | (with_reducible refine GLOB_alloc ?_ _) | (with_reducible refine GLOB_drewN ?_ _) | (with_reducible refine GLOB_drew ?_))); rintro e w194 ⟨rfl, hb⟩; refine ⟨_, rfl, ?_⟩; have n0_ := Aside0.mk (Kd.R_below (by (with_reducible repeat (first | apply Kd.R_alloc | apply Kd.R_drewN | apply Kd.R_drew)); exact HO_5.out) hb); have n1_ := Aside0.mk (Kd.R_below (by (with_reducible repeat (first | apply Kd.R_alloc | apply Kd.R_drewN | apply Kd.R_drew)); exact HO_6.out) hb); have n2_ := Aside0.mk (Kd.R_below (by (with_reducible repeat (first | apply Kd.R_alloc | apply Kd.R_drewN | apply Kd.R_drew)); exact HO243.out) hb); have n3_ := Aside0.mk (below_step (by repeat (first | (with_reducible first | exact HB.out | apply below_alloc | apply pw_below_drewN | apply below_drew1) | exact HB.out)) hb); clear HO_5; clear HO_6; clear HO243; clear HB; have HO_5 := n0_; have HO_6 := n1_; have HO243 := n2_; have HB := n3_; clear n0_ n1_ n2_ n3_; (try clear hb); (try clear hb2); (try clear hk); (try clear hi)))
         go_meet
         case rel => exact ⟨_, (true), (by first | rfl | (simp; done) | (simp [*]; done)), H', ⟨by have := HK1.out; first | omega | exact Nat.le_refl _⟩, ⟨by repeat (first | (with_reducible first | exact HB.out | apply below_alloc | apply pw_below_drewN | apply below_drew1) | exact HB.out)⟩⟩
       ·replace c182 := Bool.eq_false_iff.mpr c182
        subst c182
        have H1 : (scarflaw01_UtfBack.j10 k1 l1 true) = some r := by rw [if_neg (show ¬ (false = true) by decide)] at H; exact H
        clear H
        have H := H1
        clear H1
        have H' := Aside0.mk H
        clear H
        go_wp2_with (first | ((with_reducible refine gate_callee (f := 12) rfl ?_); refine goesL_ (some 59) rfl rfl Tryd.func12 (by kernel_rfl) rfl #[] rfl (by (try simp only [List.map_toArray, List.map_cons, List.map_nil]); first | done | rfl | (simp only [List.length_drop, List.length_take]; rfl)) ?_; (with_reducible refine (scarflaw01_known.calls  false _ ?side1 A181.out).mono ?_); (case side1 => repeat (first | exact (GLOB_below HG_.out HB.out) | (with_reducible refine GLOB_alloc ?_ _) | (with_reducible refine GLOB_drewN ?_ _) | (with_reducible refine GLOB_drew ?_))); rintro e w195 ⟨rfl, hb⟩; refine ⟨_, rfl, ?_⟩; have n0_ := Aside0.mk (Kd.R_below (by (with_reducible repeat (first | apply Kd.R_alloc | apply Kd.R_drewN | apply Kd.R_drew)); exact HO_5.out) hb); have n1_ := Aside0.mk (Kd.R_below (by (with_reducible repeat (first | apply Kd.R_alloc | apply Kd.R_drewN | apply Kd.R_drew)); exact HO_6.out) hb); have n2_ := Aside0.mk (Kd.R_below (by (with_reducible repeat (first | apply Kd.R_alloc | apply Kd.R_drewN | apply Kd.R_drew)); exact HO243.out) hb); have n3_ := Aside0.mk (below_step (by repeat (first | (with_reducible first | exact HB.out | apply below_alloc | apply pw_below_drewN | apply below_drew1) | exact HB.out)) hb); clear HO_5; clear HO_6; clear HO243; clear HB; have HO_5 := n0_; have HO_6 := n1_; have HO243 := n2_; have HB := n3_; clear n0_ n1_ n2_ n3_; (try clear hb); (try clear hb2); (try clear hk); (try clear hi)))
        go_meet
        case rel => exact ⟨_, (true), (by first | rfl | (simp; done) | (simp [*]; done)), H', ⟨by have := HK1.out; first | omega | exact Nat.le_refl _⟩, ⟨by repeat (first | (with_reducible first | exact HB.out | apply below_alloc | apply pw_below_drewN | apply below_drew1) | exact HB.out)⟩⟩
      case rest =>
       clear HC178
       try clear c1
       try clear p1
       try clear q1
       try clear hx1
       try clear hcv1
       try clear c2
       try clear p2
       try clear q2
       try clear hx2
       try clear c3
       try clear c3b0
       try clear c3b1
       try clear c4
       try clear c4b0
       try clear c4b1
       try clear c5
       try clear c5b0
       try clear c5b1
       try clear hcv5
       try clear c6
       try clear c6b0
       try clear c6b1
       try clear p6
       try clear c7
       try clear c8
       try clear c9
       try clear c9b0
       try clear c10
       try clear c10b0
       try clear hcv10
       try clear c11
       try clear c12
       try clear c12b0
       try clear c12b1
       try clear c13
       try clear p13
       try clear q13
       try clear hx13
       try clear c14
       try clear c15
       try clear p15
       try clear q15
       try clear hx15
       try clear c16
       try clear p16
       try clear q16
       try clear hx16
       try clear hcv16
       try clear c17
       try clear p17
       try clear q17
       try clear hx17
       try clear c18
       try clear p18
       try clear q18
       try clear hx18
       try clear p19
       try clear q19
       try clear hx19
       try clear p20
       try clear q20
       try clear hx20
       try clear p22
       try clear q22
       try clear hx22
       try clear p23
       try clear q23
       try clear hx23
       try clear c25
       try clear c26
       try clear c26b0
       try clear c26b1
       try clear c28
       try clear c39
       try clear c41
       try clear c41b0
       try clear c41b1
       try clear c43
       try clear c43b0
       try clear c44
       try clear c44b0
       try clear c46
       try clear c46b0
       try clear c46b1
       try clear c47
       try clear hcv55
       try clear hcv56
       try clear c61
       try clear c61b0
       try clear c62
       try clear c62b0
       try clear c64
       try clear c64b0
       try clear c64b1
       try clear p64
       try clear c65
       try clear c66
       try clear c77
       try clear c78
       try clear c78b0
       try clear c78b1
       try clear c80
       try clear c91
       try clear c93
       try clear c93b0
       try clear c93b1
       try clear c95
       try clear c95b0
       try clear c96
       try clear c96b0
       try clear c98
       try clear c98b0
       try clear c98b1
       try clear c99
       try clear hcv107
       try clear hcv108
       try clear c112
       try clear c112b0
       try clear c112b1
       try clear c113
       try clear c113b0
       try clear c113b1
       try clear c115
       try clear c115b0
       try clear c116
       try clear c116b0
       try clear c118
       try clear c118b0
       try clear c118b1
       try clear c119
       try clear c120
       try clear c131
       try clear p131
       try clear q131
       try clear hx131
       try clear c132
       try clear c132b0
       try clear c132b1
       try clear c134
       try clear p139
       try clear q139
       try clear hx139
       try clear c145
       try clear c147
       try clear c147b0
       try clear c147b1
       try clear c149
       try clear c149b0
       try clear c150
       try clear c150b0
       try clear c152
       try clear c152b0
       try clear c152b1
       try clear c153
       try clear p155
       try clear q155
       try clear hx155
       try clear hcv161
       try clear hcv162
       try clear p163
       try clear q163
       try clear hx163
       try clear c166
       try clear c166b0
       try clear c167
       try clear c167b0
       try clear c169
       try clear c169b0
       try clear c169b1
       try clear c170
       try clear c171
       try clear p171
       try clear q171
       try clear hx171
       try clear c182
       try clear c183
       try clear c183b0
       try clear c183b1
       try clear c185
       try clear p187
       try clear q187
       try clear hx187
       try clear hx131_0
       try clear hx139_0
       try clear hx155_0
       try clear hx163_0
       try clear hx171_0
       try clear hx187_0
       try clear hx196_0
       try clear hx204_0
       try clear hx220_0
       try clear hx228_0
       try clear hx236_0
       try clear p1
       try clear p13
       try clear p131
       try clear p139
       try clear p15
       try clear p155
       try clear p16
       try clear p163
       try clear p17
       try clear p171
       try clear p18
       try clear p187
       try clear p19
       try clear p196
       try clear p2
       try clear p20
       try clear p204
       try clear p22
       try clear p220
       try clear p228
       try clear p236
       try clear p6
       try clear p64
       try clear q1
       try clear q13
       try clear q131
       try clear q139
       try clear q15
       try clear q155
       try clear q16
       try clear q163
       try clear q17
       try clear q171
       try clear q18
       try clear q187
       try clear q19
       try clear q196
       try clear q2
       try clear q20
       try clear q204
       try clear q22
       try clear q220
       try clear q228
       try clear q236
       obtain ⟨kq, x75_177, rfl, HA, HJ177, HB⟩ := hcut
       cases kq with
       | zero => exact absurd HA.out (by simp [scarflaw01_UtfBack.j10])
       | succ kj177 =>
        have H := HA.out
        clear HA
        simp only [scarflaw01_UtfBack.j10] at H
        by_cases c196 : x75_177 = true
        ·subst c196
         have H1 : (some false) = some r := by rw [if_pos rfl] at H; exact H
         clear H
         have H := H1
         clear H1
         obtain rfl := Option.some.inj H
         go_wp2
         go_ret
         exact ⟨by first | rfl | (simp [errW_none, errW_some] <;> rfl) | (simp [*, errW_none, errW_some] <;> rfl), by repeat (first | (with_reducible first | exact HB.out | apply below_alloc | apply pw_below_drewN | apply below_drew1) | exact HB.out)⟩
        ·replace c196 := Bool.eq_false_iff.mpr c196
         subst c196
         have H1 : ((utf_Signs.f kj177 l1).bind fun bt247 => (if bt247.2 = 0 then (scarflaw01_UtfBack.l7 kj177 l1 bt247.1 ([] : List Int) 0) else ((utf_Text.f kj177 l1).bind fun t251 => (some (!t251))))) = some r := by rw [if_neg (show ¬ (false = true) by decide)] at H; exact H
         clear H
         have H := H1
         clear H1
         replace H := Option.bind_eq_some_iff.mp H
         obtain ⟨⟨t247, t248⟩, A1970, H⟩ := H
         replace H : (if t248 = 0 then (scarflaw01_UtfBack.l7 kj177 l1 t247 ([] : List Int) 0) else ((utf_Text.f kj177 l1).bind fun t251 => (some (!t251)))) = some r := H
         have A197 := Aside0.mk A1970
         clear A1970
         by_cases c198 : t248 = 0
         ·rw [if_pos c198] at H
          have c198b0 : (t248 == 0) = true := beq_iff_eq.mpr c198
          have c198b1 : (t248 != 0) = false := bne_eq_false_iff_eq.mpr c198
          clear c198
          have H' := Aside0.mk H
          clear H
          go_wp2_with (first | ((with_reducible refine gate_callee (f := 18) rfl ?_); refine goesL_ (some 78) rfl rfl Tryd.func18 (by kernel_rfl) rfl #[.slice A1 l1.length c1] rfl (by (try simp only [List.map_toArray, List.map_cons, List.map_nil]); first | done | rfl | (simp only [List.length_drop, List.length_take]; rfl)) ?_; (with_reducible refine (utf_Signs.calls kj177 _ _ l1 t247 t248 _ ?side1 ?side2 ?side3 A197.out).mono ?_); (case side1 => repeat (first | exact (Kd.C_below HR1.out HB.out) | (with_reducible refine Kd.C_alloc ?_ _) | (with_reducible refine Kd.C_drewN ?_ _) | (with_reducible refine Kd.C_drew ?_))); (case side2 => exact HC1.out); (case side3 => repeat (first | exact (GLOB_below HG_.out HB.out) | (with_reducible refine GLOB_alloc ?_ _) | (with_reducible refine GLOB_drewN ?_ _) | (with_reducible refine GLOB_drew ?_))); rintro e w199 ⟨v249, rfl, ho0, hb⟩; refine ⟨_, rfl, ?_⟩; have n0_ := Aside0.mk (Kd.R_lower ho0 (below_size (by repeat (first | (with_reducible first | exact HB.out | apply below_alloc | apply pw_below_drewN | apply below_drew1) | exact HB.out)))); have n1_ := Aside0.mk (below_step (by repeat (first | (with_reducible first | exact HB.out | apply below_alloc | apply pw_below_drewN | apply below_drew1) | exact HB.out)) hb); clear HB; have HO250 := n0_; have HB := n1_; clear n0_ n1_; (try clear hb); (try clear hb2); (try clear hk); (try clear hi); (try clear ho0)))
          go_loopg [14, 15] kj177 (fun kq v14 v15 w' => ∃ (x14_3 : List Int) (x15_3 : Int), v15 = .int .i64 x15_3 ∧ Aside0 (scarflaw01_UtfBack.l7 kq l1 t247 x14_3 x15_3 = some r) ∧ Aside0 (kq ≤ kj177) ∧ Aside0 (Kd.R (Kd.int .i64) 3 w' w.heap.size (fun _ => True) v249 t247) ∧ Aside0 (Kd.R (Kd.int .u8) 5 w' w.heap.size (fun _ => True) v14 x14_3) ∧ Aside0 (Below w.heap.size w w'))
          case atStart => exact ⟨(([] : List Int)), (0), (by first | rfl | (simp; done) | (simp [*]; done)), H', ⟨Nat.le_refl _⟩, ⟨by (with_reducible repeat (first | apply Kd.R_alloc | apply Kd.R_drewN | apply Kd.R_drew)); exact HO250.out⟩, ⟨by first | exact Kd.R_nil _ _ _ _ _ | exact Kd.N_nil _ _ _ _ _ | exact Kd.V_nil _ _ _ _ _ | exact Kd.Q_nil _ _ _ _ _ | exact Kd.S_nil _ _ _ _ _⟩, ⟨by repeat (first | (with_reducible first | exact HB.out | apply below_alloc | apply pw_below_drewN | apply below_drew1) | exact HB.out)⟩⟩
          case round =>
           clear H'
           try clear c1
           try clear p1
           try clear q1
           try clear hx1
           try clear hcv1
           try clear c2
           try clear p2
           try clear q2
           try clear hx2
           try clear c3
           try clear c3b0
           try clear c3b1
           try clear c4
           try clear c4b0
           try clear c4b1
           try clear c5
           try clear c5b0
           try clear c5b1
           try clear hcv5
           try clear c6
           try clear c6b0
           try clear c6b1
           try clear p6
           try clear c7
           try clear c8
           try clear c9
           try clear c9b0
           try clear c10
           try clear c10b0
           try clear hcv10
           try clear c11
           try clear c12
           try clear c12b0
           try clear c12b1
           try clear c13
           try clear p13
           try clear q13
           try clear hx13
           try clear c14
           try clear c15
           try clear p15
           try clear q15
           try clear hx15
           try clear c16
           try clear p16
           try clear q16
           try clear hx16
           try clear hcv16
           try clear c17
           try clear p17
           try clear q17
           try clear hx17
           try clear c18
           try clear p18
           try clear q18
           try clear hx18
           try clear c19
           try clear p19
           try clear q19
           try clear hx19
           try clear p20
           try clear q20
           try clear hx20
           try clear p22
           try clear q22
           try clear hx22
           try clear p23
           try clear q23
           try clear hx23
           try clear c25
           try clear c26
           try clear c26b0
           try clear c26b1
           try clear c28
           try clear c39
           try clear c41
           try clear c41b0
           try clear c41b1
           try clear c43
           try clear c43b0
           try clear c44
           try clear c44b0
           try clear c46
           try clear c46b0
           try clear c46b1
           try clear c47
           try clear hcv55
           try clear hcv56
           try clear c61
           try clear c61b0
           try clear c62
           try clear c62b0
           try clear c64
           try clear c64b0
           try clear c64b1
           try clear p64
           try clear c65
           try clear c66
           try clear c77
           try clear c78
           try clear c78b0
           try clear c78b1
           try clear c80
           try clear c91
           try clear c93
           try clear c93b0
           try clear c93b1
           try clear c95
           try clear c95b0
           try clear c96
           try clear c96b0
           try clear c98
           try clear c98b0
           try clear c98b1
           try clear c99
           try clear hcv107
           try clear hcv108
           try clear c112
           try clear c112b0
           try clear c112b1
           try clear c113
           try clear c113b0
           try clear c113b1
           try clear c115
           try clear c115b0
           try clear c116
           try clear c116b0
           try clear c118
           try clear c118b0
           try clear c118b1
           try clear c119
           try clear c120
           try clear c131
           try clear p131
           try clear q131
           try clear hx131
           try clear c132
           try clear c132b0
           try clear c132b1
           try clear c134
           try clear p139
           try clear q139
           try clear hx139
           try clear c145
           try clear c147
           try clear c147b0
           try clear c147b1
           try clear c149
           try clear c149b0
           try clear c150
           try clear c150b0
           try clear c152
           try clear c152b0
           try clear c152b1
           try clear c153
           try clear p155
           try clear q155
           try clear hx155
           try clear hcv161
           try clear hcv162
           try clear p163
           try clear q163
           try clear hx163
           try clear c166
           try clear c166b0
           try clear c167
           try clear c167b0
           try clear c169
           try clear c169b0
           try clear c169b1
           try clear c170
           try clear c171
           try clear p171
           try clear q171
           try clear hx171
           try clear c182
           try clear c183
           try clear c183b0
           try clear c183b1
           try clear c185
           try clear p187
           try clear q187
           try clear hx187
           try clear c196
           try clear p196
           try clear q196
           try clear hx196
           try clear c198
           try clear c198b0
           try clear c198b1
           try clear hx131_0
           try clear hx139_0
           try clear hx155_0
           try clear hx163_0
           try clear hx171_0
           try clear hx187_0
           try clear hx196_0
           try clear hx204_0
           try clear hx220_0
           try clear hx228_0
           try clear hx236_0
           try clear p1
           try clear p13
           try clear p131
           try clear p139
           try clear p15
           try clear p155
           try clear p16
           try clear p163
           try clear p17
           try clear p171
           try clear p18
           try clear p187
           try clear p19
           try clear p196
           try clear p2
           try clear p20
           try clear p204
           try clear p22
           try clear p220
           try clear p228
           try clear p23
           try clear p236
           try clear p6
           try clear p64
           try clear q1
           try clear q13
           try clear q131
           try clear q139
           try clear q15
           try clear q155
           try clear q16
           try clear q163
           try clear q17
           try clear q171
           try clear q18
           try clear q187
           try clear q19
           try clear q196
           try clear q2
           try clear q20
           try clear q204
           try clear q22
           try clear q220
           try clear q228
           try clear q23
           try clear q236
           obtain ⟨x14_3, x15_3, rfl, HA, HK3, HO_12, HO_14, HB⟩ := hrel
           cases gk with
           | zero => exact absurd HA.out (by simp [scarflaw01_UtfBack.l7])
           | succ k3 =>
            have H := HA.out
            clear HA
            simp only [scarflaw01_UtfBack.l7] at H
            by_cases c200 : x15_3 < (t247.length : Int)
            ·rw [if_pos c200] at H
             have c200b0 : decide (x15_3 < (t247.length : Int)) = true := decide_eq_true c200
             clear c200
             by_cases c201 : 0 ≤ x15_3
             ·rw [if_pos c201] at H
              have c201b0 : decide (0 ≤ x15_3) = true := decide_eq_true c201
              clear c201
              replace H := Option.bind_eq_some_iff.mp H
              obtain ⟨⟨t253, t254⟩, A2020, H⟩ := H
              replace H : (if t254 = 0 then (if x14_3.length + t253.length < 140737488355328 then (scarflaw01_UtfBack.l7 k3 l1 t247 (x14_3 ++ t253) (wrap64 (x15_3 + 1))) else (none)) else (some false)) = some r := H
              have A202 := Aside0.mk A2020
              clear A2020
              by_cases c203 : t254 = 0
              ·rw [if_pos c203] at H
               have c203b0 : (t254 == 0) = true := beq_iff_eq.mpr c203
               have c203b1 : (t254 != 0) = false := bne_eq_false_iff_eq.mpr c203
               clear c203
               by_cases c204 : x14_3.length + t253.length < 140737488355328
               ·rw [if_pos c204] at H
                have LMc204 := Aside0.mk c204
                clear c204
                obtain ⟨y257, hy257⟩ : ∃ y_ : List Int, y_ = (x14_3 ++ t253) := ⟨_, rfl⟩
                replace H : (scarflaw01_UtfBack.l7 k3 l1 t247 y257 (wrap64 (x15_3 + 1))) = some r := by first | (rw [hy257]; with_reducible exact H) | (have H2_ := (Option.bind_some _ _).symm.trans H; rw [hy257]; with_reducible exact H2_) | (have H2_ := (Option.bind_some _ _).symm.trans H; with_reducible exact H2_) | with_reducible exact H | (rw [hy257]; exact H) | exact H
                have Ny257 := Aside0.mk hy257
                clear hy257
                have H' := Aside0.mk H
                clear H
                obtain ⟨Ao205, co205, eo205⟩ := Kd.R_slice HO_12.out
                subst eo205
                have p252 : 0 ≤ (x15_3 : Int) := of_decide_eq_true (by with_reducible assumption)
                have q252 : x15_3 < (t247.length : Int) := of_decide_eq_true (by with_reducible assumption)
                obtain ⟨ad252, e252, hx252_0⟩ := Kd.at_int (Kd.R_reads' HO_12.out).2.2 x15_3 p252 q252
                cases e252
                replace p252 := eq_true p252
                replace q252 := eq_true q252
                go_wp2_with (first | ((with_reducible refine gate_callee (f := 13) rfl ?_); refine goesL_ (some 97) rfl rfl Tryd.func13 (by kernel_rfl) rfl #[.int .i64 (rd t247 x15_3)] rfl (by (try simp only [List.map_toArray, List.map_cons, List.map_nil]); first | done | rfl | (simp only [List.length_drop, List.length_take]; rfl)) ?_; (with_reducible refine (utf_Bytes.calls (rd t247 x15_3) t253 t254 _ A202.out).mono ?_); rintro e w206 ⟨v255, rfl, ho0, hb⟩; refine ⟨_, rfl, ?_⟩; have n0_ := Aside0.mk (Kd.R_below (by (with_reducible repeat (first | apply Kd.R_alloc | apply Kd.R_drewN | apply Kd.R_drew)); exact HO_12.out) hb); have n1_ := Aside0.mk (Kd.R_elder' (by (with_reducible repeat (first | apply Kd.R_alloc | apply Kd.R_drewN | apply Kd.R_drew)); exact HO_14.out) (Kd.R_base ho0) hb); have n2_ := Aside0.mk (Kd.R_lower (Kd.R_new' ho0 (Kd.R_lt (by (with_reducible repeat (first | apply Kd.R_alloc | apply Kd.R_drewN | apply Kd.R_drew)); exact HO_14.out))) (below_size (by repeat (first | (with_reducible first | exact HB.out | apply below_alloc | apply pw_below_drewN | apply below_drew1) | exact HB.out)))); have n3_ := Aside0.mk (below_step (by repeat (first | (with_reducible first | exact HB.out | apply below_alloc | apply pw_below_drewN | apply below_drew1) | exact HB.out)) hb); clear HO_12; clear HO_14; clear HB; have HO_12 := n0_; have HO_14 := n1_; have HO256 := n2_; have HB := n3_; clear n0_ n1_ n2_ n3_; (try clear hb); (try clear hb2); (try clear hk); (try clear hi); (try clear ho0); obtain ⟨Ao208, co208, eo208⟩ := Kd.R_slice HO256.out; subst eo208) | ((with_reducible refine gate_builtin (b := .append) (xs := #[.tmp 102, .tmp 103]) rfl ?_); at_builtin; refine Kd.R_append_rows (Kd.int .u8) (w0 := w) w.heap.size rfl (.tmp 102) (.tmp 103) 22 5 (.int .u8 0) 1 rfl Tryd.underlying22 info5 rfl (by decide) (by omega) u14 x14_3 t253 _ _ _ (fun k_ => some k_ ≠ (.slice Ao208 t253.length co208 : Value).ownBlock) (fun _ => False) rfl rfl ?aO ?aR (fun _ _ h => h) (fun _ h => h.elim) ?aF ?aB ?aS ?aL ?_; (case aR => repeat (first | exact (Kd.R_reads' HO256.out).2.2 | (with_reducible refine Kd.C_alloc ?_ _) | (with_reducible refine Kd.C_drewN ?_ _) | (with_reducible refine Kd.C_drew ?_))); (case aB => exact (by repeat (first | (with_reducible first | exact HB.out | apply below_alloc | apply pw_below_drewN | apply below_drew1) | exact HB.out))); (case aF => exact (fun k_ hk => Kd.fresh' (Kd.R_lt (by (with_reducible repeat (first | apply Kd.R_alloc | apply Kd.R_drewN | apply Kd.R_drew)); exact HO256.out)) k_ hk)); (case aO => exact (by (with_reducible repeat (first | apply Kd.R_alloc | apply Kd.R_drewN | apply Kd.R_drew)); exact Kd.R_mono HO_14.out (fun _ hk => hk.2))); (case aS => exact (below_size (by repeat (first | (with_reducible first | exact HB.out | apply below_alloc | apply pw_below_drewN | apply below_drew1) | exact HB.out)))); (case aL => have := LMc204.out; omega); intro v258 w207 ho hb hg hat; rw [← Ny257.out] at ho; have n0_ := Aside0.mk (Kd.R_over' (by (with_reducible repeat (first | apply Kd.R_alloc | apply Kd.R_drewN | apply Kd.R_drew)); exact HO_12.out) (Kd.R_typed (by (with_reducible repeat (first | apply Kd.R_alloc | apply Kd.R_drewN | apply Kd.R_drew)); exact HO_14.out)) (by decide) hg); have n1_ := Aside0.mk (Kd.R_after (ok := (fun _ => True)) (by (with_reducible repeat (first | apply Kd.R_alloc | apply Kd.R_drewN | apply Kd.R_drew)); exact HO256.out) hg hat); have n2_ := Aside0.mk (hb); have n3_ := Aside0.mk (ho); clear HO_12; clear HO256; clear HB; clear HO_14; have HO_12 := n0_; have HO256 := n1_; have HB := n2_; have HO259 := n3_; clear n0_ n1_ n2_ n3_; clear ho hb hg hat))
                go_roundg k3
                case measure => have := HK1.out; have := HJ177.out; have := HK3.out; omega
                case rel => exact ⟨(y257), (wrap64 (x15_3 + 1)), (by first | rfl | (simp; done) | (simp [*]; done)), H', ⟨by have := HK1.out; have := HJ177.out; have := HK3.out; omega⟩, ⟨by (with_reducible repeat (first | apply Kd.R_alloc | apply Kd.R_drewN | apply Kd.R_drew)); exact HO_12.out⟩, ⟨by (with_reducible repeat (first | apply Kd.R_alloc | apply Kd.R_drewN | apply Kd.R_drew)); exact Kd.R_mono HO259.out (fun _ hk => trivial)⟩, ⟨by repeat (first | (with_reducible first | exact HB.out | apply below_alloc | apply pw_below_drewN | apply below_drew1) | exact HB.out)⟩⟩
               ·rw [if_neg c204] at H
                exact absurd H (by simp)
              ·rw [if_neg c203] at H
               have c203b0 : (t254 == 0) = false := beq_eq_false_iff_ne.mpr c203
               have c203b1 : (t254 != 0) = true := bne_iff_ne.mpr c203
               obtain rfl := Option.some.inj H
               obtain ⟨Ao209, co209, eo209⟩ := Kd.R_slice HO_12.out
               subst eo209
               have p252 : 0 ≤ (x15_3 : Int) := of_decide_eq_true (by with_reducible assumption)
               have q252 : x15_3 < (t247.length : Int) := of_decide_eq_true (by with_reducible assumption)
               obtain ⟨ad252, e252, hx252_0⟩ := Kd.at_int (Kd.R_reads' HO_12.out).2.2 x15_3 p252 q252
               cases e252
               replace p252 := eq_true p252
               replace q252 := eq_true q252
               go_wp2_with (first | ((with_reducible refine gate_callee (f := 13) rfl ?_); refine goesL_ (some 97) rfl rfl Tryd.func13 (by kernel_rfl) rfl #[.int .i64 (rd t247 x15_3)] rfl (by (try simp only [List.map_toArray, List.map_cons, List.map_nil]); first | done | rfl | (simp only [List.length_drop, List.length_take]; rfl)) ?_; (with_reducible refine (utf_Bytes.calls (rd t247 x15_3) t253 t254 _ A202.out).mono ?_); rintro e w210 ⟨v255, rfl, ho0, hb⟩; refine ⟨_, rfl, ?_⟩; have n0_ := Aside0.mk (Kd.R_below (by (with_reducible repeat (first | apply Kd.R_alloc | apply Kd.R_drewN | apply Kd.R_drew)); exact HO_12.out) hb); have n1_ := Aside0.mk (Kd.R_elder' (by (with_reducible repeat (first | apply Kd.R_alloc | apply Kd.R_drewN | apply Kd.R_drew)); exact HO_14.out) (Kd.R_base ho0) hb); have n2_ := Aside0.mk (Kd.R_lower (Kd.R_new' ho0 (Kd.R_lt (by (with_reducible repeat (first | apply Kd.R_alloc | apply Kd.R_drewN | apply Kd.R_drew)); exact HO_14.out))) (below_size (by repeat (first | (with_reducible first | exact HB.out | apply below_alloc | apply pw_below_drewN | apply below_drew1) | exact HB.out)))); have n3_ := Aside0.mk (below_step (by repeat (first | (with_reducible first | exact HB.out | apply below_alloc | apply pw_below_drewN | apply below_drew1) | exact HB.out)) hb); clear HO_12; clear HO_14; clear HB; have HO_12 := n0_; have HO_14 := n1_; have HO256 := n2_; have HB := n3_; clear n0_ n1_ n2_ n3_; (try clear hb); (try clear hb2); (try clear hk); (try clear hi); (try clear ho0)))
               go_ret
               exact ⟨by first | rfl | (simp [errW_none, errW_some] <;> rfl) | (simp [*, errW_none, errW_some] <;> rfl), by repeat (first | (with_reducible first | exact HB.out | apply below_alloc | apply pw_below_drewN | apply below_drew1) | exact HB.out)⟩
             ·rw [if_neg c201] at H
              exact absurd H (by simp)
            ·rw [if_neg c200] at H
             have c200b0 : decide (x15_3 < (t247.length : Int)) = false := decide_eq_false c200
             clear c200
             obtain rfl := Option.some.inj H
             obtain ⟨Ao211, co211, eo211⟩ := Kd.R_slice HO_12.out
             subst eo211
             have hcv212 := own_string (P := Tryd.prog) Tryd.underlying22 Tryd.underlying5 Tryd.underlying9 (Kd.own_of_R HO_14.out)
             (try (have hcn212 := fun n_ : Nat => own_string (P := Tryd.prog) Tryd.underlying22 Tryd.underlying5 Tryd.underlying9 (Kd.own_of_R (Kd.R_drewN HO_14.out n_))))
             have hcv213 := Kd.C_string (P := Tryd.prog) (A := A1) (c := c1) Tryd.underlying22 Tryd.underlying5 Tryd.underlying9 (Kd.C_below HR1.out HB.out)
             have hcn213 := fun n_ : Nat => Kd.C_string (P := Tryd.prog) (A := A1) (c := c1) Tryd.underlying22 Tryd.underlying5 Tryd.underlying9 (Kd.C_drewN (Kd.C_below HR1.out HB.out) n_)
             go_wp2
             go_ret
             exact ⟨by first | rfl | (simp [errW_none, errW_some] <;> rfl) | (simp [*, errW_none, errW_some] <;> rfl), by repeat (first | (with_reducible first | exact HB.out | apply below_alloc | apply pw_below_drewN | apply below_drew1) | exact HB.out)⟩
         ·rw [if_neg c198] at H
          have c198b0 : (t248 == 0) = false := beq_eq_false_iff_ne.mpr c198
          have c198b1 : (t248 != 0) = true := bne_iff_ne.mpr c198
          replace H := Option.bind_eq_some_iff.mp H
          obtain ⟨t251, A2140, H⟩ := H
          replace H : (some (!t251)) = some r := H
          have A214 := Aside0.mk A2140
          clear A2140
          obtain rfl := Option.some.inj H
          go_wp2_with (first | ((with_reducible refine gate_callee (f := 18) rfl ?_); refine goesL_ (some 78) rfl rfl Tryd.func18 (by kernel_rfl) rfl #[.slice A1 l1.length c1] rfl (by (try simp only [List.map_toArray, List.map_cons, List.map_nil]); first | done | rfl | (simp only [List.length_drop, List.length_take]; rfl)) ?_; (with_reducible refine (utf_Signs.calls kj177 _ _ l1 t247 t248 _ ?side1 ?side2 ?side3 A197.out).mono ?_); (case side1 => repeat (first | exact (Kd.C_below HR1.out HB.out) | (with_reducible refine Kd.C_alloc ?_ _) | (with_reducible refine Kd.C_drewN ?_ _) | (with_reducible refine Kd.C_drew ?_))); (case side2 => exact HC1.out); (case side3 => repeat (first | exact (GLOB_below HG_.out HB.out) | (with_reducible refine GLOB_alloc ?_ _) | (with_reducible refine GLOB_drewN ?_ _) | (with_reducible refine GLOB_drew ?_))); rintro e w215 ⟨v249, rfl, ho0, hb⟩; refine ⟨_, rfl, ?_⟩; have n0_ := Aside0.mk (Kd.R_lower ho0 (below_size (by repeat (first | (with_reducible first | exact HB.out | apply below_alloc | apply pw_below_drewN | apply below_drew1) | exact HB.out)))); have n1_ := Aside0.mk (below_step (by repeat (first | (with_reducible first | exact HB.out | apply below_alloc | apply pw_below_drewN | apply below_drew1) | exact HB.out)) hb); clear HB; have HO250 := n0_; have HB := n1_; clear n0_ n1_; (try clear hb); (try clear hb2); (try clear hk); (try clear hi); (try clear ho0)) | ((with_reducible refine gate_callee (f := 17) rfl ?_); refine goesL_ (some 84) rfl rfl Tryd.func17 (by kernel_rfl) rfl #[.slice A1 l1.length c1] rfl (by (try simp only [List.map_toArray, List.map_cons, List.map_nil]); first | done | rfl | (simp only [List.length_drop, List.length_take]; rfl)) ?_; (with_reducible refine (utf_Text.calls kj177 _ _ l1 t251 _ ?side1 ?side2 ?side3 A214.out).mono ?_); (case side1 => repeat (first | exact (Kd.C_below HR1.out HB.out) | (with_reducible refine Kd.C_alloc ?_ _) | (with_reducible refine Kd.C_drewN ?_ _) | (with_reducible refine Kd.C_drew ?_))); (case side2 => exact HC1.out); (case side3 => repeat (first | exact (GLOB_below HG_.out HB.out) | (with_reducible refine GLOB_alloc ?_ _) | (with_reducible refine GLOB_drewN ?_ _) | (with_reducible refine GLOB_drew ?_))); rintro e w216 ⟨rfl, hb⟩; refine ⟨_, rfl, ?_⟩; have n0_ := Aside0.mk (Kd.R_below (by (with_reducible repeat (first | apply Kd.R_alloc | apply Kd.R_drewN | apply Kd.R_drew)); exact HO250.out) hb); have n1_ := Aside0.mk (below_step (by repeat (first | (with_reducible first | exact HB.out | apply below_alloc | apply pw_below_drewN | apply below_drew1) | exact HB.out)) hb); clear HO250; clear HB; have HO250 := n0_; have HB := n1_; clear n0_ n1_; (try clear hb); (try clear hb2); (try clear hk); (try clear hi)))
          go_ret
          exact ⟨by first | rfl | (simp [errW_none, errW_some] <;> rfl) | (simp [*, errW_none, errW_some] <;> rfl), by repeat (first | (with_reducible first | exact HB.out | apply below_alloc | apply pw_below_drewN | apply below_drew1) | exact HB.out)⟩

/-- THE ONE PURE STATEMENT of scarflaw01_UtfBack: yours. -/
def scarflaw01_UtfBack.Pure : Prop := ∀ (l0 : List Int) (l1 : List Int), l0.length ≤ maxLen → l0.length * 8 ≤ 140737488351232 → (∀ x ∈ l0, (Lit.int .i64 x).wf = true) → l1.length ≤ maxLen → l1.length * 1 ≤ 140737488351232 → (∀ x ∈ l1, (Lit.int .u8 x).wf = true) → ∃ k, scarflaw01_UtfBack.f k l0 l1 = some true
theorem scarflaw01_UtfBack.walk (P : scarflaw01_UtfBack.Pure) (a0 : Option Addr) (len0 cap0 : Nat) (z0 : List Int) (a1 : Option Addr) (len1 cap1 : Nat) (z1 : List Int) (w : World) (hG : GLOB w) (w0 : (a0 = none ∧ len0 = 0 ∧ cap0 = 0 ∧ z0 = []) ∨ ∃ x, a0 = some x ∧ len0 ≤ cap0 ∧ cap0 ≤ maxLen ∧ z0.length = cap0 ∧ (∀ i, i < z0.length → w.cell? (x.add i) = some (.int .i64 (z0.getD i 0))) ∧ ∀ n ∈ z0, (Lit.int .i64 n).wf = true) (y0 : len0 * 8 ≤ 140737488351232) (w1 : (a1 = none ∧ len1 = 0 ∧ cap1 = 0 ∧ z1 = []) ∨ ∃ x, a1 = some x ∧ len1 ≤ cap1 ∧ cap1 ≤ maxLen ∧ z1.length = cap1 ∧ (∀ i, i < z1.length → w.cell? (x.add i) = some (.int .u8 (z1.getD i 0))) ∧ ∀ n ∈ z1, (Lit.int .u8 n).wf = true) (y1 : len1 * 1 ≤ 140737488351232) :
  Calls Tryd.prog 9 #[.slice a0 len0 cap0, .slice a1 len1 cap1] w fun e w' => e = .returned (.bool true) ∧ Below w.heap.size w w' := by
 obtain ⟨l0, rfl, hr0, hm0, hw0, hc0⟩ := ReadsInt.ofRowC w0
 obtain ⟨l1, rfl, hr1, hm1, hw1, hc1⟩ := ReadsInt.ofRowC w1
 obtain ⟨k, h⟩ := P l0 l1 hm0 y0 hw0 hm1 y1 hw1
 refine (scarflaw01_UtfBack.calls k _ _ l0 _ _ l1 true w (Kd.C_of_reads (d := (0 : Int)) (h1 := fun _ => rfl) hr0) hc0 (Kd.C_of_reads (d := (0 : Int)) (h1 := fun _ => rfl) hr1) hc1 hG h).mono ?_
 rintro e w' ⟨rfl, hd⟩
 exact ⟨rfl, hd⟩

end Go.Proofs.YtpoeiiimmgnioaaDoor.Q
