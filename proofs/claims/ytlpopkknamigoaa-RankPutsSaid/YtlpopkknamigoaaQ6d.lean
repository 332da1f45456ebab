-- Written by this repo's pp.py (the kit's print program with additions).
import Derived.Test.YtlpopkknamigoaaQ0
import Derived.Test.YtlpopkknamigoaaQ3
import Derived.Test.YtlpopkknamigoaaQ5
namespace Go.Proofs.Ytlpopkknamigoaa.Q
open Go.RowKit Go.Proofs.YtlpopkknamigoaaW.PrintWords Go.Proofs.YtlpopkknamigoaaW.PrintLast Go.Proofs.YtlpopkknamigoaaW.PrintMore
attribute [local go_sem] max2_int min2_int max_two min_two max_three min_three max_four min_four   -- for this text's walks alone
set_option linter.unusedVariables false
set_option linter.unusedSimpArgs false

/-! ### scarflaw03_RankPuts: function 7 -/
mutual
def scarflaw03_RankPuts.l0 : Nat → List Int → Int → List Int → List Int → Int → Option (Bool)
  | 0, _, _, _, _, _ => none
  | k + 1, x0, x1, x5, x6, x7 => if x7 < (x6.length : Int) then (if 0 ≤ x7 then (if (rd x6 x7) < 0 then (some false) else (if (rd x6 x7) ≥ (x0.length : Int) then (some false) else (if 0 ≤ (rd x6 x7) then (if (rd x6 x7) < (x0.length : Int) then ((some (([rd x0 (rd x6 x7)] : List Int) : List Int)).bind fun y186 => (if x5.length + y186.length < 17592186044416 then (scarflaw03_RankPuts.l0 k x0 x1 (x5 ++ y186) x6 (wrap64 (x7 + 1))) else (none))) else (none)) else (none)))) else (none)) else ((rank_Place.f k x5 x1).bind fun t192 => (if t192 < 0 then (scarflaw03_RankPuts.j1 k x1 x5 t192 true) else (scarflaw03_RankPuts.j1 k x1 x5 t192 (decide (t192 > (x5.length : Int))))))
def scarflaw03_RankPuts.j1 : Nat → Int → List Int → Int → Bool → Option (Bool)
  | 0, _, _, _, _ => none
  | k + 1, x1, x5, x8, x60 => if x60 = true then (some false) else ((some (([] : List Int) : List Int)).bind fun y193 => (if 0 ≤ x8 then (if x8 ≤ (x5.length : Int) then ((some (x5.take (x8 : Int).toNat : List Int)).bind fun y196 => (if y193.length + y196.length < 17592186044416 then ((some (y193 ++ y196 : List Int)).bind fun y200 => ((some (([x1] : List Int) : List Int)).bind fun y203 => (if y200.length + y203.length < 17592186044416 then ((some (y200 ++ y203 : List Int)).bind fun y206 => ((some (x5.drop (x8 : Int).toNat : List Int)).bind fun y209 => (if y206.length + y209.length < 17592186044416 then (scarflaw03_RankPuts.l1 k x1 x5 x8 (y206 ++ y209) 1) else (none)))) else (none)))) else (none))) else (none)) else (none)))
def scarflaw03_RankPuts.l1 : Nat → Int → List Int → Int → List Int → Int → Option (Bool)
  | 0, _, _, _, _, _ => none
  | k + 1, x1, x5, x8, x9, x10 => if x10 < (x9.length : Int) then (if 0 ≤ (wrap64 (x10 - 1)) then (if (wrap64 (x10 - 1)) < (x9.length : Int) then (if 0 ≤ x10 then (if (rd x9 (wrap64 (x10 - 1))) > (rd x9 x10) then (some false) else (scarflaw03_RankPuts.l1 k x1 x5 x8 x9 (wrap64 (x10 + 1)))) else (none)) else (none)) else (none)) else ((rank_Ints.f k x5).bind fun t218 => (scarflaw03_RankPuts.l2 k x1 x5 x8 t218 0))
def scarflaw03_RankPuts.l2 : Nat → Int → List Int → Int → List Int → Int → Option (Bool)
  | 0, _, _, _, _, _ => none
  | k + 1, x1, x5, x8, x11, x12 => if x12 < (x11.length : Int) then (if 0 ≤ x12 then (if (rd x11 x12) = x12 then (scarflaw03_RankPuts.l2 k x1 x5 x8 x11 (wrap64 (x12 + 1))) else (some false)) else (none)) else ((scarflaw03_known.f k).bind fun t222 => (if t222 = true then (if x8 = (x5.length : Int) then (if x8 = 0 then (some true) else (if 0 ≤ (wrap64 (x8 - 1)) then (if (wrap64 (x8 - 1)) < (x5.length : Int) then (some (decide ((rd x5 (wrap64 (x8 - 1))) < x1))) else (none)) else (none))) else (if 0 ≤ x8 then (if x8 < (x5.length : Int) then (if (rd x5 x8) ≥ x1 then (if x8 = 0 then (some true) else (if 0 ≤ (wrap64 (x8 - 1)) then (if (wrap64 (x8 - 1)) < (x5.length : Int) then (some (decide ((rd x5 (wrap64 (x8 - 1))) < x1))) else (none)) else (none))) else (some false)) else (none)) else (none))) else (some false)))
def scarflaw03_RankPuts.l3 : Nat → List Int → Int → List Int → List Int → Int → Option (Bool)
  | 0, _, _, _, _, _ => none
  | k + 1, x0, x1, x5, x6, x7 => if x7 < (x6.length : Int) then (if 0 ≤ x7 then (if (rd x6 x7) < 0 then (some false) else (if (rd x6 x7) ≥ (x0.length : Int) then (some false) else (if 0 ≤ (rd x6 x7) then (if (rd x6 x7) < (x0.length : Int) then ((some (([rd x0 (rd x6 x7)] : List Int) : List Int)).bind fun y233 => (if x5.length + y233.length < 17592186044416 then (scarflaw03_RankPuts.l3 k x0 x1 (x5 ++ y233) x6 (wrap64 (x7 + 1))) else (none))) else (none)) else (none)))) else (none)) else ((rank_Place.f k x5 x1).bind fun t239 => (if t239 < 0 then (scarflaw03_RankPuts.j5 k x1 x5 t239 true) else (scarflaw03_RankPuts.j5 k x1 x5 t239 (decide (t239 > (x5.length : Int))))))
def scarflaw03_RankPuts.j5 : Nat → Int → List Int → Int → Bool → Option (Bool)
  | 0, _, _, _, _ => none
  | k + 1, x1, x5, x8, x60 => if x60 = true then (some false) else ((some (([] : List Int) : List Int)).bind fun y240 => (if 0 ≤ x8 then (if x8 ≤ (x5.length : Int) then ((some (x5.take (x8 : Int).toNat : List Int)).bind fun y243 => (if y240.length + y243.length < 17592186044416 then ((some (y240 ++ y243 : List Int)).bind fun y247 => ((some (([x1] : List Int) : List Int)).bind fun y250 => (if y247.length + y250.length < 17592186044416 then ((some (y247 ++ y250 : List Int)).bind fun y253 => ((some (x5.drop (x8 : Int).toNat : List Int)).bind fun y256 => (if y253.length + y256.length < 17592186044416 then (scarflaw03_RankPuts.l4 k x1 x5 x8 (y253 ++ y256) 1) else (none)))) else (none)))) else (none))) else (none)) else (none)))
def scarflaw03_RankPuts.l4 : Nat → Int → List Int → Int → List Int → Int → Option (Bool)
  | 0, _, _, _, _, _ => none
  | k + 1, x1, x5, x8, x9, x10 => if x10 < (x9.length : Int) then (if 0 ≤ (wrap64 (x10 - 1)) then (if (wrap64 (x10 - 1)) < (x9.length : Int) then (if 0 ≤ x10 then (if (rd x9 (wrap64 (x10 - 1))) > (rd x9 x10) then (some false) else (scarflaw03_RankPuts.l4 k x1 x5 x8 x9 (wrap64 (x10 + 1)))) else (none)) else (none)) else (none)) else ((rank_Ints.f k x5).bind fun t265 => (scarflaw03_RankPuts.l5 k x1 x5 x8 t265 0))
def scarflaw03_RankPuts.l5 : Nat → Int → List Int → Int → List Int → Int → Option (Bool)
  | 0, _, _, _, _, _ => none
  | k + 1, x1, x5, x8, x11, x12 => if x12 < (x11.length : Int) then (if 0 ≤ x12 then (if (rd x11 x12) = x12 then (scarflaw03_RankPuts.l5 k x1 x5 x8 x11 (wrap64 (x12 + 1))) else (some false)) else (none)) else ((scarflaw03_known.f k).bind fun t269 => (if t269 = true then (if x8 = (x5.length : Int) then (if x8 = 0 then (some true) else (if 0 ≤ (wrap64 (x8 - 1)) then (if (wrap64 (x8 - 1)) < (x5.length : Int) then (some (decide ((rd x5 (wrap64 (x8 - 1))) < x1))) else (none)) else (none))) else (if 0 ≤ x8 then (if x8 < (x5.length : Int) then (if (rd x5 x8) ≥ x1 then (if x8 = 0 then (some true) else (if 0 ≤ (wrap64 (x8 - 1)) then (if (wrap64 (x8 - 1)) < (x5.length : Int) then (some (decide ((rd x5 (wrap64 (x8 - 1))) < x1))) else (none)) else (none))) else (some false)) else (none)) else (none))) else (some false)))
end
def scarflaw03_RankPuts.f (k : Nat) (l0 : List Int) (a1 : Int) : Option (Bool) := if (l0.length : Int) > 300 then (if 300 ≤ (l0.length : Int) then ((rank_Ints.f k (l0.take 300)).bind fun t179 => (scarflaw03_RankPuts.l0 k (l0.take 300) a1 ([] : List Int) t179 0)) else (none)) else ((rank_Ints.f k l0).bind fun t226 => (scarflaw03_RankPuts.l3 k l0 a1 ([] : List Int) t226 0))
theorem scarflaw03_RankPuts.mono_l : ∀ k, (∀ y0 y1 y2 y3 y4, LeO (scarflaw03_RankPuts.l0 k y0 y1 y2 y3 y4) (scarflaw03_RankPuts.l0 (k + 1) y0 y1 y2 y3 y4)) ∧ (∀ y0 y1 y2 y3, LeO (scarflaw03_RankPuts.j1 k y0 y1 y2 y3) (scarflaw03_RankPuts.j1 (k + 1) y0 y1 y2 y3)) ∧ (∀ y0 y1 y2 y3 y4, LeO (scarflaw03_RankPuts.l1 k y0 y1 y2 y3 y4) (scarflaw03_RankPuts.l1 (k + 1) y0 y1 y2 y3 y4)) ∧ (∀ y0 y1 y2 y3 y4, LeO (scarflaw03_RankPuts.l2 k y0 y1 y2 y3 y4) (scarflaw03_RankPuts.l2 (k + 1) y0 y1 y2 y3 y4)) ∧ (∀ y0 y1 y2 y3 y4, LeO (scarflaw03_RankPuts.l3 k y0 y1 y2 y3 y4) (scarflaw03_RankPuts.l3 (k + 1) y0 y1 y2 y3 y4)) ∧ (∀ y0 y1 y2 y3, LeO (scarflaw03_RankPuts.j5 k y0 y1 y2 y3) (scarflaw03_RankPuts.j5 (k + 1) y0 y1 y2 y3)) ∧ (∀ y0 y1 y2 y3 y4, LeO (scarflaw03_RankPuts.l4 k y0 y1 y2 y3 y4) (scarflaw03_RankPuts.l4 (k + 1) y0 y1 y2 y3 y4)) ∧ (∀ y0 y1 y2 y3 y4, LeO (scarflaw03_RankPuts.l5 k y0 y1 y2 y3 y4) (scarflaw03_RankPuts.l5 (k + 1) y0 y1 y2 y3 y4))
  | 0 => ⟨fun _ _ _ _ _ r h => by simp [scarflaw03_RankPuts.l0] at h, fun _ _ _ _ r h => by simp [scarflaw03_RankPuts.j1] at h, fun _ _ _ _ _ r h => by simp [scarflaw03_RankPuts.l1] at h, fun _ _ _ _ _ r h => by simp [scarflaw03_RankPuts.l2] at h, fun _ _ _ _ _ r h => by simp [scarflaw03_RankPuts.l3] at h, fun _ _ _ _ r h => by simp [scarflaw03_RankPuts.j5] at h, fun _ _ _ _ _ r h => by simp [scarflaw03_RankPuts.l4] at h, fun _ _ _ _ _ r h => by simp [scarflaw03_RankPuts.l5] at h⟩
  | k + 1 => by
    obtain ⟨ih0, ih1, ih2, ih3, ih4, ih5, ih6, ih7⟩ := scarflaw03_RankPuts.mono_l k
    refine ⟨?_, ?_, ?_, ?_, ?_, ?_, ?_, ?_⟩
    · intro y0 y1 y2 y3 y4
      unfold scarflaw03_RankPuts.l0
      repeat' first
      | (with_reducible exact ih0 _ _ _ _ _)
      | (with_reducible exact ih1 _ _ _ _)
      | (with_reducible exact ih2 _ _ _ _ _)
      | (with_reducible exact ih3 _ _ _ _ _)
      | (with_reducible exact ih4 _ _ _ _ _)
      | (with_reducible exact ih5 _ _ _ _)
      | (with_reducible exact ih6 _ _ _ _ _)
      | (with_reducible exact ih7 _ _ _ _ _)
      | (with_reducible exact rank_Ints.mono _ _)
      | (with_reducible exact rank_Place.mono _ _ _)
      | (with_reducible exact scarflaw03_known.mono _)
      | (with_reducible exact LeO.refl _)
      | (with_reducible exact LeO.none _)
      | (with_reducible refine LeO.ite ?_ ?_)
      | (with_reducible refine LeO.bind ?_ (fun _ => ?_))
      | exact ih0 _ _ _ _ _
      | exact ih1 _ _ _ _
      | exact ih2 _ _ _ _ _
      | exact ih3 _ _ _ _ _
      | exact ih4 _ _ _ _ _
      | exact ih5 _ _ _ _
      | exact ih6 _ _ _ _ _
      | exact ih7 _ _ _ _ _
      | exact rank_Ints.mono _ _
      | exact rank_Place.mono _ _ _
      | exact scarflaw03_known.mono _
      | exact LeO.none _
      | refine LeO.ite ?_ ?_
      | refine LeO.bind ?_ (fun _ => ?_)
    · intro y0 y1 y2 y3
      unfold scarflaw03_RankPuts.j1
      repeat' first
      | (with_reducible exact ih0 _ _ _ _ _)
      | (with_reducible exact ih1 _ _ _ _)
      | (with_reducible exact ih2 _ _ _ _ _)
      | (with_reducible exact ih3 _ _ _ _ _)
      | (with_reducible exact ih4 _ _ _ _ _)
      | (with_reducible exact ih5 _ _ _ _)
      | (with_reducible exact ih6 _ _ _ _ _)
      | (with_reducible exact ih7 _ _ _ _ _)
      | (with_reducible exact rank_Ints.mono _ _)
      | (with_reducible exact rank_Place.mono _ _ _)
      | (with_reducible exact scarflaw03_known.mono _)
      | (with_reducible exact LeO.refl _)
      | (with_reducible exact LeO.none _)
      | (with_reducible refine LeO.ite ?_ ?_)
      | (with_reducible refine LeO.bind ?_ (fun _ => ?_))
      | exact ih0 _ _ _ _ _
      | exact ih1 _ _ _ _
      | exact ih2 _ _ _ _ _
      | exact ih3 _ _ _ _ _
      | exact ih4 _ _ _ _ _
      | exact ih5 _ _ _ _
      | exact ih6 _ _ _ _ _
      | exact ih7 _ _ _ _ _
      | exact rank_Ints.mono _ _
      | exact rank_Place.mono _ _ _
      | exact scarflaw03_known.mono _
      | exact LeO.none _
      | refine LeO.ite ?_ ?_
      | refine LeO.bind ?_ (fun _ => ?_)
    · intro y0 y1 y2 y3 y4
      unfold scarflaw03_RankPuts.l1
      repeat' first
      | (with_reducible exact ih0 _ _ _ _ _)
      | (with_reducible exact ih1 _ _ _ _)
      | (with_reducible exact ih2 _ _ _ _ _)
      | (with_reducible exact ih3 _ _ _ _ _)
      | (with_reducible exact ih4 _ _ _ _ _)
      | (with_reducible exact ih5 _ _ _ _)
      | (with_reducible exact ih6 _ _ _ _ _)
      | (with_reducible exact ih7 _ _ _ _ _)
      | (with_reducible exact rank_Ints.mono _ _)
      | (with_reducible exact rank_Place.mono _ _ _)
      | (with_reducible exact scarflaw03_known.mono _)
      | (with_reducible exact LeO.refl _)
      | (with_reducible exact LeO.none _)
      | (with_reducible refine LeO.ite ?_ ?_)
      | (with_reducible refine LeO.bind ?_ (fun _ => ?_))
      | exact ih0 _ _ _ _ _
      | exact ih1 _ _ _ _
      | exact ih2 _ _ _ _ _
      | exact ih3 _ _ _ _ _
      | exact ih4 _ _ _ _ _
      | exact ih5 _ _ _ _
      | exact ih6 _ _ _ _ _
      | exact ih7 _ _ _ _ _
      | exact rank_Ints.mono _ _
      | exact rank_Place.mono _ _ _
      | exact scarflaw03_known.mono _
      | exact LeO.none _
      | refine LeO.ite ?_ ?_
      | refine LeO.bind ?_ (fun _ => ?_)
    · intro y0 y1 y2 y3 y4
      unfold scarflaw03_RankPuts.l2
      repeat' first
      | (with_reducible exact ih0 _ _ _ _ _)
      | (with_reducible exact ih1 _ _ _ _)
      | (with_reducible exact ih2 _ _ _ _ _)
      | (with_reducible exact ih3 _ _ _ _ _)
      | (with_reducible exact ih4 _ _ _ _ _)
      | (with_reducible exact ih5 _ _ _ _)
      | (with_reducible exact ih6 _ _ _ _ _)
      | (with_reducible exact ih7 _ _ _ _ _)
      | (with_reducible exact rank_Ints.mono _ _)
      | (with_reducible exact rank_Place.mono _ _ _)
      | (with_reducible exact scarflaw03_known.mono _)
      | (with_reducible exact LeO.refl _)
      | (with_reducible exact LeO.none _)
      | (with_reducible refine LeO.ite ?_ ?_)
      | (with_reducible refine LeO.bind ?_ (fun _ => ?_))
      | exact ih0 _ _ _ _ _
      | exact ih1 _ _ _ _
      | exact ih2 _ _ _ _ _
      | exact ih3 _ _ _ _ _
      | exact ih4 _ _ _ _ _
      | exact ih5 _ _ _ _
      | exact ih6 _ _ _ _ _
      | exact ih7 _ _ _ _ _
      | exact rank_Ints.mono _ _
      | exact rank_Place.mono _ _ _
      | exact scarflaw03_known.mono _
      | exact LeO.none _
      | refine LeO.ite ?_ ?_
      | refine LeO.bind ?_ (fun _ => ?_)
    · intro y0 y1 y2 y3 y4
      unfold scarflaw03_RankPuts.l3
      repeat' first
      | (with_reducible exact ih0 _ _ _ _ _)
      | (with_reducible exact ih1 _ _ _ _)
      | (with_reducible exact ih2 _ _ _ _ _)
      | (with_reducible exact ih3 _ _ _ _ _)
      | (with_reducible exact ih4 _ _ _ _ _)
      | (with_reducible exact ih5 _ _ _ _)
      | (with_reducible exact ih6 _ _ _ _ _)
      | (with_reducible exact ih7 _ _ _ _ _)
      | (with_reducible exact rank_Ints.mono _ _)
      | (with_reducible exact rank_Place.mono _ _ _)
      | (with_reducible exact scarflaw03_known.mono _)
      | (with_reducible exact LeO.refl _)
      | (with_reducible exact LeO.none _)
      | (with_reducible refine LeO.ite ?_ ?_)
      | (with_reducible refine LeO.bind ?_ (fun _ => ?_))
      | exact ih0 _ _ _ _ _
      | exact ih1 _ _ _ _
      | exact ih2 _ _ _ _ _
      | exact ih3 _ _ _ _ _
      | exact ih4 _ _ _ _ _
      | exact ih5 _ _ _ _
      | exact ih6 _ _ _ _ _
      | exact ih7 _ _ _ _ _
      | exact rank_Ints.mono _ _
      | exact rank_Place.mono _ _ _
      | exact scarflaw03_known.mono _
      | exact LeO.none _
      | refine LeO.ite ?_ ?_
      | refine LeO.bind ?_ (fun _ => ?_)
    · intro y0 y1 y2 y3
      unfold scarflaw03_RankPuts.j5
      repeat' first
      | (with_reducible exact ih0 _ _ _ _ _)
      | (with_reducible exact ih1 _ _ _ _)
      | (with_reducible exact ih2 _ _ _ _ _)
      | (with_reducible exact ih3 _ _ _ _ _)
      | (with_reducible exact ih4 _ _ _ _ _)
      | (with_reducible exact ih5 _ _ _ _)
      | (with_reducible exact ih6 _ _ _ _ _)
      | (with_reducible exact ih7 _ _ _ _ _)
      | (with_reducible exact rank_Ints.mono _ _)
      | (with_reducible exact rank_Place.mono _ _ _)
      | (with_reducible exact scarflaw03_known.mono _)
      | (with_reducible exact LeO.refl _)
      | (with_reducible exact LeO.none _)
      | (with_reducible refine LeO.ite ?_ ?_)
      | (with_reducible refine LeO.bind ?_ (fun _ => ?_))
      | exact ih0 _ _ _ _ _
      | exact ih1 _ _ _ _
      | exact ih2 _ _ _ _ _
      | exact ih3 _ _ _ _ _
      | exact ih4 _ _ _ _ _
      | exact ih5 _ _ _ _
      | exact ih6 _ _ _ _ _
      | exact ih7 _ _ _ _ _
      | exact rank_Ints.mono _ _
      | exact rank_Place.mono _ _ _
      | exact scarflaw03_known.mono _
      | exact LeO.none _
      | refine LeO.ite ?_ ?_
      | refine LeO.bind ?_ (fun _ => ?_)
    · intro y0 y1 y2 y3 y4
      unfold scarflaw03_RankPuts.l4
      repeat' first
      | (with_reducible exact ih0 _ _ _ _ _)
      | (with_reducible exact ih1 _ _ _ _)
      | (with_reducible exact ih2 _ _ _ _ _)
      | (with_reducible exact ih3 _ _ _ _ _)
      | (with_reducible exact ih4 _ _ _ _ _)
      | (with_reducible exact ih5 _ _ _ _)
      | (with_reducible exact ih6 _ _ _ _ _)
      | (with_reducible exact ih7 _ _ _ _ _)
      | (with_reducible exact rank_Ints.mono _ _)
      | (with_reducible exact rank_Place.mono _ _ _)
      | (with_reducible exact scarflaw03_known.mono _)
      | (with_reducible exact LeO.refl _)
      | (with_reducible exact LeO.none _)
      | (with_reducible refine LeO.ite ?_ ?_)
      | (with_reducible refine LeO.bind ?_ (fun _ => ?_))
      | exact ih0 _ _ _ _ _
      | exact ih1 _ _ _ _
      | exact ih2 _ _ _ _ _
      | exact ih3 _ _ _ _ _
      | exact ih4 _ _ _ _ _
      | exact ih5 _ _ _ _
      | exact ih6 _ _ _ _ _
      | exact ih7 _ _ _ _ _
      | exact rank_Ints.mono _ _
      | exact rank_Place.mono _ _ _
      | exact scarflaw03_known.mono _
      | exact LeO.none _
      | refine LeO.ite ?_ ?_
      | refine LeO.bind ?_ (fun _ => ?_)
    · intro y0 y1 y2 y3 y4
      unfold scarflaw03_RankPuts.l5
      repeat' first
      | (with_reducible exact ih0 _ _ _ _ _)
      | (with_reducible exact ih1 _ _ _ _)
      | (with_reducible exact ih2 _ _ _ _ _)
      | (with_reducible exact ih3 _ _ _ _ _)
      | (with_reducible exact ih4 _ _ _ _ _)
      | (with_reducible exact ih5 _ _ _ _)
      | (with_reducible exact ih6 _ _ _ _ _)
      | (with_reducible exact ih7 _ _ _ _ _)
      | (with_reducible exact rank_Ints.mono _ _)
      | (with_reducible exact rank_Place.mono _ _ _)
      | (with_reducible exact scarflaw03_known.mono _)
      | (with_reducible exact LeO.refl _)
      | (with_reducible exact LeO.none _)
      | (with_reducible refine LeO.ite ?_ ?_)
      | (with_reducible refine LeO.bind ?_ (fun _ => ?_))
      | exact ih0 _ _ _ _ _
      | exact ih1 _ _ _ _
      | exact ih2 _ _ _ _ _
      | exact ih3 _ _ _ _ _
      | exact ih4 _ _ _ _ _
      | exact ih5 _ _ _ _
      | exact ih6 _ _ _ _ _
      | exact ih7 _ _ _ _ _
      | exact rank_Ints.mono _ _
      | exact rank_Place.mono _ _ _
      | exact scarflaw03_known.mono _
      | exact LeO.none _
      | refine LeO.ite ?_ ?_
      | refine LeO.bind ?_ (fun _ => ?_)
theorem scarflaw03_RankPuts.mono : ∀ a0 a1 k, LeO (scarflaw03_RankPuts.f k a0 a1) (scarflaw03_RankPuts.f (k + 1) a0 a1) := by
  intro a0 a1 k
  obtain ⟨ih0, ih1, ih2, ih3, ih4, ih5, ih6, ih7⟩ := scarflaw03_RankPuts.mono_l k
  unfold scarflaw03_RankPuts.f
  repeat' first
      | (with_reducible exact ih0 _ _ _ _ _)
      | (with_reducible exact ih1 _ _ _ _)
      | (with_reducible exact ih2 _ _ _ _ _)
      | (with_reducible exact ih3 _ _ _ _ _)
      | (with_reducible exact ih4 _ _ _ _ _)
      | (with_reducible exact ih5 _ _ _ _)
      | (with_reducible exact ih6 _ _ _ _ _)
      | (with_reducible exact ih7 _ _ _ _ _)
      | (with_reducible exact rank_Ints.mono _ _)
      | (with_reducible exact rank_Place.mono _ _ _)
      | (with_reducible exact scarflaw03_known.mono _)
      | (with_reducible exact LeO.refl _)
      | (with_reducible exact LeO.none _)
      | (with_reducible refine LeO.ite ?_ ?_)
      | (with_reducible refine LeO.bind ?_ (fun _ => ?_))
      | exact ih0 _ _ _ _ _
      | exact ih1 _ _ _ _
      | exact ih2 _ _ _ _ _
      | exact ih3 _ _ _ _ _
      | exact ih4 _ _ _ _ _
      | exact ih5 _ _ _ _
      | exact ih6 _ _ _ _ _
      | exact ih7 _ _ _ _ _
      | exact rank_Ints.mono _ _
      | exact rank_Place.mono _ _ _
      | exact scarflaw03_known.mono _
      | exact LeO.none _
      | refine LeO.ite ?_ ?_
      | refine LeO.bind ?_ (fun _ => ?_)
def scarflaw03_RankPuts.T14 : Bool × List (List Nat × List Nat) := (true, [([], []), ([], []), ([], []), ([1, 2], [1, 2]), ([0, 3], [0, 3]), ([], []), ([5], [5]), ([4, 6, 4], [4, 6]), ([], []), ([], []), ([8, 9], [8, 9]), ([7, 10, 7], [7, 10]), ([11, 11, 0, 1, 2, 3, 4, 5, 6, 7, 8, 9, 10, 11], [11])])
def scarflaw03_RankPuts.B14 : List Nat := [0, 0, 0, 6, 15, 0, 32, 127, 0, 0, 768, 2047, 4095]
theorem scarflaw03_RankPuts.tab14 : rtab .any (opsOf Try.f7 14) = scarflaw03_RankPuts.T14 := by kernel_rfl
theorem scarflaw03_RankPuts.bits14 : waitsOk scarflaw03_RankPuts.T14.2 scarflaw03_RankPuts.B14 = true := by kernel_rfl
def scarflaw03_RankPuts.T18 : Bool × List (List Nat × List Nat) := (true, [([], []), ([], []), ([1], [1]), ([0, 2], [0, 2]), ([3], [3]), ([], []), ([], []), ([5, 6], [5, 6]), ([7], [7]), ([4, 8], [4, 8])])
def scarflaw03_RankPuts.B18 : List Nat := [0, 0, 2, 7, 15, 0, 0, 96, 224, 511]
theorem scarflaw03_RankPuts.tab18 : rtab .any (opsOf Try.f7 18) = scarflaw03_RankPuts.T18 := by kernel_rfl
theorem scarflaw03_RankPuts.bits18 : waitsOk scarflaw03_RankPuts.T18.2 scarflaw03_RankPuts.B18 = true := by kernel_rfl
end Go.Proofs.Ytlpopkknamigoaa.Q
