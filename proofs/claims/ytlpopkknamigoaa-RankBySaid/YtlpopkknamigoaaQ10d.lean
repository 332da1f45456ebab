-- Written by this repo's pp.py (the kit's print program with additions).
import Derived.Test.YtlpopkknamigoaaQ0
import Derived.Test.YtlpopkknamigoaaQ5
import Derived.Test.YtlpopkknamigoaaQ7
import Derived.Test.YtlpopkknamigoaaQ9
namespace Go.Proofs.Ytlpopkknamigoaa.Q
open Go.RowKit Go.Proofs.YtlpopkknamigoaaW.PrintWords Go.Proofs.YtlpopkknamigoaaW.PrintLast Go.Proofs.YtlpopkknamigoaaW.PrintMore
attribute [local go_sem] max2_int min2_int max_two min_two max_three min_three max_four min_four   -- for this text's walks alone
set_option linter.unusedVariables false
set_option linter.unusedSimpArgs false

/-! ### scarflaw03_RankBy: function 5 -/
mutual
def scarflaw03_RankBy.l2 : Nat → List Int → Int → List (S33) → Int → Option (Bool)
  | 0, _, _, _, _ => none
  | k + 1, x0, x1, x5, x6 => if x6 < (x0.length : Int) then (if 0 ≤ x6 then (if (IntKind.u64.wrap (x1)) = 0 then (none) else (if x5.length < 8796093022208 then (scarflaw03_RankBy.l2 k x0 x1 (x5 ++ [(⟨wrap64 (Int.tmod (IntKind.u64.wrap (rd x0 x6)) (IntKind.u64.wrap (x1))), x6⟩ : S33)]) (wrap64 (x6 + 1))) else (none))) else (none)) else ((scarflaw03_pair___RankBy_1.f k x5).bind fun t245 => ((scarflaw03_pair___RankBy_2.f k x5).bind fun t248 => ((scarflaw03_known.f k).bind fun t251 => (if t251 = true then (if (t245.length : Int) = (x5.length : Int) then (scarflaw03_RankBy.j6 k x5 t245 t248 ((t248.length : Int) != (x5.length : Int))) else (scarflaw03_RankBy.j6 k x5 t245 t248 true)) else (scarflaw03_RankBy.j6 k x5 t245 t248 true)))))
def scarflaw03_RankBy.j6 : Nat → List (S33) → List Int → List Int → Bool → Option (Bool)
  | 0, _, _, _, _ => none
  | k + 1, x5, x7, x8, x64 => if x64 = true then (some false) else (if 0 ≤ (x5.length : Int) then (if ((x5.length : Int) : Int).toNat ≤ 281474976710656 then (scarflaw03_RankBy.l3 k x5 x7 x8 (List.replicate ((x5.length : Int) : Int).toNat false) 0) else (none)) else (none))
def scarflaw03_RankBy.l3 : Nat → List (S33) → List Int → List Int → List Bool → Int → Option (Bool)
  | 0, _, _, _, _, _ => none
  | k + 1, x5, x7, x8, x9, x10 => if x10 < (x7.length : Int) then (if 0 ≤ x10 then (if (rd x7 x10) < 0 then (scarflaw03_RankBy.j8 k x5 x7 x8 x9 x10 true) else (if (rd x7 x10) ≥ (x5.length : Int) then (scarflaw03_RankBy.j8 k x5 x7 x8 x9 x10 true) else (if x10 < (x8.length : Int) then (if (rd x8 x10) < 0 then (scarflaw03_RankBy.j8 k x5 x7 x8 x9 x10 true) else (if (rd x8 x10) ≥ (x5.length : Int) then (scarflaw03_RankBy.j8 k x5 x7 x8 x9 x10 true) else (if 0 ≤ (rd x7 x10) then (if (rd x7 x10) < (x9.length : Int) then (scarflaw03_RankBy.j8 k x5 x7 x8 x9 x10 (rdOf false x9 (rd x7 x10))) else (none)) else (none)))) else (none)))) else (none)) else (some true)
def scarflaw03_RankBy.j8 : Nat → List (S33) → List Int → List Int → List Bool → Int → Bool → Option (Bool)
  | 0, _, _, _, _, _, _ => none
  | k + 1, x5, x7, x8, x9, x10, x112 => if x112 = true then (some false) else (if 0 ≤ x10 then (if x10 < (x7.length : Int) then (if 0 ≤ (rd x7 x10) then (if (rd x7 x10) < (x9.length : Int) then ((some (x9.set ((rd x7 x10) : Int).toNat true : List Bool)).bind fun y262 => (if x10 = 0 then (scarflaw03_RankBy.l3 k x5 x7 x8 y262 (wrap64 (x10 + 1))) else (if 0 ≤ (wrap64 (x10 - 1)) then (if (wrap64 (x10 - 1)) < (x7.length : Int) then (if 0 ≤ (rd x7 (wrap64 (x10 - 1))) then (if (rd x7 (wrap64 (x10 - 1))) < (x5.length : Int) then (if (rd x7 x10) < (x5.length : Int) then (if (wrap64 (x10 - 1)) < (x8.length : Int) then (if 0 ≤ (rd x8 (wrap64 (x10 - 1))) then (if (rd x8 (wrap64 (x10 - 1))) < (x5.length : Int) then (if x10 < (x8.length : Int) then (if 0 ≤ (rd x8 x10) then (if (rd x8 x10) < (x5.length : Int) then (if ((rd_T33 x5 (rd x7 (wrap64 (x10 - 1)))).f0) > ((rd_T33 x5 (rd x7 x10)).f0) then (scarflaw03_RankBy.j9 k x5 x7 x8 y262 x10 true) else (if ((rd_T33 x5 (rd x7 (wrap64 (x10 - 1)))).f0) = ((rd_T33 x5 (rd x7 x10)).f0) then (if ((rd_T33 x5 (rd x7 (wrap64 (x10 - 1)))).f1) ≥ ((rd_T33 x5 (rd x7 x10)).f1) then (scarflaw03_RankBy.j9 k x5 x7 x8 y262 x10 true) else (if ((rd_T33 x5 (rd x8 (wrap64 (x10 - 1)))).f0) < ((rd_T33 x5 (rd x8 x10)).f0) then (scarflaw03_RankBy.j9 k x5 x7 x8 y262 x10 true) else (if ((rd_T33 x5 (rd x8 (wrap64 (x10 - 1)))).f0) = ((rd_T33 x5 (rd x8 x10)).f0) then (scarflaw03_RankBy.j9 k x5 x7 x8 y262 x10 (decide (((rd_T33 x5 (rd x8 (wrap64 (x10 - 1)))).f1) ≥ ((rd_T33 x5 (rd x8 x10)).f1)))) else (scarflaw03_RankBy.j9 k x5 x7 x8 y262 x10 false)))) else (if ((rd_T33 x5 (rd x8 (wrap64 (x10 - 1)))).f0) < ((rd_T33 x5 (rd x8 x10)).f0) then (scarflaw03_RankBy.j9 k x5 x7 x8 y262 x10 true) else (if ((rd_T33 x5 (rd x8 (wrap64 (x10 - 1)))).f0) = ((rd_T33 x5 (rd x8 x10)).f0) then (scarflaw03_RankBy.j9 k x5 x7 x8 y262 x10 (decide (((rd_T33 x5 (rd x8 (wrap64 (x10 - 1)))).f1) ≥ ((rd_T33 x5 (rd x8 x10)).f1)))) else (scarflaw03_RankBy.j9 k x5 x7 x8 y262 x10 false))))) else (none)) else (none)) else (none)) else (none)) else (none)) else (none)) else (none)) else (none)) else (none)) else (none)) else (none)))) else (none)) else (none)) else (none)) else (none))
def scarflaw03_RankBy.j9 : Nat → List (S33) → List Int → List Int → List Bool → Int → Bool → Option (Bool)
  | 0, _, _, _, _, _, _ => none
  | k + 1, x5, x7, x8, x9, x10, x190 => if x190 = true then (some false) else (scarflaw03_RankBy.l3 k x5 x7 x8 x9 (wrap64 (x10 + 1)))
end
def scarflaw03_RankBy.f (k : Nat) (l0 : List Int) (a1 : Int) : Option (Bool) := if (l0.length : Int) > 300 then (if 300 ≤ (l0.length : Int) then (scarflaw03_RankBy.l2 k (l0.take 300) (wrap64 (1 + (wrap64 (Int.tmod (IntKind.u64.wrap (a1)) 7)))) ([] : List (S33)) 0) else (none)) else (scarflaw03_RankBy.l2 k l0 (wrap64 (1 + (wrap64 (Int.tmod (IntKind.u64.wrap (a1)) 7)))) ([] : List (S33)) 0)
theorem scarflaw03_RankBy.mono_l : ∀ k, (∀ y0 y1 y2 y3, LeO (scarflaw03_RankBy.l2 k y0 y1 y2 y3) (scarflaw03_RankBy.l2 (k + 1) y0 y1 y2 y3)) ∧ (∀ y0 y1 y2 y3, LeO (scarflaw03_RankBy.j6 k y0 y1 y2 y3) (scarflaw03_RankBy.j6 (k + 1) y0 y1 y2 y3)) ∧ (∀ y0 y1 y2 y3 y4, LeO (scarflaw03_RankBy.l3 k y0 y1 y2 y3 y4) (scarflaw03_RankBy.l3 (k + 1) y0 y1 y2 y3 y4)) ∧ (∀ y0 y1 y2 y3 y4 y5, LeO (scarflaw03_RankBy.j8 k y0 y1 y2 y3 y4 y5) (scarflaw03_RankBy.j8 (k + 1) y0 y1 y2 y3 y4 y5)) ∧ (∀ y0 y1 y2 y3 y4 y5, LeO (scarflaw03_RankBy.j9 k y0 y1 y2 y3 y4 y5) (scarflaw03_RankBy.j9 (k + 1) y0 y1 y2 y3 y4 y5))
  | 0 => ⟨fun _ _ _ _ r h => by simp [scarflaw03_RankBy.l2] at h, fun _ _ _ _ r h => by simp [scarflaw03_RankBy.j6] at h, fun _ _ _ _ _ r h => by simp [scarflaw03_RankBy.l3] at h, fun _ _ _ _ _ _ r h => by simp [scarflaw03_RankBy.j8] at h, fun _ _ _ _ _ _ r h => by simp [scarflaw03_RankBy.j9] at h⟩
  | k + 1 => by
    obtain ⟨ih0, ih1, ih2, ih3, ih4⟩ := scarflaw03_RankBy.mono_l k
    refine ⟨?_, ?_, ?_, ?_, ?_⟩
    · intro y0 y1 y2 y3
      unfold scarflaw03_RankBy.l2
      repeat' first
      | (with_reducible exact ih0 _ _ _ _)
      | (with_reducible exact ih1 _ _ _ _)
      | (with_reducible exact ih2 _ _ _ _ _)
      | (with_reducible exact ih3 _ _ _ _ _ _)
      | (with_reducible exact ih4 _ _ _ _ _ _)
      | (with_reducible exact scarflaw03_known.mono _)
      | (with_reducible exact scarflaw03_pair___RankBy_1.mono _ _)
      | (with_reducible exact scarflaw03_pair___RankBy_2.mono _ _)
      | (with_reducible exact LeO.refl _)
      | (with_reducible exact LeO.none _)
      | (with_reducible refine LeO.ite ?_ ?_)
      | (with_reducible refine LeO.bind ?_ (fun _ => ?_))
      | exact ih0 _ _ _ _
      | exact ih1 _ _ _ _
      | exact ih2 _ _ _ _ _
      | exact ih3 _ _ _ _ _ _
      | exact ih4 _ _ _ _ _ _
      | exact scarflaw03_known.mono _
      | exact scarflaw03_pair___RankBy_1.mono _ _
      | exact scarflaw03_pair___RankBy_2.mono _ _
      | exact LeO.none _
      | refine LeO.ite ?_ ?_
      | refine LeO.bind ?_ (fun _ => ?_)
    · intro y0 y1 y2 y3
      unfold scarflaw03_RankBy.j6
      repeat' first
      | (with_reducible exact ih0 _ _ _ _)
      | (with_reducible exact ih1 _ _ _ _)
      | (with_reducible exact ih2 _ _ _ _ _)
      | (with_reducible exact ih3 _ _ _ _ _ _)
      | (with_reducible exact ih4 _ _ _ _ _ _)
      | (with_reducible exact scarflaw03_known.mono _)
      | (with_reducible exact scarflaw03_pair___RankBy_1.mono _ _)
      | (with_reducible exact scarflaw03_pair___RankBy_2.mono _ _)
      | (with_reducible exact LeO.refl _)
      | (with_reducible exact LeO.none _)
      | (with_reducible refine LeO.ite ?_ ?_)
      | (with_reducible refine LeO.bind ?_ (fun _ => ?_))
      | exact ih0 _ _ _ _
      | exact ih1 _ _ _ _
      | exact ih2 _ _ _ _ _
      | exact ih3 _ _ _ _ _ _
      | exact ih4 _ _ _ _ _ _
      | exact scarflaw03_known.mono _
      | exact scarflaw03_pair___RankBy_1.mono _ _
      | exact scarflaw03_pair___RankBy_2.mono _ _
      | exact LeO.none _
      | refine LeO.ite ?_ ?_
      | refine LeO.bind ?_ (fun _ => ?_)
    · intro y0 y1 y2 y3 y4
      unfold scarflaw03_RankBy.l3
      repeat' first
      | (with_reducible exact ih0 _ _ _ _)
      | (with_reducible exact ih1 _ _ _ _)
      | (with_reducible exact ih2 _ _ _ _ _)
      | (with_reducible exact ih3 _ _ _ _ _ _)
      | (with_reducible exact ih4 _ _ _ _ _ _)
      | (with_reducible exact scarflaw03_known.mono _)
      | (with_reducible exact scarflaw03_pair___RankBy_1.mono _ _)
      | (with_reducible exact scarflaw03_pair___RankBy_2.mono _ _)
      | (with_reducible exact LeO.refl _)
      | (with_reducible exact LeO.none _)
      | (with_reducible refine LeO.ite ?_ ?_)
      | (with_reducible refine LeO.bind ?_ (fun _ => ?_))
      | exact ih0 _ _ _ _
      | exact ih1 _ _ _ _
      | exact ih2 _ _ _ _ _
      | exact ih3 _ _ _ _ _ _
      | exact ih4 _ _ _ _ _ _
      | exact scarflaw03_known.mono _
      | exact scarflaw03_pair___RankBy_1.mono _ _
      | exact scarflaw03_pair___RankBy_2.mono _ _
      | exact LeO.none _
      | refine LeO.ite ?_ ?_
      | refine LeO.bind ?_ (fun _ => ?_)
    · intro y0 y1 y2 y3 y4 y5
      unfold scarflaw03_RankBy.j8
      repeat' first
      | (with_reducible exact ih0 _ _ _ _)
      | (with_reducible exact ih1 _ _ _ _)
      | (with_reducible exact ih2 _ _ _ _ _)
      | (with_reducible exact ih3 _ _ _ _ _ _)
      | (with_reducible exact ih4 _ _ _ _ _ _)
      | (with_reducible exact scarflaw03_known.mono _)
      | (with_reducible exact scarflaw03_pair___RankBy_1.mono _ _)
      | (with_reducible exact scarflaw03_pair___RankBy_2.mono _ _)
      | (with_reducible exact LeO.refl _)
      | (with_reducible exact LeO.none _)
      | (with_reducible refine LeO.ite ?_ ?_)
      | (with_reducible refine LeO.bind ?_ (fun _ => ?_))
      | exact ih0 _ _ _ _
      | exact ih1 _ _ _ _
      | exact ih2 _ _ _ _ _
      | exact ih3 _ _ _ _ _ _
      | exact ih4 _ _ _ _ _ _
      | exact scarflaw03_known.mono _
      | exact scarflaw03_pair___RankBy_1.mono _ _
      | exact scarflaw03_pair___RankBy_2.mono _ _
      | exact LeO.none _
      | refine LeO.ite ?_ ?_
      | refine LeO.bind ?_ (fun _ => ?_)
    · intro y0 y1 y2 y3 y4 y5
      unfold scarflaw03_RankBy.j9
      repeat' first
      | (with_reducible exact ih0 _ _ _ _)
      | (with_reducible exact ih1 _ _ _ _)
      | (with_reducible exact ih2 _ _ _ _ _)
      | (with_reducible exact ih3 _ _ _ _ _ _)
      | (with_reducible exact ih4 _ _ _ _ _ _)
      | (with_reducible exact scarflaw03_known.mono _)
      | (with_reducible exact scarflaw03_pair___RankBy_1.mono _ _)
      | (with_reducible exact scarflaw03_pair___RankBy_2.mono _ _)
      | (with_reducible exact LeO.refl _)
      | (with_reducible exact LeO.none _)
      | (with_reducible refine LeO.ite ?_ ?_)
      | (with_reducible refine LeO.bind ?_ (fun _ => ?_))
      | exact ih0 _ _ _ _
      | exact ih1 _ _ _ _
      | exact ih2 _ _ _ _ _
      | exact ih3 _ _ _ _ _ _
      | exact ih4 _ _ _ _ _ _
      | exact scarflaw03_known.mono _
      | exact scarflaw03_pair___RankBy_1.mono _ _
      | exact scarflaw03_pair___RankBy_2.mono _ _
      | exact LeO.none _
      | refine LeO.ite ?_ ?_
      | refine LeO.bind ?_ (fun _ => ?_)
theorem scarflaw03_RankBy.mono : ∀ a0 a1 k, LeO (scarflaw03_RankBy.f k a0 a1) (scarflaw03_RankBy.f (k + 1) a0 a1) := by
  intro a0 a1 k
  obtain ⟨ih0, ih1, ih2, ih3, ih4⟩ := scarflaw03_RankBy.mono_l k
  unfold scarflaw03_RankBy.f
  repeat' first
      | (with_reducible exact ih0 _ _ _ _)
      | (with_reducible exact ih1 _ _ _ _)
      | (with_reducible exact ih2 _ _ _ _ _)
      | (with_reducible exact ih3 _ _ _ _ _ _)
      | (with_reducible exact ih4 _ _ _ _ _ _)
      | (with_reducible exact scarflaw03_known.mono _)
      | (with_reducible exact scarflaw03_pair___RankBy_1.mono _ _)
      | (with_reducible exact scarflaw03_pair___RankBy_2.mono _ _)
      | (with_reducible exact LeO.refl _)
      | (with_reducible exact LeO.none _)
      | (with_reducible refine LeO.ite ?_ ?_)
      | (with_reducible refine LeO.bind ?_ (fun _ => ?_))
      | exact ih0 _ _ _ _
      | exact ih1 _ _ _ _
      | exact ih2 _ _ _ _ _
      | exact ih3 _ _ _ _ _ _
      | exact ih4 _ _ _ _ _ _
      | exact scarflaw03_known.mono _
      | exact scarflaw03_pair___RankBy_1.mono _ _
      | exact scarflaw03_pair___RankBy_2.mono _ _
      | exact LeO.none _
      | refine LeO.ite ?_ ?_
      | refine LeO.bind ?_ (fun _ => ?_)
def scarflaw03_RankBy.T21 : Bool × List (List Nat × List Nat) := (true, [([], []), ([], []), ([], []), ([2], [2]), ([1, 3], [1, 3]), ([4], [4]), ([0, 5], [0, 5]), ([6], [6]), ([], []), ([], []), ([], []), ([9, 10], [9, 10]), ([11], [11]), ([8, 12], [8, 12]), ([13], [13]), ([], []), ([], []), ([15, 7, 0, 1, 2, 3, 4, 5, 6, 7, 15, 16], [7, 15]), ([16, 14, 17, 0, 1, 2, 3, 4, 5, 6, 7, 8, 9, 10, 11, 12, 13, 14, 15, 16, 17], [14, 16])])
def scarflaw03_RankBy.B21 : List Nat := [0, 0, 0, 4, 14, 30, 63, 127, 0, 0, 0, 1536, 3584, 7936, 16128, 0, 0, 98559, 262143]
theorem scarflaw03_RankBy.tab21 : rtab .any (opsOf Try.f5 21) = scarflaw03_RankBy.T21 := by kernel_rfl
theorem scarflaw03_RankBy.bits21 : waitsOk scarflaw03_RankBy.T21.2 scarflaw03_RankBy.B21 = true := by kernel_rfl
def scarflaw03_RankBy.T22 : Bool × List (List Nat × List Nat) := (true, [([], []), ([], []), ([], []), ([2], [2]), ([1, 3], [1, 3]), ([4], [4]), ([0, 5], [0, 5]), ([6], [6]), ([], []), ([], []), ([], []), ([9, 10], [9, 10]), ([11], [11]), ([8, 12], [8, 12]), ([13], [13]), ([], []), ([], []), ([15, 7, 0, 1, 2, 3, 4, 5, 6, 7, 15, 16], [7, 15]), ([16, 14, 17, 0, 1, 2, 3, 4, 5, 6, 7, 8, 9, 10, 11, 12, 13, 14, 15, 16, 17], [14, 16])])
def scarflaw03_RankBy.B22 : List Nat := [0, 0, 0, 4, 14, 30, 63, 127, 0, 0, 0, 1536, 3584, 7936, 16128, 0, 0, 98559, 262143]
theorem scarflaw03_RankBy.tab22 : rtab .any (opsOf Try.f5 22) = scarflaw03_RankBy.T22 := by kernel_rfl
theorem scarflaw03_RankBy.bits22 : waitsOk scarflaw03_RankBy.T22.2 scarflaw03_RankBy.B22 = true := by kernel_rfl
end Go.Proofs.Ytlpopkknamigoaa.Q
