-- Written by this repo's pp.py (the kit's print program with additions).
import Derived.Test.YtdekcmaakdpmaaaQ0
import Derived.Test.YtdekcmaakdpmaaaQ1
import Derived.Test.YtdekcmaakdpmaaaQ2
import Derived.Test.YtdekcmaakdpmaaaQ3
namespace Go.Proofs.Ytdekcmaakdpmaaa.Q
open Go.RowKit Go.Proofs.YtdekcmaakdpmaaaW.PrintWords Go.Proofs.YtdekcmaakdpmaaaW.PrintLast Go.Proofs.YtdekcmaakdpmaaaW.PrintMore
attribute [local go_sem] max2_int min2_int max_two min_two max_three min_three max_four min_four   -- for this text's walks alone
set_option linter.unusedVariables false
set_option linter.unusedSimpArgs false

/-! ### scarflaw02_LineSplits: function 3 -/
mutual
def scarflaw02_LineSplits.j0 : Nat → List Int → ByteArray → List (List Int) → List Int → List Int → Bool → Option (Bool)
  | 0, _, _, _, _, _, _ => none
  | k + 1, x0, x3, x4, x5, x6, x35 => if x35 = true then (some false) else (scarflaw02_LineSplits.l0 k x0 x3 x4 x5 x6 0)
def scarflaw02_LineSplits.l0 : Nat → List Int → ByteArray → List (List Int) → List Int → List Int → Int → Option (Bool)
  | 0, _, _, _, _, _, _ => none
  | k + 1, x0, x3, x4, x5, x6, x7 => if x7 < (x5.length : Int) then (if 0 ≤ x7 then (if x7 < (x6.length : Int) then (if (rd x5 x7) = (rd x6 x7) then (scarflaw02_LineSplits.l0 k x0 x3 x4 x5 x6 (wrap64 (x7 + 1))) else (some false)) else (none)) else (none)) else (scarflaw02_LineSplits.l1 k x0 x3 x4 0)
def scarflaw02_LineSplits.l1 : Nat → List Int → ByteArray → List (List Int) → Int → Option (Bool)
  | 0, _, _, _, _ => none
  | k + 1, x0, x3, x4, x8 => if x8 < (x4.length : Int) then (scarflaw02_LineSplits.l2 k x0 x3 x4 x8 0) else (some ((strOfNums x0).toList == x3.toList))
def scarflaw02_LineSplits.l2 : Nat → List Int → ByteArray → List (List Int) → Int → Int → Option (Bool)
  | 0, _, _, _, _, _ => none
  | k + 1, x0, x3, x4, x8, x9 => if 0 ≤ x8 then (if x8 < (x4.length : Int) then (if x9 < ((rd_L2 x4 x8).length : Int) then (if 0 ≤ x9 then (scarflaw02_LineSplits.l2 k x0 x3 (x4.set (x8 : Int).toNat ((rd_L2 x4 x8).set (x9 : Int).toNat (Go.bits .xor .u8 (rd (rd_L2 x4 x8) x9) 255))) x8 (wrap64 (x9 + 1))) else (none)) else (scarflaw02_LineSplits.l1 k x0 x3 x4 (wrap64 (x8 + 1)))) else (none)) else (none)
end
def scarflaw02_LineSplits.f (k : Nat) (l0 : List Int) : Option (Bool) := (some (l0.take 20000 : List Int)).bind fun y121 => ((line_Split.f y121).bind fun t125 => ((line_Starts.f y121).bind fun t128 => ((scarfref02_Starts.f k y121).bind fun t131 => ((scarflaw02_known.f).bind fun t134 => (if t134 = true then ((scarfref02_Split.f k y121).bind fun t135 => ((scarfref02_Same.f k t125 t135).bind fun t138 => (if t138 = true then (scarflaw02_LineSplits.j0 k y121 (strOfNums y121) t125 t128 t131 ((t128.length : Int) != (t131.length : Int))) else (scarflaw02_LineSplits.j0 k y121 (strOfNums y121) t125 t128 t131 true)))) else (scarflaw02_LineSplits.j0 k y121 (strOfNums y121) t125 t128 t131 true))))))
theorem scarflaw02_LineSplits.mono_l : ∀ k, (∀ y0 y1 y2 y3 y4 y5, LeO (scarflaw02_LineSplits.j0 k y0 y1 y2 y3 y4 y5) (scarflaw02_LineSplits.j0 (k + 1) y0 y1 y2 y3 y4 y5)) ∧ (∀ y0 y1 y2 y3 y4 y5, LeO (scarflaw02_LineSplits.l0 k y0 y1 y2 y3 y4 y5) (scarflaw02_LineSplits.l0 (k + 1) y0 y1 y2 y3 y4 y5)) ∧ (∀ y0 y1 y2 y3, LeO (scarflaw02_LineSplits.l1 k y0 y1 y2 y3) (scarflaw02_LineSplits.l1 (k + 1) y0 y1 y2 y3)) ∧ (∀ y0 y1 y2 y3 y4, LeO (scarflaw02_LineSplits.l2 k y0 y1 y2 y3 y4) (scarflaw02_LineSplits.l2 (k + 1) y0 y1 y2 y3 y4))
  | 0 => ⟨fun _ _ _ _ _ _ r h => by simp [scarflaw02_LineSplits.j0] at h, fun _ _ _ _ _ _ r h => by simp [scarflaw02_LineSplits.l0] at h, fun _ _ _ _ r h => by simp [scarflaw02_LineSplits.l1] at h, fun _ _ _ _ _ r h => by simp [scarflaw02_LineSplits.l2] at h⟩
  | k + 1 => by
    obtain ⟨ih0, ih1, ih2, ih3⟩ := scarflaw02_LineSplits.mono_l k
    refine ⟨?_, ?_, ?_, ?_⟩
    · intro y0 y1 y2 y3 y4 y5
      unfold scarflaw02_LineSplits.j0
      repeat' first
      | (with_reducible exact ih0 _ _ _ _ _ _)
      | (with_reducible exact ih1 _ _ _ _ _ _)
      | (with_reducible exact ih2 _ _ _ _)
      | (with_reducible exact ih3 _ _ _ _ _)
      | (with_reducible exact scarfref02_Same.mono _ _ _)
      | (with_reducible exact scarfref02_Split.mono _ _)
      | (with_reducible exact scarfref02_Starts.mono _ _)
      | (with_reducible exact LeO.refl _)
      | (with_reducible exact LeO.none _)
      | (with_reducible refine LeO.ite ?_ ?_)
      | (with_reducible refine LeO.bind ?_ (fun _ => ?_))
      | exact ih0 _ _ _ _ _ _
      | exact ih1 _ _ _ _ _ _
      | exact ih2 _ _ _ _
      | exact ih3 _ _ _ _ _
      | exact scarfref02_Same.mono _ _ _
      | exact scarfref02_Split.mono _ _
      | exact scarfref02_Starts.mono _ _
      | exact LeO.none _
      | refine LeO.ite ?_ ?_
      | refine LeO.bind ?_ (fun _ => ?_)
    · intro y0 y1 y2 y3 y4 y5
      unfold scarflaw02_LineSplits.l0
      repeat' first
      | (with_reducible exact ih0 _ _ _ _ _ _)
      | (with_reducible exact ih1 _ _ _ _ _ _)
      | (with_reducible exact ih2 _ _ _ _)
      | (with_reducible exact ih3 _ _ _ _ _)
      | (with_reducible exact scarfref02_Same.mono _ _ _)
      | (with_reducible exact scarfref02_Split.mono _ _)
      | (with_reducible exact scarfref02_Starts.mono _ _)
      | (with_reducible exact LeO.refl _)
      | (with_reducible exact LeO.none _)
      | (with_reducible refine LeO.ite ?_ ?_)
      | (with_reducible refine LeO.bind ?_ (fun _ => ?_))
      | exact ih0 _ _ _ _ _ _
      | exact ih1 _ _ _ _ _ _
      | exact ih2 _ _ _ _
      | exact ih3 _ _ _ _ _
      | exact scarfref02_Same.mono _ _ _
      | exact scarfref02_Split.mono _ _
      | exact scarfref02_Starts.mono _ _
      | exact LeO.none _
      | refine LeO.ite ?_ ?_
      | refine LeO.bind ?_ (fun _ => ?_)
    · intro y0 y1 y2 y3
      unfold scarflaw02_LineSplits.l1
      repeat' first
      | (with_reducible exact ih0 _ _ _ _ _ _)
      | (with_reducible exact ih1 _ _ _ _ _ _)
      | (with_reducible exact ih2 _ _ _ _)
      | (with_reducible exact ih3 _ _ _ _ _)
      | (with_reducible exact scarfref02_Same.mono _ _ _)
      | (with_reducible exact scarfref02_Split.mono _ _)
      | (with_reducible exact scarfref02_Starts.mono _ _)
      | (with_reducible exact LeO.refl _)
      | (with_reducible exact LeO.none _)
      | (with_reducible refine LeO.ite ?_ ?_)
      | (with_reducible refine LeO.bind ?_ (fun _ => ?_))
      | exact ih0 _ _ _ _ _ _
      | exact ih1 _ _ _ _ _ _
      | exact ih2 _ _ _ _
      | exact ih3 _ _ _ _ _
      | exact scarfref02_Same.mono _ _ _
      | exact scarfref02_Split.mono _ _
      | exact scarfref02_Starts.mono _ _
      | exact LeO.none _
      | refine LeO.ite ?_ ?_
      | refine LeO.bind ?_ (fun _ => ?_)
    · intro y0 y1 y2 y3 y4
      unfold scarflaw02_LineSplits.l2
      repeat' first
      | (with_reducible exact ih0 _ _ _ _ _ _)
      | (with_reducible exact ih1 _ _ _ _ _ _)
      | (with_reducible exact ih2 _ _ _ _)
      | (with_reducible exact ih3 _ _ _ _ _)
      | (with_reducible exact scarfref02_Same.mono _ _ _)
      | (with_reducible exact scarfref02_Split.mono _ _)
      | (with_reducible exact scarfref02_Starts.mono _ _)
      | (with_reducible exact LeO.refl _)
      | (with_reducible exact LeO.none _)
      | (with_reducible refine LeO.ite ?_ ?_)
      | (with_reducible refine LeO.bind ?_ (fun _ => ?_))
      | exact ih0 _ _ _ _ _ _
      | exact ih1 _ _ _ _ _ _
      | exact ih2 _ _ _ _
      | exact ih3 _ _ _ _ _
      | exact scarfref02_Same.mono _ _ _
      | exact scarfref02_Split.mono _ _
      | exact scarfref02_Starts.mono _ _
      | exact LeO.none _
      | refine LeO.ite ?_ ?_
      | refine LeO.bind ?_ (fun _ => ?_)
theorem scarflaw02_LineSplits.mono : ∀ a0 k, LeO (scarflaw02_LineSplits.f k a0) (scarflaw02_LineSplits.f (k + 1) a0) := by
  intro a0 k
  obtain ⟨ih0, ih1, ih2, ih3⟩ := scarflaw02_LineSplits.mono_l k
  unfold scarflaw02_LineSplits.f
  repeat' first
      | (with_reducible exact ih0 _ _ _ _ _ _)
      | (with_reducible exact ih1 _ _ _ _ _ _)
      | (with_reducible exact ih2 _ _ _ _)
      | (with_reducible exact ih3 _ _ _ _ _)
      | (with_reducible exact scarfref02_Same.mono _ _ _)
      | (with_reducible exact scarfref02_Split.mono _ _)
      | (with_reducible exact scarfref02_Starts.mono _ _)
      | (with_reducible exact LeO.refl _)
      | (with_reducible exact LeO.none _)
      | (with_reducible refine LeO.ite ?_ ?_)
      | (with_reducible refine LeO.bind ?_ (fun _ => ?_))
      | exact ih0 _ _ _ _ _ _
      | exact ih1 _ _ _ _ _ _
      | exact ih2 _ _ _ _
      | exact ih3 _ _ _ _ _
      | exact scarfref02_Same.mono _ _ _
      | exact scarfref02_Split.mono _ _
      | exact scarfref02_Starts.mono _ _
      | exact LeO.none _
      | refine LeO.ite ?_ ?_
      | refine LeO.bind ?_ (fun _ => ?_)
set_option maxHeartbeats 8000000 in
set_option maxRecDepth 100000 in
theorem scarflaw02_LineSplits.calls (k : Nat) (A0 : Option Addr) (c0 : Nat) (l0 : List Int) (r : Bool) (w : World) (hr0 : Kd.C (Kd.int .u8) w A0 l0.length l0) (hc0 : l0.length ≤ c0) (h : scarflaw02_LineSplits.f k l0 = some r) :
    Calls Try.prog 3 #[.slice A0 l0.length c0] w fun e w' => e = .returned (.bool r) ∧ Below w.heap.size w w' := by
  have HR0 := Aside0.mk hr0
  have HC0 := Aside0.mk hc0
  clear hr0 hc0
  have HB := Aside0.mk (Below.refl w.heap.size w)
  have H : ((some (l0.take 20000 : List Int)).bind fun y121 => ((line_Split.f y121).bind fun t125 => ((line_Starts.f y121).bind fun t128 => ((scarfref02_Starts.f k y121).bind fun t131 => ((scarflaw02_known.f).bind fun t134 => (if t134 = true then ((scarfref02_Split.f k y121).bind fun t135 => ((scarfref02_Same.f k t125 t135).bind fun t138 => (if t138 = true then (scarflaw02_LineSplits.j0 k y121 (strOfNums y121) t125 t128 t131 ((t128.length : Int) != (t131.length : Int))) else (scarflaw02_LineSplits.j0 k y121 (strOfNums y121) t125 t128 t131 true)))) else (scarflaw02_LineSplits.j0 k y121 (strOfNums y121) t125 t128 t131 true))))))) = some r := h
  clear h
  obtain ⟨y121, hy121⟩ : ∃ y_ : List Int, y_ = (l0.take 20000) := ⟨_, rfl⟩
  replace H : ((line_Split.f y121).bind fun t125 => ((line_Starts.f y121).bind fun t128 => ((scarfref02_Starts.f k y121).bind fun t131 => ((scarflaw02_known.f).bind fun t134 => (if t134 = true then ((scarfref02_Split.f k y121).bind fun t135 => ((scarfref02_Same.f k t125 t135).bind fun t138 => (if t138 = true then (scarflaw02_LineSplits.j0 k y121 (strOfNums y121) t125 t128 t131 ((t128.length : Int) != (t131.length : Int))) else (scarflaw02_LineSplits.j0 k y121 (strOfNums y121) t125 t128 t131 true)))) else (scarflaw02_LineSplits.j0 k y121 (strOfNums y121) t125 t128 t131 true)))))) = some r := by first | (rw [hy121]; with_reducible exact H) | (have H2_ := (Option.bind_some _ _).symm.trans H; rw [hy121]; with_reducible exact H2_) | (have H2_ := (Option.bind_some _ _).symm.trans H; with_reducible exact H2_) | with_reducible exact H | (rw [hy121]; exact H) | exact H
  have Ny121 := Aside0.mk hy121
  clear hy121
  replace H := Option.bind_eq_some_iff.mp H
  obtain ⟨t125, A20, H⟩ := H
  replace H : ((line_Starts.f y121).bind fun t128 => ((scarfref02_Starts.f k y121).bind fun t131 => ((scarflaw02_known.f).bind fun t134 => (if t134 = true then ((scarfref02_Split.f k y121).bind fun t135 => ((scarfref02_Same.f k t125 t135).bind fun t138 => (if t138 = true then (scarflaw02_LineSplits.j0 k y121 (strOfNums y121) t125 t128 t131 ((t128.length : Int) != (t131.length : Int))) else (scarflaw02_LineSplits.j0 k y121 (strOfNums y121) t125 t128 t131 true)))) else (scarflaw02_LineSplits.j0 k y121 (strOfNums y121) t125 t128 t131 true))))) = some r := H
  have A2 := Aside0.mk A20
  clear A20
  replace H := Option.bind_eq_some_iff.mp H
  obtain ⟨t128, A30, H⟩ := H
  replace H : ((scarfref02_Starts.f k y121).bind fun t131 => ((scarflaw02_known.f).bind fun t134 => (if t134 = true then ((scarfref02_Split.f k y121).bind fun t135 => ((scarfref02_Same.f k t125 t135).bind fun t138 => (if t138 = true then (scarflaw02_LineSplits.j0 k y121 (strOfNums y121) t125 t128 t131 ((t128.length : Int) != (t131.length : Int))) else (scarflaw02_LineSplits.j0 k y121 (strOfNums y121) t125 t128 t131 true)))) else (scarflaw02_LineSplits.j0 k y121 (strOfNums y121) t125 t128 t131 true)))) = some r := H
  have A3 := Aside0.mk A30
  clear A30
  replace H := Option.bind_eq_some_iff.mp H
  obtain ⟨t131, A40, H⟩ := H
  replace H : ((scarflaw02_known.f).bind fun t134 => (if t134 = true then ((scarfref02_Split.f k y121).bind fun t135 => ((scarfref02_Same.f k t125 t135).bind fun t138 => (if t138 = true then (scarflaw02_LineSplits.j0 k y121 (strOfNums y121) t125 t128 t131 ((t128.length : Int) != (t131.length : Int))) else (scarflaw02_LineSplits.j0 k y121 (strOfNums y121) t125 t128 t131 true)))) else (scarflaw02_LineSplits.j0 k y121 (strOfNums y121) t125 t128 t131 true))) = some r := H
  have A4 := Aside0.mk A40
  clear A40
  have HC5 := Aside0.mk H
  clear H
  have hw6 := Kd.few_C (m := 20000) HR0.out HC0.out
  rw [← Ny121.out] at hw6
  have HR124 := Aside0.mk hw6.1
  have HC124 := Aside0.mk hw6.2
  clear hw6
  have hcv7 := Kd.C_string (P := Try.prog) (A := A0) (c := c0) Try.underlying22 Try.underlying5 Try.underlying9 HR124.out
  have hcn7 := fun n_ : Nat => Kd.C_string (P := Try.prog) (A := A0) (c := c0) Try.underlying22 Try.underlying5 Try.underlying9 (Kd.C_drewN HR124.out n_)
  go_enter Try.func3, Try.ntmps3
  go_upto_region 5 with (first | (go_at_call 8; refine (scarflaw02_few.at A0 l0 c0 _ HC0.out y121 Ny121.out).mono ?_; rintro e_ w_ ⟨rfl, rfl⟩) | (go_at_call 9; (with_reducible refine (line_Split.calls _ _ y121 t125 _ ?side1 ?side2 A2.out).mono ?_); (case side1 => repeat (first | exact HR124.out | (with_reducible refine Kd.C_alloc ?_ _) | (with_reducible refine Kd.C_drewN ?_ _) | (with_reducible refine Kd.C_drew ?_))); (case side2 => exact HC124.out); rintro e w8 ⟨v126, rfl, ho0, hb⟩; have n0_ := Aside0.mk (Kd.S_lower ho0 (below_size (by repeat (first | (with_reducible first | exact HB.out | apply below_alloc | apply pw_below_drewN | apply below_drew1) | exact HB.out)))); have n1_ := Aside0.mk (below_step (by repeat (first | (with_reducible first | exact HB.out | apply below_alloc | apply pw_below_drewN | apply below_drew1) | exact HB.out)) hb); clear HB; have HO127 := n0_; have HB := n1_; clear n0_ n1_; (try clear hb); (try clear hb2); (try clear hk); (try clear hi); (try clear ho0)) | (go_at_call 10; (with_reducible refine (line_Starts.calls _ _ y121 t128 _ ?side1 ?side2 A3.out).mono ?_); (case side1 => repeat (first | exact (Kd.C_below HR124.out HB.out) | (with_reducible refine Kd.C_alloc ?_ _) | (with_reducible refine Kd.C_drewN ?_ _) | (with_reducible refine Kd.C_drew ?_))); (case side2 => exact HC124.out); rintro e w9 ⟨v129, rfl, ho0, hb⟩; have n0_ := Aside0.mk (Kd.S_below (by (with_reducible repeat (first | apply Kd.S_alloc | apply Kd.S_drewN | apply Kd.S_drew)); exact HO127.out) hb); have n1_ := Aside0.mk (Kd.R_lower ho0 (below_size (by repeat (first | (with_reducible first | exact HB.out | apply below_alloc | apply pw_below_drewN | apply below_drew1) | exact HB.out)))); have n2_ := Aside0.mk (below_step (by repeat (first | (with_reducible first | exact HB.out | apply below_alloc | apply pw_below_drewN | apply below_drew1) | exact HB.out)) hb); clear HO127; clear HB; have HO127 := n0_; have HO130 := n1_; have HB := n2_; clear n0_ n1_ n2_; (try clear hb); (try clear hb2); (try clear hk); (try clear hi); (try clear ho0)) | (go_at_call 11; (with_reducible refine (scarfref02_Starts.calls k _ _ y121 t131 _ ?side1 ?side2 A4.out).mono ?_); (case side1 => repeat (first | exact (Kd.C_below HR124.out HB.out) | (with_reducible refine Kd.C_alloc ?_ _) | (with_reducible refine Kd.C_drewN ?_ _) | (with_reducible refine Kd.C_drew ?_))); (case side2 => exact HC124.out); rintro e w10 ⟨v132, rfl, ho0, hb⟩; have n0_ := Aside0.mk (Kd.S_below (by (with_reducible repeat (first | apply Kd.S_alloc | apply Kd.S_drewN | apply Kd.S_drew)); exact HO127.out) hb); have n1_ := Aside0.mk (Kd.R_elder' (by (with_reducible repeat (first | apply Kd.R_alloc | apply Kd.R_drewN | apply Kd.R_drew)); exact HO130.out) (Kd.R_base ho0) hb); have n2_ := Aside0.mk (Kd.R_lower (Kd.R_new' ho0 (Kd.R_lt (by (with_reducible repeat (first | apply Kd.R_alloc | apply Kd.R_drewN | apply Kd.R_drew)); exact HO130.out))) (below_size (by repeat (first | (with_reducible first | exact HB.out | apply below_alloc | apply pw_below_drewN | apply below_drew1) | exact HB.out)))); have n3_ := Aside0.mk (below_step (by repeat (first | (with_reducible first | exact HB.out | apply below_alloc | apply pw_below_drewN | apply below_drew1) | exact HB.out)) hb); clear HO127; clear HO130; clear HB; have HO127 := n0_; have HO130 := n1_; have HO133 := n2_; have HB := n3_; clear n0_ n1_ n2_ n3_; (try clear hb); (try clear hb2); (try clear hk); (try clear hi); (try clear ho0)))
  repeat (go_quiet (first | (go_at_call 8; refine (scarflaw02_few.at A0 l0 c0 _ HC0.out y121 Ny121.out).mono ?_; rintro e_ w_ ⟨rfl, rfl⟩) | (go_at_call 9; (with_reducible refine (line_Split.calls _ _ y121 t125 _ ?side1 ?side2 A2.out).mono ?_); (case side1 => repeat (first | exact HR124.out | (with_reducible refine Kd.C_alloc ?_ _) | (with_reducible refine Kd.C_drewN ?_ _) | (with_reducible refine Kd.C_drew ?_))); (case side2 => exact HC124.out); rintro e w8 ⟨v126, rfl, ho0, hb⟩; have n0_ := Aside0.mk (Kd.S_lower ho0 (below_size (by repeat (first | (with_reducible first | exact HB.out | apply below_alloc | apply pw_below_drewN | apply below_drew1) | exact HB.out)))); have n1_ := Aside0.mk (below_step (by repeat (first | (with_reducible first | exact HB.out | apply below_alloc | apply pw_below_drewN | apply below_drew1) | exact HB.out)) hb); clear HB; have HO127 := n0_; have HB := n1_; clear n0_ n1_; (try clear hb); (try clear hb2); (try clear hk); (try clear hi); (try clear ho0)) | (go_at_call 10; (with_reducible refine (line_Starts.calls _ _ y121 t128 _ ?side1 ?side2 A3.out).mono ?_); (case side1 => repeat (first | exact (Kd.C_below HR124.out HB.out) | (with_reducible refine Kd.C_alloc ?_ _) | (with_reducible refine Kd.C_drewN ?_ _) | (with_reducible refine Kd.C_drew ?_))); (case side2 => exact HC124.out); rintro e w9 ⟨v129, rfl, ho0, hb⟩; have n0_ := Aside0.mk (Kd.S_below (by (with_reducible repeat (first | apply Kd.S_alloc | apply Kd.S_drewN | apply Kd.S_drew)); exact HO127.out) hb); have n1_ := Aside0.mk (Kd.R_lower ho0 (below_size (by repeat (first | (with_reducible first | exact HB.out | apply below_alloc | apply pw_below_drewN | apply below_drew1) | exact HB.out)))); have n2_ := Aside0.mk (below_step (by repeat (first | (with_reducible first | exact HB.out | apply below_alloc | apply pw_below_drewN | apply below_drew1) | exact HB.out)) hb); clear HO127; clear HB; have HO127 := n0_; have HO130 := n1_; have HB := n2_; clear n0_ n1_ n2_; (try clear hb); (try clear hb2); (try clear hk); (try clear hi); (try clear ho0)) | (go_at_call 11; (with_reducible refine (scarfref02_Starts.calls k _ _ y121 t131 _ ?side1 ?side2 A4.out).mono ?_); (case side1 => repeat (first | exact (Kd.C_below HR124.out HB.out) | (with_reducible refine Kd.C_alloc ?_ _) | (with_reducible refine Kd.C_drewN ?_ _) | (with_reducible refine Kd.C_drew ?_))); (case side2 => exact HC124.out); rintro e w10 ⟨v132, rfl, ho0, hb⟩; have n0_ := Aside0.mk (Kd.S_below (by (with_reducible repeat (first | apply Kd.S_alloc | apply Kd.S_drewN | apply Kd.S_drew)); exact HO127.out) hb); have n1_ := Aside0.mk (Kd.R_elder' (by (with_reducible repeat (first | apply Kd.R_alloc | apply Kd.R_drewN | apply Kd.R_drew)); exact HO130.out) (Kd.R_base ho0) hb); have n2_ := Aside0.mk (Kd.R_lower (Kd.R_new' ho0 (Kd.R_lt (by (with_reducible repeat (first | apply Kd.R_alloc | apply Kd.R_drewN | apply Kd.R_drew)); exact HO130.out))) (below_size (by repeat (first | (with_reducible first | exact HB.out | apply below_alloc | apply pw_below_drewN | apply below_drew1) | exact HB.out)))); have n3_ := Aside0.mk (below_step (by repeat (first | (with_reducible first | exact HB.out | apply below_alloc | apply pw_below_drewN | apply below_drew1) | exact HB.out)) hb); clear HO127; clear HO130; clear HB; have HO127 := n0_; have HO130 := n1_; have HO133 := n2_; have HB := n3_; clear n0_ n1_ n2_ n3_; (try clear hb); (try clear hb2); (try clear hk); (try clear hi); (try clear ho0))); go_upto_region 5 with (first | (go_at_call 8; refine (scarflaw02_few.at A0 l0 c0 _ HC0.out y121 Ny121.out).mono ?_; rintro e_ w_ ⟨rfl, rfl⟩) | (go_at_call 9; (with_reducible refine (line_Split.calls _ _ y121 t125 _ ?side1 ?side2 A2.out).mono ?_); (case side1 => repeat (first | exact HR124.out | (with_reducible refine Kd.C_alloc ?_ _) | (with_reducible refine Kd.C_drewN ?_ _) | (with_reducible refine Kd.C_drew ?_))); (case side2 => exact HC124.out); rintro e w8 ⟨v126, rfl, ho0, hb⟩; have n0_ := Aside0.mk (Kd.S_lower ho0 (below_size (by repeat (first | (with_reducible first | exact HB.out | apply below_alloc | apply pw_below_drewN | apply below_drew1) | exact HB.out)))); have n1_ := Aside0.mk (below_step (by repeat (first | (with_reducible first | exact HB.out | apply below_alloc | apply pw_below_drewN | apply below_drew1) | exact HB.out)) hb); clear HB; have HO127 := n0_; have HB := n1_; clear n0_ n1_; (try clear hb); (try clear hb2); (try clear hk); (try clear hi); (try clear ho0)) | (go_at_call 10; (with_reducible refine (line_Starts.calls _ _ y121 t128 _ ?side1 ?side2 A3.out).mono ?_); (case side1 => repeat (first | exact (Kd.C_below HR124.out HB.out) | (with_reducible refine Kd.C_alloc ?_ _) | (with_reducible refine Kd.C_drewN ?_ _) | (with_reducible refine Kd.C_drew ?_))); (case side2 => exact HC124.out); rintro e w9 ⟨v129, rfl, ho0, hb⟩; have n0_ := Aside0.mk (Kd.S_below (by (with_reducible repeat (first | apply Kd.S_alloc | apply Kd.S_drewN | apply Kd.S_drew)); exact HO127.out) hb); have n1_ := Aside0.mk (Kd.R_lower ho0 (below_size (by repeat (first | (with_reducible first | exact HB.out | apply below_alloc | apply pw_below_drewN | apply below_drew1) | exact HB.out)))); have n2_ := Aside0.mk (below_step (by repeat (first | (with_reducible first | exact HB.out | apply below_alloc | apply pw_below_drewN | apply below_drew1) | exact HB.out)) hb); clear HO127; clear HB; have HO127 := n0_; have HO130 := n1_; have HB := n2_; clear n0_ n1_ n2_; (try clear hb); (try clear hb2); (try clear hk); (try clear hi); (try clear ho0)) | (go_at_call 11; (with_reducible refine (scarfref02_Starts.calls k _ _ y121 t131 _ ?side1 ?side2 A4.out).mono ?_); (case side1 => repeat (first | exact (Kd.C_below HR124.out HB.out) | (with_reducible refine Kd.C_alloc ?_ _) | (with_reducible refine Kd.C_drewN ?_ _) | (with_reducible refine Kd.C_drew ?_))); (case side2 => exact HC124.out); rintro e w10 ⟨v132, rfl, ho0, hb⟩; have n0_ := Aside0.mk (Kd.S_below (by (with_reducible repeat (first | apply Kd.S_alloc | apply Kd.S_drewN | apply Kd.S_drew)); exact HO127.out) hb); have n1_ := Aside0.mk (Kd.R_elder' (by (with_reducible repeat (first | apply Kd.R_alloc | apply Kd.R_drewN | apply Kd.R_drew)); exact HO130.out) (Kd.R_base ho0) hb); have n2_ := Aside0.mk (Kd.R_lower (Kd.R_new' ho0 (Kd.R_lt (by (with_reducible repeat (first | apply Kd.R_alloc | apply Kd.R_drewN | apply Kd.R_drew)); exact HO130.out))) (below_size (by repeat (first | (with_reducible first | exact HB.out | apply below_alloc | apply pw_below_drewN | apply below_drew1) | exact HB.out)))); have n3_ := Aside0.mk (below_step (by repeat (first | (with_reducible first | exact HB.out | apply below_alloc | apply pw_below_drewN | apply below_drew1) | exact HB.out)) hb); clear HO127; clear HO130; clear HB; have HO127 := n0_; have HO130 := n1_; have HO133 := n2_; have HB := n3_; clear n0_ n1_ n2_ n3_; (try clear hb); (try clear hb2); (try clear hk); (try clear hi); (try clear ho0))))
  (try simp only [Act.put, List.setIfInBounds_toArray, List.set_cons_zero, List.set_cons_succ])
  go_cut [35] (fun v35 wc => ∃ (kq : Nat) (x35_4 : Bool), v35 = .bool x35_4 ∧ Aside0 (scarflaw02_LineSplits.j0 kq y121 (strOfNums y121) t125 t128 t131 x35_4 = some r) ∧ Aside0 (kq ≤ k) ∧ Aside0 (Kd.S (Kd.slice 5 (Kd.int .u8)) 22 wc w.heap.size (fun _ => True) v126 t125) ∧ Aside0 (Kd.R (Kd.int .i64) 3 wc w.heap.size (fun k_ => some k_ ≠ (v132 : Value).ownBlock) v129 t128) ∧ Aside0 (Kd.R (Kd.int .i64) 3 wc w.heap.size (fun k_ => some k_ ≠ (v129 : Value).ownBlock) v132 t131) ∧ Aside0 (Below w.heap.size w wc))
  case first =>
    have H := HC5.out
    clear HC5
    replace H := Option.bind_eq_some_iff.mp H
    obtain ⟨t134, A110, H⟩ := H
    replace H : (if t134 = true then ((scarfref02_Split.f k y121).bind fun t135 => ((scarfref02_Same.f k t125 t135).bind fun t138 => (if t138 = true then (scarflaw02_LineSplits.j0 k y121 (strOfNums y121) t125 t128 t131 ((t128.length : Int) != (t131.length : Int))) else (scarflaw02_LineSplits.j0 k y121 (strOfNums y121) t125 t128 t131 true)))) else (scarflaw02_LineSplits.j0 k y121 (strOfNums y121) t125 t128 t131 true)) = some r := H
    have A11 := Aside0.mk A110
    clear A110
    by_cases c12 : t134 = true
    · subst c12
      have H1 : ((scarfref02_Split.f k y121).bind fun t135 => ((scarfref02_Same.f k t125 t135).bind fun t138 => (if t138 = true then (scarflaw02_LineSplits.j0 k y121 (strOfNums y121) t125 t128 t131 ((t128.length : Int) != (t131.length : Int))) else (scarflaw02_LineSplits.j0 k y121 (strOfNums y121) t125 t128 t131 true)))) = some r := by rw [if_pos rfl] at H; exact H
      clear H
      have H := H1
      clear H1
      replace H := Option.bind_eq_some_iff.mp H
      obtain ⟨t135, A130, H⟩ := H
      replace H : ((scarfref02_Same.f k t125 t135).bind fun t138 => (if t138 = true then (scarflaw02_LineSplits.j0 k y121 (strOfNums y121) t125 t128 t131 ((t128.length : Int) != (t131.length : Int))) else (scarflaw02_LineSplits.j0 k y121 (strOfNums y121) t125 t128 t131 true))) = some r := H
      have A13 := Aside0.mk A130
      clear A130
      replace H := Option.bind_eq_some_iff.mp H
      obtain ⟨t138, A140, H⟩ := H
      replace H : (if t138 = true then (scarflaw02_LineSplits.j0 k y121 (strOfNums y121) t125 t128 t131 ((t128.length : Int) != (t131.length : Int))) else (scarflaw02_LineSplits.j0 k y121 (strOfNums y121) t125 t128 t131 true)) = some r := H
      have A14 := Aside0.mk A140
      clear A140
      by_cases c15 : t138 = true
      · subst c15
        have H1 : (scarflaw02_LineSplits.j0 k y121 (strOfNums y121) t125 t128 t131 ((t128.length : Int) != (t131.length : Int))) = some r := by rw [if_pos rfl] at H; exact H
        clear H
        have H := H1
        clear H1
        have H' := Aside0.mk H
        clear H
        go_wp2_with (first | (go_at_call 12; (with_reducible refine (scarflaw02_known.calls  true _ A11.out).mono ?_); rintro e w16 ⟨rfl, hb⟩; have n0_ := Aside0.mk (Kd.S_below (by (with_reducible repeat (first | apply Kd.S_alloc | apply Kd.S_drewN | apply Kd.S_drew)); exact HO127.out) hb); have n1_ := Aside0.mk (Kd.R_below (by (with_reducible repeat (first | apply Kd.R_alloc | apply Kd.R_drewN | apply Kd.R_drew)); exact HO130.out) hb); have n2_ := Aside0.mk (Kd.R_below (by (with_reducible repeat (first | apply Kd.R_alloc | apply Kd.R_drewN | apply Kd.R_drew)); exact HO133.out) hb); have n3_ := Aside0.mk (below_step (by repeat (first | (with_reducible first | exact HB.out | apply below_alloc | apply pw_below_drewN | apply below_drew1) | exact HB.out)) hb); clear HO127; clear HO130; clear HO133; clear HB; have HO127 := n0_; have HO130 := n1_; have HO133 := n2_; have HB := n3_; clear n0_ n1_ n2_ n3_; (try clear hb); (try clear hb2); (try clear hk); (try clear hi)) | (go_at_call 14; (with_reducible refine (scarfref02_Split.calls k _ _ y121 t135 _ ?side1 ?side2 A13.out).mono ?_); (case side1 => repeat (first | exact (Kd.C_below HR124.out HB.out) | (with_reducible refine Kd.C_alloc ?_ _) | (with_reducible refine Kd.C_drewN ?_ _) | (with_reducible refine Kd.C_drew ?_))); (case side2 => exact HC124.out); rintro e w17 ⟨v136, rfl, ho0, hb⟩; have n0_ := Aside0.mk (Kd.S_elder' (by (with_reducible repeat (first | apply Kd.S_alloc | apply Kd.S_drewN | apply Kd.S_drew)); exact HO127.out) (Kd.S_base ho0) hb); have n1_ := Aside0.mk (Kd.R_below (by (with_reducible repeat (first | apply Kd.R_alloc | apply Kd.R_drewN | apply Kd.R_drew)); exact HO130.out) hb); have n2_ := Aside0.mk (Kd.R_below (by (with_reducible repeat (first | apply Kd.R_alloc | apply Kd.R_drewN | apply Kd.R_drew)); exact HO133.out) hb); have n3_ := Aside0.mk (Kd.S_lower (Kd.S_new' ho0 (Kd.S_lt (by (with_reducible repeat (first | apply Kd.S_alloc | apply Kd.S_drewN | apply Kd.S_drew)); exact HO127.out))) (below_size (by repeat (first | (with_reducible first | exact HB.out | apply below_alloc | apply pw_below_drewN | apply below_drew1) | exact HB.out)))); have n4_ := Aside0.mk (below_step (by repeat (first | (with_reducible first | exact HB.out | apply below_alloc | apply pw_below_drewN | apply below_drew1) | exact HB.out)) hb); clear HO127; clear HO130; clear HO133; clear HB; have HO127 := n0_; have HO130 := n1_; have HO133 := n2_; have HO137 := n3_; have HB := n4_; clear n0_ n1_ n2_ n3_ n4_; (try clear hb); (try clear hb2); (try clear hk); (try clear hi); (try clear ho0); obtain ⟨Ao18, co18, eo18⟩ := Kd.S_slice HO127.out; subst eo18; obtain ⟨Ao19, co19, eo19⟩ := Kd.S_slice HO137.out; subst eo19) | (go_at_call 13; (with_reducible refine (scarfref02_Same.calls k _ _ t125 _ _ t135 true _ ?side1 ?side2 ?side3 ?side4 A14.out).mono ?_); (case side1 => repeat (first | exact (Kd.S_reads' HO127.out).2.2 | (with_reducible refine Kd.C_alloc ?_ _) | (with_reducible refine Kd.C_drewN ?_ _) | (with_reducible refine Kd.C_drew ?_))); (case side2 => exact (Kd.S_reads' HO127.out).2.1); (case side3 => repeat (first | exact (Kd.S_reads' HO137.out).2.2 | (with_reducible refine Kd.C_alloc ?_ _) | (with_reducible refine Kd.C_drewN ?_ _) | (with_reducible refine Kd.C_drew ?_))); (case side4 => exact (Kd.S_reads' HO137.out).2.1); rintro e w' ⟨rfl, ⟨nd, rfl⟩⟩; (try first | exact ⟨rfl, _, World.drewN_drewN _ _ _⟩ | exact ⟨rfl, _, Eq.trans (World.drewN_drewN _ _ _) (congrArg (World.drewN _) (Nat.add_assoc _ _ _))⟩); obtain ⟨Ao20, co20, eo20⟩ := Kd.R_slice HO130.out; subst eo20; obtain ⟨Ao21, co21, eo21⟩ := Kd.R_slice HO133.out; subst eo21))
        repeat (go_quiet (first | (go_at_call 12; (with_reducible refine (scarflaw02_known.calls  true _ A11.out).mono ?_); rintro e w16 ⟨rfl, hb⟩; have n0_ := Aside0.mk (Kd.S_below (by (with_reducible repeat (first | apply Kd.S_alloc | apply Kd.S_drewN | apply Kd.S_drew)); exact HO127.out) hb); have n1_ := Aside0.mk (Kd.R_below (by (with_reducible repeat (first | apply Kd.R_alloc | apply Kd.R_drewN | apply Kd.R_drew)); exact HO130.out) hb); have n2_ := Aside0.mk (Kd.R_below (by (with_reducible repeat (first | apply Kd.R_alloc | apply Kd.R_drewN | apply Kd.R_drew)); exact HO133.out) hb); have n3_ := Aside0.mk (below_step (by repeat (first | (with_reducible first | exact HB.out | apply below_alloc | apply pw_below_drewN | apply below_drew1) | exact HB.out)) hb); clear HO127; clear HO130; clear HO133; clear HB; have HO127 := n0_; have HO130 := n1_; have HO133 := n2_; have HB := n3_; clear n0_ n1_ n2_ n3_; (try clear hb); (try clear hb2); (try clear hk); (try clear hi)) | (go_at_call 14; (with_reducible refine (scarfref02_Split.calls k _ _ y121 t135 _ ?side1 ?side2 A13.out).mono ?_); (case side1 => repeat (first | exact (Kd.C_below HR124.out HB.out) | (with_reducible refine Kd.C_alloc ?_ _) | (with_reducible refine Kd.C_drewN ?_ _) | (with_reducible refine Kd.C_drew ?_))); (case side2 => exact HC124.out); rintro e w17 ⟨v136, rfl, ho0, hb⟩; have n0_ := Aside0.mk (Kd.S_elder' (by (with_reducible repeat (first | apply Kd.S_alloc | apply Kd.S_drewN | apply Kd.S_drew)); exact HO127.out) (Kd.S_base ho0) hb); have n1_ := Aside0.mk (Kd.R_below (by (with_reducible repeat (first | apply Kd.R_alloc | apply Kd.R_drewN | apply Kd.R_drew)); exact HO130.out) hb); have n2_ := Aside0.mk (Kd.R_below (by (with_reducible repeat (first | apply Kd.R_alloc | apply Kd.R_drewN | apply Kd.R_drew)); exact HO133.out) hb); have n3_ := Aside0.mk (Kd.S_lower (Kd.S_new' ho0 (Kd.S_lt (by (with_reducible repeat (first | apply Kd.S_alloc | apply Kd.S_drewN | apply Kd.S_drew)); exact HO127.out))) (below_size (by repeat (first | (with_reducible first | exact HB.out | apply below_alloc | apply pw_below_drewN | apply below_drew1) | exact HB.out)))); have n4_ := Aside0.mk (below_step (by repeat (first | (with_reducible first | exact HB.out | apply below_alloc | apply pw_below_drewN | apply below_drew1) | exact HB.out)) hb); clear HO127; clear HO130; clear HO133; clear HB; have HO127 := n0_; have HO130 := n1_; have HO133 := n2_; have HO137 := n3_; have HB := n4_; clear n0_ n1_ n2_ n3_ n4_; (try clear hb); (try clear hb2); (try clear hk); (try clear hi); (try clear ho0); obtain ⟨Ao18, co18, eo18⟩ := Kd.S_slice HO127.out; subst eo18; obtain ⟨Ao19, co19, eo19⟩ := Kd.S_slice HO137.out; subst eo19) | (go_at_call 13; (with_reducible refine (scarfref02_Same.calls k _ _ t125 _ _ t135 true _ ?side1 ?side2 ?side3 ?side4 A14.out).mono ?_); (case side1 => repeat (first | exact (Kd.S_reads' HO127.out).2.2 | (with_reducible refine Kd.C_alloc ?_ _) | (with_reducible refine Kd.C_drewN ?_ _) | (with_reducible refine Kd.C_drew ?_))); (case side2 => exact (Kd.S_reads' HO127.out).2.1); (case side3 => repeat (first | exact (Kd.S_reads' HO137.out).2.2 | (with_reducible refine Kd.C_alloc ?_ _) | (with_reducible refine Kd.C_drewN ?_ _) | (with_reducible refine Kd.C_drew ?_))); (case side4 => exact (Kd.S_reads' HO137.out).2.1); rintro e w' ⟨rfl, ⟨nd, rfl⟩⟩; (try first | exact ⟨rfl, _, World.drewN_drewN _ _ _⟩ | exact ⟨rfl, _, Eq.trans (World.drewN_drewN _ _ _) (congrArg (World.drewN _) (Nat.add_assoc _ _ _))⟩); obtain ⟨Ao20, co20, eo20⟩ := Kd.R_slice HO130.out; subst eo20; obtain ⟨Ao21, co21, eo21⟩ := Kd.R_slice HO133.out; subst eo21)); try go_wp2_with (first | (go_at_call 12; (with_reducible refine (scarflaw02_known.calls  true _ A11.out).mono ?_); rintro e w16 ⟨rfl, hb⟩; have n0_ := Aside0.mk (Kd.S_below (by (with_reducible repeat (first | apply Kd.S_alloc | apply Kd.S_drewN | apply Kd.S_drew)); exact HO127.out) hb); have n1_ := Aside0.mk (Kd.R_below (by (with_reducible repeat (first | apply Kd.R_alloc | apply Kd.R_drewN | apply Kd.R_drew)); exact HO130.out) hb); have n2_ := Aside0.mk (Kd.R_below (by (with_reducible repeat (first | apply Kd.R_alloc | apply Kd.R_drewN | apply Kd.R_drew)); exact HO133.out) hb); have n3_ := Aside0.mk (below_step (by repeat (first | (with_reducible first | exact HB.out | apply below_alloc | apply pw_below_drewN | apply below_drew1) | exact HB.out)) hb); clear HO127; clear HO130; clear HO133; clear HB; have HO127 := n0_; have HO130 := n1_; have HO133 := n2_; have HB := n3_; clear n0_ n1_ n2_ n3_; (try clear hb); (try clear hb2); (try clear hk); (try clear hi)) | (go_at_call 14; (with_reducible refine (scarfref02_Split.calls k _ _ y121 t135 _ ?side1 ?side2 A13.out).mono ?_); (case side1 => repeat (first | exact (Kd.C_below HR124.out HB.out) | (with_reducible refine Kd.C_alloc ?_ _) | (with_reducible refine Kd.C_drewN ?_ _) | (with_reducible refine Kd.C_drew ?_))); (case side2 => exact HC124.out); rintro e w17 ⟨v136, rfl, ho0, hb⟩; have n0_ := Aside0.mk (Kd.S_elder' (by (with_reducible repeat (first | apply Kd.S_alloc | apply Kd.S_drewN | apply Kd.S_drew)); exact HO127.out) (Kd.S_base ho0) hb); have n1_ := Aside0.mk (Kd.R_below (by (with_reducible repeat (first | apply Kd.R_alloc | apply Kd.R_drewN | apply Kd.R_drew)); exact HO130.out) hb); have n2_ := Aside0.mk (Kd.R_below (by (with_reducible repeat (first | apply Kd.R_alloc | apply Kd.R_drewN | apply Kd.R_drew)); exact HO133.out) hb); have n3_ := Aside0.mk (Kd.S_lower (Kd.S_new' ho0 (Kd.S_lt (by (with_reducible repeat (first | apply Kd.S_alloc | apply Kd.S_drewN | apply Kd.S_drew)); exact HO127.out))) (below_size (by repeat (first | (with_reducible first | exact HB.out | apply below_alloc | apply pw_below_drewN | apply below_drew1) | exact HB.out)))); have n4_ := Aside0.mk (below_step (by repeat (first | (with_reducible first | exact HB.out | apply below_alloc | apply pw_below_drewN | apply below_drew1) | exact HB.out)) hb); clear HO127; clear HO130; clear HO133; clear HB; have HO127 := n0_; have HO130 := n1_; have HO133 := n2_; have HO137 := n3_; have HB := n4_; clear n0_ n1_ n2_ n3_ n4_; (try clear hb); (try clear hb2); (try clear hk); (try clear hi); (try clear ho0); obtain ⟨Ao18, co18, eo18⟩ := Kd.S_slice HO127.out; subst eo18; obtain ⟨Ao19, co19, eo19⟩ := Kd.S_slice HO137.out; subst eo19) | (go_at_call 13; (with_reducible refine (scarfref02_Same.calls k _ _ t125 _ _ t135 true _ ?side1 ?side2 ?side3 ?side4 A14.out).mono ?_); (case side1 => repeat (first | exact (Kd.S_reads' HO127.out).2.2 | (with_reducible refine Kd.C_alloc ?_ _) | (with_reducible refine Kd.C_drewN ?_ _) | (with_reducible refine Kd.C_drew ?_))); (case side2 => exact (Kd.S_reads' HO127.out).2.1); (case side3 => repeat (first | exact (Kd.S_reads' HO137.out).2.2 | (with_reducible refine Kd.C_alloc ?_ _) | (with_reducible refine Kd.C_drewN ?_ _) | (with_reducible refine Kd.C_drew ?_))); (case side4 => exact (Kd.S_reads' HO137.out).2.1); rintro e w' ⟨rfl, ⟨nd, rfl⟩⟩; (try first | exact ⟨rfl, _, World.drewN_drewN _ _ _⟩ | exact ⟨rfl, _, Eq.trans (World.drewN_drewN _ _ _) (congrArg (World.drewN _) (Nat.add_assoc _ _ _))⟩); obtain ⟨Ao20, co20, eo20⟩ := Kd.R_slice HO130.out; subst eo20; obtain ⟨Ao21, co21, eo21⟩ := Kd.R_slice HO133.out; subst eo21)))
        go_meet
        case rel => exact ⟨_, (((t128.length : Int) != (t131.length : Int))), (by first | rfl | (simp; done) | (simp [*]; done)), H', ⟨by first | omega | exact Nat.le_refl _⟩, ⟨by (with_reducible repeat (first | apply Kd.S_alloc | apply Kd.S_drewN | apply Kd.S_drew)); exact Kd.S_mono HO127.out (fun _ hk => trivial)⟩, ⟨by (with_reducible repeat (first | apply Kd.R_alloc | apply Kd.R_drewN | apply Kd.R_drew)); exact Kd.R_mono HO130.out (fun _ hk => hk.2)⟩, ⟨by (with_reducible repeat (first | apply Kd.R_alloc | apply Kd.R_drewN | apply Kd.R_drew)); exact Kd.R_mono HO133.out (fun _ hk => hk.2)⟩, ⟨by repeat (first | (with_reducible first | exact HB.out | apply below_alloc | apply pw_below_drewN | apply below_drew1) | exact HB.out)⟩⟩
      · replace c15 := Bool.eq_false_iff.mpr c15
        subst c15
        have H1 : (scarflaw02_LineSplits.j0 k y121 (strOfNums y121) t125 t128 t131 true) = some r := by rw [if_neg (show ¬ (false = true) by decide)] at H; exact H
        clear H
        have H := H1
        clear H1
        have H' := Aside0.mk H
        clear H
        go_wp2_with (first | (go_at_call 12; (with_reducible refine (scarflaw02_known.calls  true _ A11.out).mono ?_); rintro e w22 ⟨rfl, hb⟩; have n0_ := Aside0.mk (Kd.S_below (by (with_reducible repeat (first | apply Kd.S_alloc | apply Kd.S_drewN | apply Kd.S_drew)); exact HO127.out) hb); have n1_ := Aside0.mk (Kd.R_below (by (with_reducible repeat (first | apply Kd.R_alloc | apply Kd.R_drewN | apply Kd.R_drew)); exact HO130.out) hb); have n2_ := Aside0.mk (Kd.R_below (by (with_reducible repeat (first | apply Kd.R_alloc | apply Kd.R_drewN | apply Kd.R_drew)); exact HO133.out) hb); have n3_ := Aside0.mk (below_step (by repeat (first | (with_reducible first | exact HB.out | apply below_alloc | apply pw_below_drewN | apply below_drew1) | exact HB.out)) hb); clear HO127; clear HO130; clear HO133; clear HB; have HO127 := n0_; have HO130 := n1_; have HO133 := n2_; have HB := n3_; clear n0_ n1_ n2_ n3_; (try clear hb); (try clear hb2); (try clear hk); (try clear hi)) | (go_at_call 14; (with_reducible refine (scarfref02_Split.calls k _ _ y121 t135 _ ?side1 ?side2 A13.out).mono ?_); (case side1 => repeat (first | exact (Kd.C_below HR124.out HB.out) | (with_reducible refine Kd.C_alloc ?_ _) | (with_reducible refine Kd.C_drewN ?_ _) | (with_reducible refine Kd.C_drew ?_))); (case side2 => exact HC124.out); rintro e w23 ⟨v136, rfl, ho0, hb⟩; have n0_ := Aside0.mk (Kd.S_elder' (by (with_reducible repeat (first | apply Kd.S_alloc | apply Kd.S_drewN | apply Kd.S_drew)); exact HO127.out) (Kd.S_base ho0) hb); have n1_ := Aside0.mk (Kd.R_below (by (with_reducible repeat (first | apply Kd.R_alloc | apply Kd.R_drewN | apply Kd.R_drew)); exact HO130.out) hb); have n2_ := Aside0.mk (Kd.R_below (by (with_reducible repeat (first | apply Kd.R_alloc | apply Kd.R_drewN | apply Kd.R_drew)); exact HO133.out) hb); have n3_ := Aside0.mk (Kd.S_lower (Kd.S_new' ho0 (Kd.S_lt (by (with_reducible repeat (first | apply Kd.S_alloc | apply Kd.S_drewN | apply Kd.S_drew)); exact HO127.out))) (below_size (by repeat (first | (with_reducible first | exact HB.out | apply below_alloc | apply pw_below_drewN | apply below_drew1) | exact HB.out)))); have n4_ := Aside0.mk (below_step (by repeat (first | (with_reducible first | exact HB.out | apply below_alloc | apply pw_below_drewN | apply below_drew1) | exact HB.out)) hb); clear HO127; clear HO130; clear HO133; clear HB; have HO127 := n0_; have HO130 := n1_; have HO133 := n2_; have HO137 := n3_; have HB := n4_; clear n0_ n1_ n2_ n3_ n4_; (try clear hb); (try clear hb2); (try clear hk); (try clear hi); (try clear ho0); obtain ⟨Ao24, co24, eo24⟩ := Kd.S_slice HO127.out; subst eo24; obtain ⟨Ao25, co25, eo25⟩ := Kd.S_slice HO137.out; subst eo25) | (go_at_call 13; (with_reducible refine (scarfref02_Same.calls k _ _ t125 _ _ t135 false _ ?side1 ?side2 ?side3 ?side4 A14.out).mono ?_); (case side1 => repeat (first | exact (Kd.S_reads' HO127.out).2.2 | (with_reducible refine Kd.C_alloc ?_ _) | (with_reducible refine Kd.C_drewN ?_ _) | (with_reducible refine Kd.C_drew ?_))); (case side2 => exact (Kd.S_reads' HO127.out).2.1); (case side3 => repeat (first | exact (Kd.S_reads' HO137.out).2.2 | (with_reducible refine Kd.C_alloc ?_ _) | (with_reducible refine Kd.C_drewN ?_ _) | (with_reducible refine Kd.C_drew ?_))); (case side4 => exact (Kd.S_reads' HO137.out).2.1); rintro e w' ⟨rfl, ⟨nd, rfl⟩⟩; (try first | exact ⟨rfl, _, World.drewN_drewN _ _ _⟩ | exact ⟨rfl, _, Eq.trans (World.drewN_drewN _ _ _) (congrArg (World.drewN _) (Nat.add_assoc _ _ _))⟩)))
        repeat (go_quiet (first | (go_at_call 12; (with_reducible refine (scarflaw02_known.calls  true _ A11.out).mono ?_); rintro e w22 ⟨rfl, hb⟩; have n0_ := Aside0.mk (Kd.S_below (by (with_reducible repeat (first | apply Kd.S_alloc | apply Kd.S_drewN | apply Kd.S_drew)); exact HO127.out) hb); have n1_ := Aside0.mk (Kd.R_below (by (with_reducible repeat (first | apply Kd.R_alloc | apply Kd.R_drewN | apply Kd.R_drew)); exact HO130.out) hb); have n2_ := Aside0.mk (Kd.R_below (by (with_reducible repeat (first | apply Kd.R_alloc | apply Kd.R_drewN | apply Kd.R_drew)); exact HO133.out) hb); have n3_ := Aside0.mk (below_step (by repeat (first | (with_reducible first | exact HB.out | apply below_alloc | apply pw_below_drewN | apply below_drew1) | exact HB.out)) hb); clear HO127; clear HO130; clear HO133; clear HB; have HO127 := n0_; have HO130 := n1_; have HO133 := n2_; have HB := n3_; clear n0_ n1_ n2_ n3_; (try clear hb); (try clear hb2); (try clear hk); (try clear hi)) | (go_at_call 14; (with_reducible refine (scarfref02_Split.calls k _ _ y121 t135 _ ?side1 ?side2 A13.out).mono ?_); (case side1 => repeat (first | exact (Kd.C_below HR124.out HB.out) | (with_reducible refine Kd.C_alloc ?_ _) | (with_reducible refine Kd.C_drewN ?_ _) | (with_reducible refine Kd.C_drew ?_))); (case side2 => exact HC124.out); rintro e w23 ⟨v136, rfl, ho0, hb⟩; have n0_ := Aside0.mk (Kd.S_elder' (by (with_reducible repeat (first | apply Kd.S_alloc | apply Kd.S_drewN | apply Kd.S_drew)); exact HO127.out) (Kd.S_base ho0) hb); have n1_ := Aside0.mk (Kd.R_below (by (with_reducible repeat (first | apply Kd.R_alloc | apply Kd.R_drewN | apply Kd.R_drew)); exact HO130.out) hb); have n2_ := Aside0.mk (Kd.R_below (by (with_reducible repeat (first | apply Kd.R_alloc | apply Kd.R_drewN | apply Kd.R_drew)); exact HO133.out) hb); have n3_ := Aside0.mk (Kd.S_lower (Kd.S_new' ho0 (Kd.S_lt (by (with_reducible repeat (first | apply Kd.S_alloc | apply Kd.S_drewN | apply Kd.S_drew)); exact HO127.out))) (below_size (by repeat (first | (with_reducible first | exact HB.out | apply below_alloc | apply pw_below_drewN | apply below_drew1) | exact HB.out)))); have n4_ := Aside0.mk (below_step (by repeat (first | (with_reducible first | exact HB.out | apply below_alloc | apply pw_below_drewN | apply below_drew1) | exact HB.out)) hb); clear HO127; clear HO130; clear HO133; clear HB; have HO127 := n0_; have HO130 := n1_; have HO133 := n2_; have HO137 := n3_; have HB := n4_; clear n0_ n1_ n2_ n3_ n4_; (try clear hb); (try clear hb2); (try clear hk); (try clear hi); (try clear ho0); obtain ⟨Ao24, co24, eo24⟩ := Kd.S_slice HO127.out; subst eo24; obtain ⟨Ao25, co25, eo25⟩ := Kd.S_slice HO137.out; subst eo25) | (go_at_call 13; (with_reducible refine (scarfref02_Same.calls k _ _ t125 _ _ t135 false _ ?side1 ?side2 ?side3 ?side4 A14.out).mono ?_); (case side1 => repeat (first | exact (Kd.S_reads' HO127.out).2.2 | (with_reducible refine Kd.C_alloc ?_ _) | (with_reducible refine Kd.C_drewN ?_ _) | (with_reducible refine Kd.C_drew ?_))); (case side2 => exact (Kd.S_reads' HO127.out).2.1); (case side3 => repeat (first | exact (Kd.S_reads' HO137.out).2.2 | (with_reducible refine Kd.C_alloc ?_ _) | (with_reducible refine Kd.C_drewN ?_ _) | (with_reducible refine Kd.C_drew ?_))); (case side4 => exact (Kd.S_reads' HO137.out).2.1); rintro e w' ⟨rfl, ⟨nd, rfl⟩⟩; (try first | exact ⟨rfl, _, World.drewN_drewN _ _ _⟩ | exact ⟨rfl, _, Eq.trans (World.drewN_drewN _ _ _) (congrArg (World.drewN _) (Nat.add_assoc _ _ _))⟩))); try go_wp2_with (first | (go_at_call 12; (with_reducible refine (scarflaw02_known.calls  true _ A11.out).mono ?_); rintro e w22 ⟨rfl, hb⟩; have n0_ := Aside0.mk (Kd.S_below (by (with_reducible repeat (first | apply Kd.S_alloc | apply Kd.S_drewN | apply Kd.S_drew)); exact HO127.out) hb); have n1_ := Aside0.mk (Kd.R_below (by (with_reducible repeat (first | apply Kd.R_alloc | apply Kd.R_drewN | apply Kd.R_drew)); exact HO130.out) hb); have n2_ := Aside0.mk (Kd.R_below (by (with_reducible repeat (first | apply Kd.R_alloc | apply Kd.R_drewN | apply Kd.R_drew)); exact HO133.out) hb); have n3_ := Aside0.mk (below_step (by repeat (first | (with_reducible first | exact HB.out | apply below_alloc | apply pw_below_drewN | apply below_drew1) | exact HB.out)) hb); clear HO127; clear HO130; clear HO133; clear HB; have HO127 := n0_; have HO130 := n1_; have HO133 := n2_; have HB := n3_; clear n0_ n1_ n2_ n3_; (try clear hb); (try clear hb2); (try clear hk); (try clear hi)) | (go_at_call 14; (with_reducible refine (scarfref02_Split.calls k _ _ y121 t135 _ ?side1 ?side2 A13.out).mono ?_); (case side1 => repeat (first | exact (Kd.C_below HR124.out HB.out) | (with_reducible refine Kd.C_alloc ?_ _) | (with_reducible refine Kd.C_drewN ?_ _) | (with_reducible refine Kd.C_drew ?_))); (case side2 => exact HC124.out); rintro e w23 ⟨v136, rfl, ho0, hb⟩; have n0_ := Aside0.mk (Kd.S_elder' (by (with_reducible repeat (first | apply Kd.S_alloc | apply Kd.S_drewN | apply Kd.S_drew)); exact HO127.out) (Kd.S_base ho0) hb); have n1_ := Aside0.mk (Kd.R_below (by (with_reducible repeat (first | apply Kd.R_alloc | apply Kd.R_drewN | apply Kd.R_drew)); exact HO130.out) hb); have n2_ := Aside0.mk (Kd.R_below (by (with_reducible repeat (first | apply Kd.R_alloc | apply Kd.R_drewN | apply Kd.R_drew)); exact HO133.out) hb); have n3_ := Aside0.mk (Kd.S_lower (Kd.S_new' ho0 (Kd.S_lt (by (with_reducible repeat (first | apply Kd.S_alloc | apply Kd.S_drewN | apply Kd.S_drew)); exact HO127.out))) (below_size (by repeat (first | (with_reducible first | exact HB.out | apply below_alloc | apply pw_below_drewN | apply below_drew1) | exact HB.out)))); have n4_ := Aside0.mk (below_step (by repeat (first | (with_reducible first | exact HB.out | apply below_alloc | apply pw_below_drewN | apply below_drew1) | exact HB.out)) hb); clear HO127; clear HO130; clear HO133; clear HB; have HO127 := n0_; have HO130 := n1_; have HO133 := n2_; have HO137 := n3_; have HB := n4_; clear n0_ n1_ n2_ n3_ n4_; (try clear hb); (try clear hb2); (try clear hk); (try clear hi); (try clear ho0); obtain ⟨Ao24, co24, eo24⟩ := Kd.S_slice HO127.out; subst eo24; obtain ⟨Ao25, co25, eo25⟩ := Kd.S_slice HO137.out; subst eo25) | (go_at_call 13; (with_reducible refine (scarfref02_Same.calls k _ _ t125 _ _ t135 false _ ?side1 ?side2 ?side3 ?side4 A14.out).mono ?_); (case side1 => repeat (first | exact (Kd.S_reads' HO127.out).2.2 | (with_reducible refine Kd.C_alloc ?_ _) | (with_reducible refine Kd.C_drewN ?_ _) | (with_reducible refine Kd.C_drew ?_))); (case side2 => exact (Kd.S_reads' HO127.out).2.1); (case side3 => repeat (first | exact (Kd.S_reads' HO137.out).2.2 | (with_reducible refine Kd.C_alloc ?_ _) | (with_reducible refine Kd.C_drewN ?_ _) | (with_reducible refine Kd.C_drew ?_))); (case side4 => exact (Kd.S_reads' HO137.out).2.1); rintro e w' ⟨rfl, ⟨nd, rfl⟩⟩; (try first | exact ⟨rfl, _, World.drewN_drewN _ _ _⟩ | exact ⟨rfl, _, Eq.trans (World.drewN_drewN _ _ _) (congrArg (World.drewN _) (Nat.add_assoc _ _ _))⟩))))
        go_meet
        case rel => exact ⟨_, (true), (by first | rfl | (simp; done) | (simp [*]; done)), H', ⟨by first | omega | exact Nat.le_refl _⟩, ⟨by (with_reducible repeat (first | apply Kd.S_alloc | apply Kd.S_drewN | apply Kd.S_drew)); exact Kd.S_mono HO127.out (fun _ hk => trivial)⟩, ⟨by (with_reducible repeat (first | apply Kd.R_alloc | apply Kd.R_drewN | apply Kd.R_drew)); exact Kd.R_mono HO130.out (fun _ hk => hk.2)⟩, ⟨by (with_reducible repeat (first | apply Kd.R_alloc | apply Kd.R_drewN | apply Kd.R_drew)); exact Kd.R_mono HO133.out (fun _ hk => hk.2)⟩, ⟨by repeat (first | (with_reducible first | exact HB.out | apply below_alloc | apply pw_below_drewN | apply below_drew1) | exact HB.out)⟩⟩
    · replace c12 := Bool.eq_false_iff.mpr c12
      subst c12
      have H1 : (scarflaw02_LineSplits.j0 k y121 (strOfNums y121) t125 t128 t131 true) = some r := by rw [if_neg (show ¬ (false = true) by decide)] at H; exact H
      clear H
      have H := H1
      clear H1
      have H' := Aside0.mk H
      clear H
      go_wp2_with (first | (go_at_call 12; (with_reducible refine (scarflaw02_known.calls  false _ A11.out).mono ?_); rintro e w26 ⟨rfl, hb⟩; have n0_ := Aside0.mk (Kd.S_below (by (with_reducible repeat (first | apply Kd.S_alloc | apply Kd.S_drewN | apply Kd.S_drew)); exact HO127.out) hb); have n1_ := Aside0.mk (Kd.R_below (by (with_reducible repeat (first | apply Kd.R_alloc | apply Kd.R_drewN | apply Kd.R_drew)); exact HO130.out) hb); have n2_ := Aside0.mk (Kd.R_below (by (with_reducible repeat (first | apply Kd.R_alloc | apply Kd.R_drewN | apply Kd.R_drew)); exact HO133.out) hb); have n3_ := Aside0.mk (below_step (by repeat (first | (with_reducible first | exact HB.out | apply below_alloc | apply pw_below_drewN | apply below_drew1) | exact HB.out)) hb); clear HO127; clear HO130; clear HO133; clear HB; have HO127 := n0_; have HO130 := n1_; have HO133 := n2_; have HB := n3_; clear n0_ n1_ n2_ n3_; (try clear hb); (try clear hb2); (try clear hk); (try clear hi)))
      repeat (go_quiet (first | (go_at_call 12; (with_reducible refine (scarflaw02_known.calls  false _ A11.out).mono ?_); rintro e w26 ⟨rfl, hb⟩; have n0_ := Aside0.mk (Kd.S_below (by (with_reducible repeat (first | apply Kd.S_alloc | apply Kd.S_drewN | apply Kd.S_drew)); exact HO127.out) hb); have n1_ := Aside0.mk (Kd.R_below (by (with_reducible repeat (first | apply Kd.R_alloc | apply Kd.R_drewN | apply Kd.R_drew)); exact HO130.out) hb); have n2_ := Aside0.mk (Kd.R_below (by (with_reducible repeat (first | apply Kd.R_alloc | apply Kd.R_drewN | apply Kd.R_drew)); exact HO133.out) hb); have n3_ := Aside0.mk (below_step (by repeat (first | (with_reducible first | exact HB.out | apply below_alloc | apply pw_below_drewN | apply below_drew1) | exact HB.out)) hb); clear HO127; clear HO130; clear HO133; clear HB; have HO127 := n0_; have HO130 := n1_; have HO133 := n2_; have HB := n3_; clear n0_ n1_ n2_ n3_; (try clear hb); (try clear hb2); (try clear hk); (try clear hi))); try go_wp2_with (first | (go_at_call 12; (with_reducible refine (scarflaw02_known.calls  false _ A11.out).mono ?_); rintro e w26 ⟨rfl, hb⟩; have n0_ := Aside0.mk (Kd.S_below (by (with_reducible repeat (first | apply Kd.S_alloc | apply Kd.S_drewN | apply Kd.S_drew)); exact HO127.out) hb); have n1_ := Aside0.mk (Kd.R_below (by (with_reducible repeat (first | apply Kd.R_alloc | apply Kd.R_drewN | apply Kd.R_drew)); exact HO130.out) hb); have n2_ := Aside0.mk (Kd.R_below (by (with_reducible repeat (first | apply Kd.R_alloc | apply Kd.R_drewN | apply Kd.R_drew)); exact HO133.out) hb); have n3_ := Aside0.mk (below_step (by repeat (first | (with_reducible first | exact HB.out | apply below_alloc | apply pw_below_drewN | apply below_drew1) | exact HB.out)) hb); clear HO127; clear HO130; clear HO133; clear HB; have HO127 := n0_; have HO130 := n1_; have HO133 := n2_; have HB := n3_; clear n0_ n1_ n2_ n3_; (try clear hb); (try clear hb2); (try clear hk); (try clear hi))))
      go_meet
      case rel => exact ⟨_, (true), (by first | rfl | (simp; done) | (simp [*]; done)), H', ⟨by first | omega | exact Nat.le_refl _⟩, ⟨by (with_reducible repeat (first | apply Kd.S_alloc | apply Kd.S_drewN | apply Kd.S_drew)); exact HO127.out⟩, ⟨by (with_reducible repeat (first | apply Kd.R_alloc | apply Kd.R_drewN | apply Kd.R_drew)); exact Kd.R_mono HO130.out (fun _ hk => hk.2)⟩, ⟨by (with_reducible repeat (first | apply Kd.R_alloc | apply Kd.R_drewN | apply Kd.R_drew)); exact Kd.R_mono HO133.out (fun _ hk => hk.2)⟩, ⟨by repeat (first | (with_reducible first | exact HB.out | apply below_alloc | apply pw_below_drewN | apply below_drew1) | exact HB.out)⟩⟩
  case rest =>
    clear HC5
    try clear c1
    try clear p2
    try clear c3
    try clear hcv7
    try clear c12
    try clear c15
    obtain ⟨kq, x35_4, rfl, HA, HJ4, HO_4, HO_5, HO_6, HB⟩ := hcut
    cases kq with
    | zero => exact absurd HA.out (by simp [scarflaw02_LineSplits.j0])
    | succ kj4 =>
      have H := HA.out
      clear HA
      simp only [scarflaw02_LineSplits.j0] at H
      by_cases c27 : x35_4 = true
      · subst c27
        have H1 : (some false) = some r := by rw [if_pos rfl] at H; exact H
        clear H
        have H := H1
        clear H1
        obtain rfl := Option.some.inj H
        go_wp2
        repeat (go_quiet (fail); try go_wp2)
        go_ret
        exact ⟨by first | rfl | (simp [errW_none, errW_some] <;> rfl) | (simp [*, errW_none, errW_some] <;> rfl), by repeat (first | (with_reducible first | exact HB.out | apply below_alloc | apply pw_below_drewN | apply below_drew1) | exact HB.out)⟩
      · replace c27 := Bool.eq_false_iff.mpr c27
        subst c27
        have H1 : (scarflaw02_LineSplits.l0 kj4 y121 (strOfNums y121) t125 t128 t131 0) = some r := by rw [if_neg (show ¬ (false = true) by decide)] at H; exact H
        clear H
        have H := H1
        clear H1
        have H' := Aside0.mk H
        clear H
        go_wp2
        repeat (go_quiet (fail); try go_wp2)
        go_loopg [7] kj4 (fun kq v7 w' => ∃ (x7_2 : Int), v7 = .int .i64 x7_2 ∧ Aside0 (scarflaw02_LineSplits.l0 kq y121 (strOfNums y121) t125 t128 t131 x7_2 = some r) ∧ Aside0 (kq ≤ kj4) ∧ Aside0 (Kd.S (Kd.slice 5 (Kd.int .u8)) 22 w' w.heap.size (fun _ => True) v126 t125) ∧ Aside0 (Kd.R (Kd.int .i64) 3 w' w.heap.size (fun k_ => some k_ ≠ (v132 : Value).ownBlock) v129 t128) ∧ Aside0 (Kd.R (Kd.int .i64) 3 w' w.heap.size (fun k_ => some k_ ≠ (v129 : Value).ownBlock) v132 t131) ∧ Aside0 (Below w.heap.size w w'))
        case atStart => exact ⟨(0), (by first | rfl | (simp; done) | (simp [*]; done)), H', ⟨Nat.le_refl _⟩, ⟨by (with_reducible repeat (first | apply Kd.S_alloc | apply Kd.S_drewN | apply Kd.S_drew)); exact HO_4.out⟩, ⟨by (with_reducible repeat (first | apply Kd.R_alloc | apply Kd.R_drewN | apply Kd.R_drew)); exact HO_5.out⟩, ⟨by (with_reducible repeat (first | apply Kd.R_alloc | apply Kd.R_drewN | apply Kd.R_drew)); exact HO_6.out⟩, ⟨by repeat (first | (with_reducible first | exact HB.out | apply below_alloc | apply pw_below_drewN | apply below_drew1) | exact HB.out)⟩⟩
        case round =>
          clear H'
          try clear c1
          try clear c2
          try clear p2
          try clear c3
          try clear hcv7
          try clear c12
          try clear c15
          try clear c27
          try clear p2
          obtain ⟨x7_2, rfl, HA, HK2, HO_4, HO_5, HO_6, HB⟩ := hrel
          cases gk with
          | zero => exact absurd HA.out (by simp [scarflaw02_LineSplits.l0])
          | succ k2 =>
            have H := HA.out
            clear HA
            simp only [scarflaw02_LineSplits.l0] at H
            by_cases c28 : x7_2 < (t128.length : Int)
            · rw [if_pos c28] at H
              have c28b0 : decide (x7_2 < (t128.length : Int)) = true := decide_eq_true c28
              clear c28
              by_cases c29 : 0 ≤ x7_2
              · rw [if_pos c29] at H
                have c29b0 : decide (0 ≤ x7_2) = true := decide_eq_true c29
                clear c29
                by_cases c30 : x7_2 < (t131.length : Int)
                · rw [if_pos c30] at H
                  have c30b0 : decide (x7_2 < (t131.length : Int)) = true := decide_eq_true c30
                  clear c30
                  by_cases c31 : (rd t128 x7_2) = (rd t131 x7_2)
                  · rw [if_pos c31] at H
                    have c31b0 : ((rd t128 x7_2) == (rd t131 x7_2)) = true := beq_iff_eq.mpr c31
                    have c31b1 : ((rd t128 x7_2) != (rd t131 x7_2)) = false := bne_eq_false_iff_eq.mpr c31
                    clear c31
                    have H' := Aside0.mk H
                    clear H
                    obtain ⟨Ao32, co32, eo32⟩ := Kd.R_slice HO_5.out
                    subst eo32
                    have p139 : 0 ≤ (x7_2 : Int) := of_decide_eq_true (by first | (with_reducible assumption) | assumption)
                    have q139 : x7_2 < (t128.length : Int) := of_decide_eq_true (by first | (with_reducible assumption) | assumption)
                    obtain ⟨ad139, e139, hx139_0⟩ := Kd.at_int (Kd.R_reads' HO_5.out).2.2 x7_2 p139 q139
                    cases e139
                    replace p139 := eq_true p139
                    replace q139 := eq_true q139
                    obtain ⟨Ao33, co33, eo33⟩ := Kd.R_slice HO_6.out
                    subst eo33
                    have p140 : 0 ≤ (x7_2 : Int) := of_decide_eq_true (by first | (with_reducible assumption) | assumption)
                    have q140 : x7_2 < (t131.length : Int) := of_decide_eq_true (by first | (with_reducible assumption) | assumption)
                    obtain ⟨ad140, e140, hx140_0⟩ := Kd.at_int (Kd.R_reads' HO_6.out).2.2 x7_2 p140 q140
                    cases e140
                    replace p140 := eq_true p140
                    replace q140 := eq_true q140
                    go_wp2
                    repeat (go_quiet (fail); try go_wp2)
                    go_roundg k2
                    case measure => have := HJ4.out; have := HK2.out; omega
                    case rel => exact ⟨(wrap64 (x7_2 + 1)), (by first | rfl | (simp; done) | (simp [*]; done)), H', ⟨by have := HJ4.out; have := HK2.out; omega⟩, ⟨by (with_reducible repeat (first | apply Kd.S_alloc | apply Kd.S_drewN | apply Kd.S_drew)); exact HO_4.out⟩, ⟨by (with_reducible repeat (first | apply Kd.R_alloc | apply Kd.R_drewN | apply Kd.R_drew)); exact HO_5.out⟩, ⟨by (with_reducible repeat (first | apply Kd.R_alloc | apply Kd.R_drewN | apply Kd.R_drew)); exact HO_6.out⟩, ⟨by repeat (first | (with_reducible first | exact HB.out | apply below_alloc | apply pw_below_drewN | apply below_drew1) | exact HB.out)⟩⟩
                  · rw [if_neg c31] at H
                    have c31b0 : ((rd t128 x7_2) == (rd t131 x7_2)) = false := beq_eq_false_iff_ne.mpr c31
                    have c31b1 : ((rd t128 x7_2) != (rd t131 x7_2)) = true := bne_iff_ne.mpr c31
                    obtain rfl := Option.some.inj H
                    obtain ⟨Ao34, co34, eo34⟩ := Kd.R_slice HO_5.out
                    subst eo34
                    have p139 : 0 ≤ (x7_2 : Int) := of_decide_eq_true (by first | (with_reducible assumption) | assumption)
                    have q139 : x7_2 < (t128.length : Int) := of_decide_eq_true (by first | (with_reducible assumption) | assumption)
                    obtain ⟨ad139, e139, hx139_0⟩ := Kd.at_int (Kd.R_reads' HO_5.out).2.2 x7_2 p139 q139
                    cases e139
                    replace p139 := eq_true p139
                    replace q139 := eq_true q139
                    obtain ⟨Ao35, co35, eo35⟩ := Kd.R_slice HO_6.out
                    subst eo35
                    have p140 : 0 ≤ (x7_2 : Int) := of_decide_eq_true (by first | (with_reducible assumption) | assumption)
                    have q140 : x7_2 < (t131.length : Int) := of_decide_eq_true (by first | (with_reducible assumption) | assumption)
                    obtain ⟨ad140, e140, hx140_0⟩ := Kd.at_int (Kd.R_reads' HO_6.out).2.2 x7_2 p140 q140
                    cases e140
                    replace p140 := eq_true p140
                    replace q140 := eq_true q140
                    go_wp2
                    repeat (go_quiet (fail); try go_wp2)
                    go_ret
                    exact ⟨by first | rfl | (simp [errW_none, errW_some] <;> rfl) | (simp [*, errW_none, errW_some] <;> rfl), by repeat (first | (with_reducible first | exact HB.out | apply below_alloc | apply pw_below_drewN | apply below_drew1) | exact HB.out)⟩
                · rw [if_neg c30] at H
                  exact absurd H (by simp)
              · rw [if_neg c29] at H
                exact absurd H (by simp)
            · rw [if_neg c28] at H
              have c28b0 : decide (x7_2 < (t128.length : Int)) = false := decide_eq_false c28
              clear c28
              have H' := Aside0.mk H
              clear H
              obtain ⟨Ao36, co36, eo36⟩ := Kd.R_slice HO_5.out
              subst eo36
              go_wp2
              repeat (go_quiet (fail); try go_wp2)
              go_loopg [8] k2 (fun kq v8 w' => ∃ (x4_3 : List (List Int)) (x8_3 : Int), v8 = .int .i64 x8_3 ∧ Aside0 (scarflaw02_LineSplits.l1 kq y121 (strOfNums y121) x4_3 x8_3 = some r) ∧ Aside0 (kq ≤ k2) ∧ Aside0 (Kd.S (Kd.slice 5 (Kd.int .u8)) 22 w' w.heap.size (fun _ => True) v126 x4_3) ∧ Aside0 (Below w.heap.size w w'))
              case atStart => exact ⟨(t125), (0), (by first | rfl | (simp; done) | (simp [*]; done)), H', ⟨Nat.le_refl _⟩, ⟨by (with_reducible repeat (first | apply Kd.S_alloc | apply Kd.S_drewN | apply Kd.S_drew)); exact HO_4.out⟩, ⟨by repeat (first | (with_reducible first | exact HB.out | apply below_alloc | apply pw_below_drewN | apply below_drew1) | exact HB.out)⟩⟩
              case round =>
                clear H'
                try clear c1
                try clear p1
                try clear q1
                try clear hx1
                try clear c2
                try clear p2
                try clear c3
                try clear p6
                try clear hcv7
                try clear c12
                try clear p13
                try clear q13
                try clear hx13
                try clear p14
                try clear q14
                try clear hx14
                try clear c15
                try clear c27
                try clear c28
                try clear c28b0
                try clear c29
                try clear c29b0
                try clear c30
                try clear c30b0
                try clear c31
                try clear c31b0
                try clear c31b1
                try clear hx139_0
                try clear hx140_0
                try clear p139
                try clear p140
                try clear p2
                try clear q139
                try clear q140
                obtain ⟨x4_3, x8_3, rfl, HA, HK3, HO_4, HB⟩ := hrel
                cases gk with
                | zero => exact absurd HA.out (by simp [scarflaw02_LineSplits.l1])
                | succ k3 =>
                  have H := HA.out
                  clear HA
                  simp only [scarflaw02_LineSplits.l1] at H
                  by_cases c37 : x8_3 < (x4_3.length : Int)
                  · rw [if_pos c37] at H
                    have c37b0 : decide (x8_3 < (x4_3.length : Int)) = true := decide_eq_true c37
                    clear c37
                    have H' := Aside0.mk H
                    clear H
                    obtain ⟨Ao38, co38, eo38⟩ := Kd.S_slice HO_4.out
                    subst eo38
                    go_wp2
                    repeat (go_quiet (fail); try go_wp2)
                    go_loopg [9] k3 (fun kq v9 w' => ∃ (x4_4 : List (List Int)) (x9_4 : Int), v9 = .int .i64 x9_4 ∧ Aside0 (scarflaw02_LineSplits.l2 kq y121 (strOfNums y121) x4_4 x8_3 x9_4 = some r) ∧ Aside0 (kq ≤ k3) ∧ Aside0 (Kd.S (Kd.slice 5 (Kd.int .u8)) 22 w' w.heap.size (fun _ => True) (.slice Ao38 x4_3.length co38) x4_4) ∧ Aside0 (Below w.heap.size w w'))
                    case atStart => exact ⟨(x4_3), (0), (by first | rfl | (simp; done) | (simp [*]; done)), H', ⟨Nat.le_refl _⟩, ⟨by (with_reducible repeat (first | apply Kd.S_alloc | apply Kd.S_drewN | apply Kd.S_drew)); exact HO_4.out⟩, ⟨by repeat (first | (with_reducible first | exact HB.out | apply below_alloc | apply pw_below_drewN | apply below_drew1) | exact HB.out)⟩⟩
                    case round =>
                      clear H'
                      try clear c1
                      try clear p1
                      try clear q1
                      try clear hx1
                      try clear c2
                      try clear p2
                      try clear c3
                      try clear p6
                      try clear hcv7
                      try clear c12
                      try clear p13
                      try clear q13
                      try clear hx13
                      try clear p14
                      try clear q14
                      try clear hx14
                      try clear c15
                      try clear c27
                      try clear c28
                      try clear c28b0
                      try clear c29
                      try clear c29b0
                      try clear c30
                      try clear c30b0
                      try clear c31
                      try clear c31b0
                      try clear c31b1
                      try clear c37
                      try clear c37b0
                      try clear hx139_0
                      try clear hx140_0
                      try clear p1
                      try clear p13
                      try clear p139
                      try clear p14
                      try clear p140
                      try clear p2
                      try clear p6
                      try clear q1
                      try clear q13
                      try clear q139
                      try clear q14
                      try clear q140
                      obtain ⟨x4_4, x9_4, rfl, HA, HK4, HO_4, HB⟩ := hrel
                      have hl4_4 := (Kd.S_reads' HO_4.out).1
                      rw [hl4_4] at HO_4
                      (try simp only [hl4_4])
                      cases gk with
                      | zero => exact absurd HA.out (by simp [scarflaw02_LineSplits.l2])
                      | succ k4 =>
                        have H := HA.out
                        clear HA
                        simp only [scarflaw02_LineSplits.l2] at H
                        by_cases c39 : 0 ≤ x8_3
                        · rw [if_pos c39] at H
                          have c39b0 : decide (0 ≤ x8_3) = true := decide_eq_true c39
                          (try (have c39h0 := c39b0; simp only [hl4_4] at c39h0))
                          clear c39
                          by_cases c40 : x8_3 < (x4_4.length : Int)
                          · rw [if_pos c40] at H
                            have c40b0 : decide (x8_3 < (x4_4.length : Int)) = true := decide_eq_true c40
                            (try (have c40h0 := c40b0; simp only [hl4_4] at c40h0))
                            clear c40
                            by_cases c41 : x9_4 < ((rd_L2 x4_4 x8_3).length : Int)
                            · rw [if_pos c41] at H
                              have c41b0 : decide (x9_4 < ((rd_L2 x4_4 x8_3).length : Int)) = true := decide_eq_true c41
                              (try (have c41h0 := c41b0; simp only [hl4_4] at c41h0))
                              clear c41
                              by_cases c42 : 0 ≤ x9_4
                              · rw [if_pos c42] at H
                                have c42b0 : decide (0 ≤ x9_4) = true := decide_eq_true c42
                                (try (have c42h0 := c42b0; simp only [hl4_4] at c42h0))
                                clear c42
                                obtain ⟨y144, hy144⟩ : ∃ y_ : List Int, y_ = ((rd_L2 x4_4 x8_3).set (x9_4 : Int).toNat (Go.bits .xor .u8 (rd (rd_L2 x4_4 x8_3) x9_4) 255)) := ⟨_, rfl⟩
                                replace H : (scarflaw02_LineSplits.l2 k4 y121 (strOfNums y121) (x4_4.set (x8_3 : Int).toNat y144) x8_3 (wrap64 (x9_4 + 1))) = some r := by first | (rw [hy144]; with_reducible exact H) | (have H2_ := (Option.bind_some _ _).symm.trans H; rw [hy144]; with_reducible exact H2_) | (have H2_ := (Option.bind_some _ _).symm.trans H; with_reducible exact H2_) | with_reducible exact H | (rw [hy144]; exact H) | exact H
                                have Ny144 := Aside0.mk hy144
                                clear hy144
                                obtain ⟨y146, hy146⟩ : ∃ y_ : List (List Int), y_ = (x4_4.set (x8_3 : Int).toNat y144) := ⟨_, rfl⟩
                                replace H : (scarflaw02_LineSplits.l2 k4 y121 (strOfNums y121) y146 x8_3 (wrap64 (x9_4 + 1))) = some r := by first | (rw [hy146]; with_reducible exact H) | (have H2_ := (Option.bind_some _ _).symm.trans H; rw [hy146]; with_reducible exact H2_) | (have H2_ := (Option.bind_some _ _).symm.trans H; with_reducible exact H2_) | with_reducible exact H | (rw [hy146]; exact H) | exact H
                                have Ny146 := Aside0.mk hy146
                                clear hy146
                                have H' := Aside0.mk H
                                clear H
                                have p141 : 0 ≤ (x8_3 : Int) := of_decide_eq_true (by first | (with_reducible assumption) | assumption)
                                have q141 : x8_3 < (x4_4.length : Int) := of_decide_eq_true (by first | (with_reducible assumption) | assumption)
                                obtain ⟨ad141, A141_0, c141_0, e141, hx141_0, hl141_0, hi141_0⟩ := at_L2 (Kd.S_reads' HO_4.out).2.2 x8_3 p141 q141
                                cases e141
                                obtain ⟨ce141, hce141, hMe141, hcc141⟩ := Kd.S_get HO_4.out [] x8_3 p141 (by first | exact q141 | exact of_decide_eq_true (by first | (with_reducible assumption) | assumption) | (have e_ := (Kd.S_reads' HO_4.out).1; omega))
                                obtain ⟨ve141_0, rfl, ge141_0⟩ := hMe141
                                have hv141_0 := hcc141 0 _ rfl
                                rw [Nat.add_zero, show ((Kd.slice 5 (Kd.int .u8))).sz = 1 from rfl, Nat.mul_one] at hv141_0
                                replace hv141_0 := Option.some.inj (hv141_0.symm.trans hx141_0)
                                rw [hv141_0] at ge141_0
                                have HL141_0 := Aside0.mk (show Kd.R (Kd.int .u8) 5 _ _ _ _ (rd_L2 x4_4 x8_3) from ge141_0)
                                clear hv141_0 ge141_0
                                have HX141_0 := Aside0.mk hx141_0
                                clear hcc141 hce141
                                have HR141_0 := Aside0.mk hi141_0
                                have HC141_0 := Aside0.mk hl141_0
                                clear hi141_0 hl141_0
                                replace p141 := eq_true p141
                                replace q141 := eq_true q141
                                have p142 : 0 ≤ (x8_3 : Int) := of_decide_eq_true (by first | (with_reducible assumption) | assumption)
                                have q142 : x8_3 < (x4_4.length : Int) := of_decide_eq_true (by first | (with_reducible assumption) | assumption)
                                obtain ⟨ad142, A142_0, c142_0, e142, hx142_0, hl142_0, hi142_0⟩ := at_L2 (Kd.S_reads' HO_4.out).2.2 x8_3 p142 q142
                                obtain rfl : ad141 = ad142 := (by injection e142)
                                obtain ⟨ce142, hce142, hMe142, hcc142⟩ := Kd.S_get HO_4.out [] x8_3 p142 (by first | exact q142 | exact of_decide_eq_true (by first | (with_reducible assumption) | assumption) | (have e_ := (Kd.S_reads' HO_4.out).1; omega))
                                obtain ⟨ve142_0, rfl, ge142_0⟩ := hMe142
                                have hv142_0 := hcc142 0 _ rfl
                                rw [Nat.add_zero, show ((Kd.slice 5 (Kd.int .u8))).sz = 1 from rfl, Nat.mul_one] at hv142_0
                                replace hv142_0 := Option.some.inj (hv142_0.symm.trans hx142_0)
                                rw [hv142_0] at ge142_0
                                have HL142_0 := Aside0.mk (show Kd.R (Kd.int .u8) 5 _ _ _ _ (rd_L2 x4_4 x8_3) from ge142_0)
                                clear hv142_0 ge142_0
                                have HX142_0 := Aside0.mk hx142_0
                                clear hcc142 hce142
                                have HR142_0 := Aside0.mk hi142_0
                                have HC142_0 := Aside0.mk hl142_0
                                clear hi142_0 hl142_0
                                replace p142 := eq_true p142
                                replace q142 := eq_true q142
                                have ea_ := Option.some.inj (hx141_0.symm.trans hx142_0)
                                injection ea_ with ea_ en_ ec_
                                subst ea_
                                subst ec_
                                clear en_
                                have p143 : 0 ≤ (x9_4 : Int) := of_decide_eq_true (by first | (with_reducible assumption) | assumption)
                                have q143 : x9_4 < ((rd_L2 x4_4 x8_3).length : Int) := of_decide_eq_true (by first | (with_reducible assumption) | assumption)
                                obtain ⟨ad143, e143, hx143_0⟩ := Kd.at_int (by repeat (first | (with_reducible exact HR142_0.out) | (with_reducible refine Kd.C_alloc ?_ _) | (with_reducible refine Kd.C_drewN ?_ _) | (with_reducible refine Kd.C_drew ?_) | exact HR142_0.out)) x9_4 p143 q143
                                cases e143
                                replace p143 := eq_true p143
                                replace q143 := eq_true q143
                                have p43 : 0 ≤ (x9_4 : Int) := of_decide_eq_true (by first | (with_reducible assumption) | assumption)
                                have q43 : (x9_4 : Int) < (((rd_L2 x4_4 x8_3).length : Int) : Int) := of_decide_eq_true (by first | (with_reducible assumption) | assumption)
                                obtain ⟨go43, co43, eo43, gb43, gl43, cl43, HG43⟩ := Kd.R_form HL142_0.out (by omega)
                                (first | cases eo43 | (injection eo43 with ea_ en_ ec_; (first | subst ea_ | (injection ea_ with ea_; subst ea_)); subst ec_; clear en_))
                                have GB43 := Aside0.mk gb43
                                have GG43 := Aside0.mk HG43
                                clear gb43 gl43 HG43
                                (first | simp only [add_plain] at hx143_0 | skip)
                                obtain ⟨hx43_0, hf43_0⟩ := Kd.R_celln 0 HL142_0.out (x9_4 : Int) p43 q43
                                replace p43 := eq_true p43
                                replace q43 := eq_true q43
                                have hq44 : (x8_3 : Int) < (x4_4.length : Int) := (by have h_ : (x8_3 : Int) < ((x4_4.length : Int) : Int) := of_decide_eq_true (by first | (with_reducible assumption) | assumption); first | exact h_ | (have e_ := (Kd.S_reads' HO_4.out).1; omega) | simpa only [List.length_set, List.length_set] using h_)
                                obtain ⟨oki44, ce44, hcl44, hM44, hcc44, hok44, hbk44⟩ := Kd.S_borrow HO_4.out [] (x8_3 : Int) (of_decide_eq_true (by first | (with_reducible assumption) | assumption)) hq44
                                obtain ⟨ve44_0, rfl, ge44_0⟩ := hM44
                                have hv44 := hcc44 0 _ rfl
                                rw [Nat.add_zero, show ((Kd.slice 5 (Kd.int .u8))).sz = 1 from rfl, Nat.mul_one] at hv44
                                replace hv44 := Option.some.inj (hv44.symm.trans HX142_0.out)
                                subst hv44
                                clear hcc44 hcl44
                                replace ge44_0 := (show Kd.R (Kd.int .u8) 5 _ _ _ _ (rd_L2 x4_4 x8_3) from ge44_0)
                                have HP44 := Kd.R_putg ge44_0 (x9_4 : Int) (Go.bits .xor .u8 (rd (rd_L2 x4_4 x8_3) x9_4) 255)
                                go_wp2_with (first | ((with_reducible refine gate_store (t := 5) (p := 74) rfl ?_); (try (rw [drewN_self wr]; generalize hq_ : World.drewN wr _ = wr; have n0_ := Aside0.mk (Kd.S_at hq_ HO_4.out); have n1_ := Aside0.mk (Kd.R_at hq_ HL147.out); have n2_ := Aside0.mk (below_at hq_ HB.out); clear hq_ HO_4 HL147 HB; have HO_4 := n0_; have HL147 := n1_; have HB := n2_; clear n0_ n1_ n2_; (try (have hq44 : (x8_3 : Int) < (x4_4.length : Int) := (by have h_ : (x8_3 : Int) < ((x4_4.length : Int) : Int) := of_decide_eq_true (by first | (with_reducible assumption) | assumption); first | exact h_ | (have e_ := (Kd.S_reads' HO_4.out).1; omega) | simpa only [List.length_set, List.length_set] using h_))); (try (obtain ⟨oki44, ce44, hcl44, hM44, hcc44, hok44, hbk44⟩ := Kd.S_borrow HO_4.out [] (x8_3 : Int) (of_decide_eq_true (by first | (with_reducible assumption) | assumption)) hq44)); (try (obtain ⟨ve44_0, rfl, ge44_0⟩ := hM44)); (try (have hv44 := hcc44 0 _ rfl)); (try (rw [Nat.add_zero, show ((Kd.slice 5 (Kd.int .u8))).sz = 1 from rfl, Nat.mul_one] at hv44)); (try (replace hv44 := Option.some.inj (hv44.symm.trans HX142_0.out))); (try (subst hv44)); (try (clear hcc44 hcl44)); (try (replace ge44_0 := (show Kd.R (Kd.int .u8) 5 _ _ _ _ (rd_L2 x4_4 x8_3) from ge44_0))); (try (have HP44 := Kd.R_putg ge44_0 (x9_4 : Int) (Go.bits .xor .u8 (rd (rd_L2 x4_4 x8_3) x9_4) 255))))); refine store_event (t := 5) (p := 74) (v := ?vo_w45) (w1 := (wr.setCell ⟨go43, (x9_4 : Int).toNat, none⟩ (.int .u8 (Go.bits .xor .u8 (rd (rd_L2 x4_4 x8_3) x9_4) 255)))) ?hg ?ho ?hn ?hr ?_; (case ho => rfl); (case hg => rfl); (case hn => rfl); (case hr => first | (go_simp; done) | (go_simp; rfl)); intro w45 hw; have hg : wr.grownBy w45 (some go43) := (by rw [hw]; exact HP44.2); have hz_ : Kd.R (Kd.int .u8) 5 w45 w.heap.size oki44 (.slice (some ⟨go43, 0, none⟩) (rd_L2 x4_4 x8_3).length c141_0) y144 := (by rw [hw, Ny144.out]; exact HP44.1); have hp_ : Kd.S (Kd.slice 5 (Kd.int .u8)) 22 w45 w.heap.size (fun _ => True) (.slice (some ad141) x4_4.length co38) y146 := (by rw [Ny146.out]; exact hbk44 hg (fun k_ e_ => by injection e_ with e_; subst e_; exact ge44_0.1 _ rfl) (Kd.M_row hz_)); have hm_ := Kd.R_mono hz_ hok44; clear HP44 hbk44; have n0_ := Aside0.mk (hp_); have n1_ := Aside0.mk ((by rw [hw]; exact below_set (HB.out) GB43.out : Below w.heap.size w w45)); have n2_ := Aside0.mk (hm_); have n3_ := Aside0.mk ((Kd.R_reads' hm_).2.1); clear HO_4; clear HB; clear HL141_0; clear HL142_0; have HO_4 := n0_; have HB := n1_; have HL147 := n2_; have HC145 := n3_; clear n0_ n1_ n2_ n3_; clear hg hw hp_ hz_ hm_ hok44))
                                repeat (go_quiet (first | ((with_reducible refine gate_store (t := 5) (p := 74) rfl ?_); (try (rw [drewN_self wr]; generalize hq_ : World.drewN wr _ = wr; have n0_ := Aside0.mk (Kd.S_at hq_ HO_4.out); have n1_ := Aside0.mk (Kd.R_at hq_ HL147.out); have n2_ := Aside0.mk (below_at hq_ HB.out); clear hq_ HO_4 HL147 HB; have HO_4 := n0_; have HL147 := n1_; have HB := n2_; clear n0_ n1_ n2_; (try (have hq44 : (x8_3 : Int) < (x4_4.length : Int) := (by have h_ : (x8_3 : Int) < ((x4_4.length : Int) : Int) := of_decide_eq_true (by first | (with_reducible assumption) | assumption); first | exact h_ | (have e_ := (Kd.S_reads' HO_4.out).1; omega) | simpa only [List.length_set, List.length_set] using h_))); (try (obtain ⟨oki44, ce44, hcl44, hM44, hcc44, hok44, hbk44⟩ := Kd.S_borrow HO_4.out [] (x8_3 : Int) (of_decide_eq_true (by first | (with_reducible assumption) | assumption)) hq44)); (try (obtain ⟨ve44_0, rfl, ge44_0⟩ := hM44)); (try (have hv44 := hcc44 0 _ rfl)); (try (rw [Nat.add_zero, show ((Kd.slice 5 (Kd.int .u8))).sz = 1 from rfl, Nat.mul_one] at hv44)); (try (replace hv44 := Option.some.inj (hv44.symm.trans HX142_0.out))); (try (subst hv44)); (try (clear hcc44 hcl44)); (try (replace ge44_0 := (show Kd.R (Kd.int .u8) 5 _ _ _ _ (rd_L2 x4_4 x8_3) from ge44_0))); (try (have HP44 := Kd.R_putg ge44_0 (x9_4 : Int) (Go.bits .xor .u8 (rd (rd_L2 x4_4 x8_3) x9_4) 255))))); refine store_event (t := 5) (p := 74) (v := ?vo_w45) (w1 := (wr.setCell ⟨go43, (x9_4 : Int).toNat, none⟩ (.int .u8 (Go.bits .xor .u8 (rd (rd_L2 x4_4 x8_3) x9_4) 255)))) ?hg ?ho ?hn ?hr ?_; (case ho => rfl); (case hg => rfl); (case hn => rfl); (case hr => first | (go_simp; done) | (go_simp; rfl)); intro w45 hw; have hg : wr.grownBy w45 (some go43) := (by rw [hw]; exact HP44.2); have hz_ : Kd.R (Kd.int .u8) 5 w45 w.heap.size oki44 (.slice (some ⟨go43, 0, none⟩) (rd_L2 x4_4 x8_3).length c141_0) y144 := (by rw [hw, Ny144.out]; exact HP44.1); have hp_ : Kd.S (Kd.slice 5 (Kd.int .u8)) 22 w45 w.heap.size (fun _ => True) (.slice (some ad141) x4_4.length co38) y146 := (by rw [Ny146.out]; exact hbk44 hg (fun k_ e_ => by injection e_ with e_; subst e_; exact ge44_0.1 _ rfl) (Kd.M_row hz_)); have hm_ := Kd.R_mono hz_ hok44; clear HP44 hbk44; have n0_ := Aside0.mk (hp_); have n1_ := Aside0.mk ((by rw [hw]; exact below_set (HB.out) GB43.out : Below w.heap.size w w45)); have n2_ := Aside0.mk (hm_); have n3_ := Aside0.mk ((Kd.R_reads' hm_).2.1); clear HO_4; clear HB; clear HL141_0; clear HL142_0; have HO_4 := n0_; have HB := n1_; have HL147 := n2_; have HC145 := n3_; clear n0_ n1_ n2_ n3_; clear hg hw hp_ hz_ hm_ hok44)); try go_wp2_with (first | ((with_reducible refine gate_store (t := 5) (p := 74) rfl ?_); (try (rw [drewN_self wr]; generalize hq_ : World.drewN wr _ = wr; have n0_ := Aside0.mk (Kd.S_at hq_ HO_4.out); have n1_ := Aside0.mk (Kd.R_at hq_ HL147.out); have n2_ := Aside0.mk (below_at hq_ HB.out); clear hq_ HO_4 HL147 HB; have HO_4 := n0_; have HL147 := n1_; have HB := n2_; clear n0_ n1_ n2_; (try (have hq44 : (x8_3 : Int) < (x4_4.length : Int) := (by have h_ : (x8_3 : Int) < ((x4_4.length : Int) : Int) := of_decide_eq_true (by first | (with_reducible assumption) | assumption); first | exact h_ | (have e_ := (Kd.S_reads' HO_4.out).1; omega) | simpa only [List.length_set, List.length_set] using h_))); (try (obtain ⟨oki44, ce44, hcl44, hM44, hcc44, hok44, hbk44⟩ := Kd.S_borrow HO_4.out [] (x8_3 : Int) (of_decide_eq_true (by first | (with_reducible assumption) | assumption)) hq44)); (try (obtain ⟨ve44_0, rfl, ge44_0⟩ := hM44)); (try (have hv44 := hcc44 0 _ rfl)); (try (rw [Nat.add_zero, show ((Kd.slice 5 (Kd.int .u8))).sz = 1 from rfl, Nat.mul_one] at hv44)); (try (replace hv44 := Option.some.inj (hv44.symm.trans HX142_0.out))); (try (subst hv44)); (try (clear hcc44 hcl44)); (try (replace ge44_0 := (show Kd.R (Kd.int .u8) 5 _ _ _ _ (rd_L2 x4_4 x8_3) from ge44_0))); (try (have HP44 := Kd.R_putg ge44_0 (x9_4 : Int) (Go.bits .xor .u8 (rd (rd_L2 x4_4 x8_3) x9_4) 255))))); refine store_event (t := 5) (p := 74) (v := ?vo_w45) (w1 := (wr.setCell ⟨go43, (x9_4 : Int).toNat, none⟩ (.int .u8 (Go.bits .xor .u8 (rd (rd_L2 x4_4 x8_3) x9_4) 255)))) ?hg ?ho ?hn ?hr ?_; (case ho => rfl); (case hg => rfl); (case hn => rfl); (case hr => first | (go_simp; done) | (go_simp; rfl)); intro w45 hw; have hg : wr.grownBy w45 (some go43) := (by rw [hw]; exact HP44.2); have hz_ : Kd.R (Kd.int .u8) 5 w45 w.heap.size oki44 (.slice (some ⟨go43, 0, none⟩) (rd_L2 x4_4 x8_3).length c141_0) y144 := (by rw [hw, Ny144.out]; exact HP44.1); have hp_ : Kd.S (Kd.slice 5 (Kd.int .u8)) 22 w45 w.heap.size (fun _ => True) (.slice (some ad141) x4_4.length co38) y146 := (by rw [Ny146.out]; exact hbk44 hg (fun k_ e_ => by injection e_ with e_; subst e_; exact ge44_0.1 _ rfl) (Kd.M_row hz_)); have hm_ := Kd.R_mono hz_ hok44; clear HP44 hbk44; have n0_ := Aside0.mk (hp_); have n1_ := Aside0.mk ((by rw [hw]; exact below_set (HB.out) GB43.out : Below w.heap.size w w45)); have n2_ := Aside0.mk (hm_); have n3_ := Aside0.mk ((Kd.R_reads' hm_).2.1); clear HO_4; clear HB; clear HL141_0; clear HL142_0; have HO_4 := n0_; have HB := n1_; have HL147 := n2_; have HC145 := n3_; clear n0_ n1_ n2_ n3_; clear hg hw hp_ hz_ hm_ hok44)))
                                (try simp only [← hl4_4])
                                go_roundg k4
                                case measure => have := HJ4.out; have := HK2.out; have := HK3.out; have := HK4.out; omega
                                case rel => exact ⟨(y146), (wrap64 (x9_4 + 1)), (by first | rfl | (simp; done) | (simp [*]; done)), H', ⟨by have := HJ4.out; have := HK2.out; have := HK3.out; have := HK4.out; omega⟩, ⟨by (try simp only [hl4_4]); (with_reducible repeat (first | apply Kd.S_alloc | apply Kd.S_drewN | apply Kd.S_drew)); exact HO_4.out⟩, ⟨by repeat (first | (with_reducible first | exact HB.out | apply below_alloc | apply pw_below_drewN | apply below_drew1) | exact HB.out)⟩⟩
                              · rw [if_neg c42] at H
                                exact absurd H (by simp)
                            · rw [if_neg c41] at H
                              have c41b0 : decide (x9_4 < ((rd_L2 x4_4 x8_3).length : Int)) = false := decide_eq_false c41
                              (try (have c41h0 := c41b0; simp only [hl4_4] at c41h0))
                              clear c41
                              have H' := Aside0.mk H
                              clear H
                              have p141 : 0 ≤ (x8_3 : Int) := of_decide_eq_true (by first | (with_reducible assumption) | assumption)
                              have q141 : x8_3 < (x4_4.length : Int) := of_decide_eq_true (by first | (with_reducible assumption) | assumption)
                              obtain ⟨ad141, A141_0, c141_0, e141, hx141_0, hl141_0, hi141_0⟩ := at_L2 (Kd.S_reads' HO_4.out).2.2 x8_3 p141 q141
                              cases e141
                              obtain ⟨ce141, hce141, hMe141, hcc141⟩ := Kd.S_get HO_4.out [] x8_3 p141 (by first | exact q141 | exact of_decide_eq_true (by first | (with_reducible assumption) | assumption) | (have e_ := (Kd.S_reads' HO_4.out).1; omega))
                              obtain ⟨ve141_0, rfl, ge141_0⟩ := hMe141
                              have hv141_0 := hcc141 0 _ rfl
                              rw [Nat.add_zero, show ((Kd.slice 5 (Kd.int .u8))).sz = 1 from rfl, Nat.mul_one] at hv141_0
                              replace hv141_0 := Option.some.inj (hv141_0.symm.trans hx141_0)
                              rw [hv141_0] at ge141_0
                              have HL141_0 := Aside0.mk (show Kd.R (Kd.int .u8) 5 _ _ _ _ (rd_L2 x4_4 x8_3) from ge141_0)
                              clear hv141_0 ge141_0
                              have HX141_0 := Aside0.mk hx141_0
                              clear hcc141 hce141
                              have HR141_0 := Aside0.mk hi141_0
                              have HC141_0 := Aside0.mk hl141_0
                              clear hi141_0 hl141_0
                              replace p141 := eq_true p141
                              replace q141 := eq_true q141
                              go_wp2
                              repeat (go_quiet (fail); try go_wp2)
                              (try simp only [← hl4_4])
                              go_roundg k4
                              case measure => have := HJ4.out; have := HK2.out; have := HK3.out; have := HK4.out; omega
                              case rel => exact ⟨(x4_4), (wrap64 (x8_3 + 1)), (by first | rfl | (simp; done) | (simp [*]; done)), H', ⟨by have := HJ4.out; have := HK2.out; have := HK3.out; have := HK4.out; omega⟩, ⟨by (try simp only [hl4_4]); (with_reducible repeat (first | apply Kd.S_alloc | apply Kd.S_drewN | apply Kd.S_drew)); exact HO_4.out⟩, ⟨by repeat (first | (with_reducible first | exact HB.out | apply below_alloc | apply pw_below_drewN | apply below_drew1) | exact HB.out)⟩⟩
                          · rw [if_neg c40] at H
                            exact absurd H (by simp)
                        · rw [if_neg c39] at H
                          exact absurd H (by simp)
                  · rw [if_neg c37] at H
                    have c37b0 : decide (x8_3 < (x4_3.length : Int)) = false := decide_eq_false c37
                    clear c37
                    obtain rfl := Option.some.inj H
                    obtain ⟨Ao46, co46, eo46⟩ := Kd.S_slice HO_4.out
                    subst eo46
                    have hcv47 := Kd.C_string (P := Try.prog) (A := A0) (c := c0) Try.underlying22 Try.underlying5 Try.underlying9 (Kd.C_below HR124.out HB.out)
                    have hcn47 := fun n_ : Nat => Kd.C_string (P := Try.prog) (A := A0) (c := c0) Try.underlying22 Try.underlying5 Try.underlying9 (Kd.C_drewN (Kd.C_below HR124.out HB.out) n_)
                    go_wp2
                    repeat (go_quiet (fail); try go_wp2)
                    go_ret
                    exact ⟨by first | rfl | (simp [errW_none, errW_some] <;> rfl) | (simp [*, errW_none, errW_some] <;> rfl), by repeat (first | (with_reducible first | exact HB.out | apply below_alloc | apply pw_below_drewN | apply below_drew1) | exact HB.out)⟩

/-- THE ONE PURE STATEMENT of scarflaw02_LineSplits: yours. -/
def scarflaw02_LineSplits.Pure : Prop := ∀ (l0 : List Int), l0.length ≤ maxLen → l0.length * 1 ≤ 140737488351232 → (∀ x ∈ l0, (Lit.int .u8 x).wf = true) → ∃ k, scarflaw02_LineSplits.f k l0 = some true
theorem scarflaw02_LineSplits.walk (P : scarflaw02_LineSplits.Pure) (a0 : Option Addr) (len0 cap0 : Nat) (z0 : List Int) (w : World) (w0 : (a0 = none ∧ len0 = 0 ∧ cap0 = 0 ∧ z0 = []) ∨ ∃ x, a0 = some x ∧ len0 ≤ cap0 ∧ cap0 ≤ maxLen ∧ z0.length = cap0 ∧ (∀ i, i < z0.length → w.cell? (x.add i) = some (.int .u8 (z0.getD i 0))) ∧ ∀ n ∈ z0, (Lit.int .u8 n).wf = true) (y0 : len0 * 1 ≤ 140737488351232) :
    Calls Try.prog 3 #[.slice a0 len0 cap0] w fun e w' => e = .returned (.bool true) ∧ Below w.heap.size w w' := by
  obtain ⟨l0, rfl, hr0, hm0, hw0, hc0⟩ := ReadsInt.ofRowC w0
  obtain ⟨k, h⟩ := P l0 hm0 y0 hw0
  refine (scarflaw02_LineSplits.calls k _ _ l0 true w (Kd.C_of_reads (d := (0 : Int)) (h1 := fun _ => rfl) hr0) hc0 h).mono ?_
  rintro e w' ⟨rfl, hd⟩
  exact ⟨rfl, hd⟩

end Go.Proofs.Ytdekcmaakdpmaaa.Q
