-- Written by this repo's pp.py (the kit's print program with additions).
import Derived.Test.YtpoeiiimmgnioaaDoorQ0
import Derived.Test.YtpoeiiimmgnioaaDoorQ3
namespace Go.Proofs.YtpoeiiimmgnioaaDoor.Q
open Go.RowKit Go.Proofs.YtpoeiiimmgnioaaDoorW.PrintWords Go.Proofs.YtpoeiiimmgnioaaDoorW.PrintLast Go.Proofs.YtpoeiiimmgnioaaDoorW.PrintMore
attribute [local go_sem] max2_int min2_int max_two min_two max_three min_three max_four min_four   -- for this text's walks alone
set_option linter.unusedVariables false
set_option linter.unusedSimpArgs false

/-! ### scarfref01_Next: function 11 -/
mutual
def scarfref01_Next.l0 : Nat → List Int → Int → Option (Int × Int)
  | 0, _, _ => none
  | k + 1, x0, x4 => if x4 ≤ 4 then (scarfref01_Next.j1 k x0 x4 (decide (x4 ≤ (x0.length : Int)))) else (scarfref01_Next.j1 k x0 x4 false)
def scarfref01_Next.j1 : Nat → List Int → Int → Bool → Option (Int × Int)
  | 0, _, _, _ => none
  | k + 1, x0, x4, x16 => if x16 = true then (if 0 < (x0.length : Int) then (if x4 = 2 then (scarfref01_Next.j2 k x0 x4 (Int.tmod (wrap64 (rd x0 0)) 32)) else (scarfref01_Next.j2 k x0 x4 (wrap64 (rd x0 0)))) else (none)) else (some ((-1), 0))
def scarfref01_Next.j2 : Nat → List Int → Int → Int → Option (Int × Int)
  | 0, _, _, _ => none
  | k + 1, x0, x4, x5 => if x4 = 3 then (scarfref01_Next.j3 k x0 x4 (Int.tmod x5 16)) else (scarfref01_Next.j3 k x0 x4 x5)
def scarfref01_Next.j3 : Nat → List Int → Int → Int → Option (Int × Int)
  | 0, _, _, _ => none
  | k + 1, x0, x4, x5 => if x4 = 4 then (scarfref01_Next.j4 k x0 x4 (Int.tmod x5 8)) else (scarfref01_Next.j4 k x0 x4 x5)
def scarfref01_Next.j4 : Nat → List Int → Int → Int → Option (Int × Int)
  | 0, _, _, _ => none
  | k + 1, x0, x4, x5 => scarfref01_Next.l1 k x0 x4 x5 1
def scarfref01_Next.l1 : Nat → List Int → Int → Int → Int → Option (Int × Int)
  | 0, _, _, _, _ => none
  | k + 1, x0, x4, x5, x6 => if x6 < x4 then (if 0 ≤ x6 then (if x6 < (x0.length : Int) then (scarfref01_Next.l1 k x0 x4 (wrap64 ((wrap64 (64 * x5)) + (Int.tmod (wrap64 (rd x0 x6)) 64))) (wrap64 (x6 + 1))) else (none)) else (none)) else ((scarfref01_Bytes.f x5).bind fun bt142 => (if bt142.2 = 0 then (if 0 ≤ x4 then (if x4 ≤ (x0.length : Int) then (if (strOfNums bt142.1).toList = (strOfNums (x0.take (x4 : Int).toNat)).toList then (some (x5, x4)) else (scarfref01_Next.l0 k x0 (wrap64 (x4 + 1)))) else (none)) else (none)) else (scarfref01_Next.l0 k x0 (wrap64 (x4 + 1)))))
end
def scarfref01_Next.f (k : Nat) (l0 : List Int) : Option (Int × Int) := scarfref01_Next.l0 k l0 1
theorem scarfref01_Next.mono_l : ∀ k, (∀ y0 y1, LeO (scarfref01_Next.l0 k y0 y1) (scarfref01_Next.l0 (k + 1) y0 y1)) ∧ (∀ y0 y1 y2, LeO (scarfref01_Next.j1 k y0 y1 y2) (scarfref01_Next.j1 (k + 1) y0 y1 y2)) ∧ (∀ y0 y1 y2, LeO (scarfref01_Next.j2 k y0 y1 y2) (scarfref01_Next.j2 (k + 1) y0 y1 y2)) ∧ (∀ y0 y1 y2, LeO (scarfref01_Next.j3 k y0 y1 y2) (scarfref01_Next.j3 (k + 1) y0 y1 y2)) ∧ (∀ y0 y1 y2, LeO (scarfref01_Next.j4 k y0 y1 y2) (scarfref01_Next.j4 (k + 1) y0 y1 y2)) ∧ (∀ y0 y1 y2 y3, LeO (scarfref01_Next.l1 k y0 y1 y2 y3) (scarfref01_Next.l1 (k + 1) y0 y1 y2 y3))
  | 0 => ⟨fun _ _ r h => by simp [scarfref01_Next.l0] at h, fun _ _ _ r h => by simp [scarfref01_Next.j1] at h, fun _ _ _ r h => by simp [scarfref01_Next.j2] at h, fun _ _ _ r h => by simp [scarfref01_Next.j3] at h, fun _ _ _ r h => by simp [scarfref01_Next.j4] at h, fun _ _ _ _ r h => by simp [scarfref01_Next.l1] at h⟩
  | k + 1 => by
    obtain ⟨ih0, ih1, ih2, ih3, ih4, ih5⟩ := scarfref01_Next.mono_l k
    refine ⟨?_, ?_, ?_, ?_, ?_, ?_⟩
    · intro y0 y1
      unfold scarfref01_Next.l0
      repeat' first
      | (with_reducible exact ih0 _ _)
      | (with_reducible exact ih1 _ _ _)
      | (with_reducible exact ih2 _ _ _)
      | (with_reducible exact ih3 _ _ _)
      | (with_reducible exact ih4 _ _ _)
      | (with_reducible exact ih5 _ _ _ _)
      | (with_reducible exact LeO.refl _)
      | (with_reducible exact LeO.none _)
      | (with_reducible refine LeO.ite ?_ ?_)
      | (with_reducible refine LeO.bind ?_ (fun _ => ?_))
      | exact ih0 _ _
      | exact ih1 _ _ _
      | exact ih2 _ _ _
      | exact ih3 _ _ _
      | exact ih4 _ _ _
      | exact ih5 _ _ _ _
      | exact LeO.none _
      | refine LeO.ite ?_ ?_
      | refine LeO.bind ?_ (fun _ => ?_)
    · intro y0 y1 y2
      unfold scarfref01_Next.j1
      repeat' first
      | (with_reducible exact ih0 _ _)
      | (with_reducible exact ih1 _ _ _)
      | (with_reducible exact ih2 _ _ _)
      | (with_reducible exact ih3 _ _ _)
      | (with_reducible exact ih4 _ _ _)
      | (with_reducible exact ih5 _ _ _ _)
      | (with_reducible exact LeO.refl _)
      | (with_reducible exact LeO.none _)
      | (with_reducible refine LeO.ite ?_ ?_)
      | (with_reducible refine LeO.bind ?_ (fun _ => ?_))
      | exact ih0 _ _
      | exact ih1 _ _ _
      | exact ih2 _ _ _
      | exact ih3 _ _ _
      | exact ih4 _ _ _
      | exact ih5 _ _ _ _
      | exact LeO.none _
      | refine LeO.ite ?_ ?_
      | refine LeO.bind ?_ (fun _ => ?_)
    · intro y0 y1 y2
      unfold scarfref01_Next.j2
      repeat' first
      | (with_reducible exact ih0 _ _)
      | (with_reducible exact ih1 _ _ _)
      | (with_reducible exact ih2 _ _ _)
      | (with_reducible exact ih3 _ _ _)
      | (with_reducible exact ih4 _ _ _)
      | (with_reducible exact ih5 _ _ _ _)
      | (with_reducible exact LeO.refl _)
      | (with_reducible exact LeO.none _)
      | (with_reducible refine LeO.ite ?_ ?_)
      | (with_reducible refine LeO.bind ?_ (fun _ => ?_))
      | exact ih0 _ _
      | exact ih1 _ _ _
      | exact ih2 _ _ _
      | exact ih3 _ _ _
      | exact ih4 _ _ _
      | exact ih5 _ _ _ _
      | exact LeO.none _
      | refine LeO.ite ?_ ?_
      | refine LeO.bind ?_ (fun _ => ?_)
    · intro y0 y1 y2
      unfold scarfref01_Next.j3
      repeat' first
      | (with_reducible exact ih0 _ _)
      | (with_reducible exact ih1 _ _ _)
      | (with_reducible exact ih2 _ _ _)
      | (with_reducible exact ih3 _ _ _)
      | (with_reducible exact ih4 _ _ _)
      | (with_reducible exact ih5 _ _ _ _)
      | (with_reducible exact LeO.refl _)
      | (with_reducible exact LeO.none _)
      | (with_reducible refine LeO.ite ?_ ?_)
      | (with_reducible refine LeO.bind ?_ (fun _ => ?_))
      | exact ih0 _ _
      | exact ih1 _ _ _
      | exact ih2 _ _ _
      | exact ih3 _ _ _
      | exact ih4 _ _ _
      | exact ih5 _ _ _ _
      | exact LeO.none _
      | refine LeO.ite ?_ ?_
      | refine LeO.bind ?_ (fun _ => ?_)
    · intro y0 y1 y2
      unfold scarfref01_Next.j4
      repeat' first
      | (with_reducible exact ih0 _ _)
      | (with_reducible exact ih1 _ _ _)
      | (with_reducible exact ih2 _ _ _)
      | (with_reducible exact ih3 _ _ _)
      | (with_reducible exact ih4 _ _ _)
      | (with_reducible exact ih5 _ _ _ _)
      | (with_reducible exact LeO.refl _)
      | (with_reducible exact LeO.none _)
      | (with_reducible refine LeO.ite ?_ ?_)
      | (with_reducible refine LeO.bind ?_ (fun _ => ?_))
      | exact ih0 _ _
      | exact ih1 _ _ _
      | exact ih2 _ _ _
      | exact ih3 _ _ _
      | exact ih4 _ _ _
      | exact ih5 _ _ _ _
      | exact LeO.none _
      | refine LeO.ite ?_ ?_
      | refine LeO.bind ?_ (fun _ => ?_)
    · intro y0 y1 y2 y3
      unfold scarfref01_Next.l1
      repeat' first
      | (with_reducible exact ih0 _ _)
      | (with_reducible exact ih1 _ _ _)
      | (with_reducible exact ih2 _ _ _)
      | (with_reducible exact ih3 _ _ _)
      | (with_reducible exact ih4 _ _ _)
      | (with_reducible exact ih5 _ _ _ _)
      | (with_reducible exact LeO.refl _)
      | (with_reducible exact LeO.none _)
      | (with_reducible refine LeO.ite ?_ ?_)
      | (with_reducible refine LeO.bind ?_ (fun _ => ?_))
      | exact ih0 _ _
      | exact ih1 _ _ _
      | exact ih2 _ _ _
      | exact ih3 _ _ _
      | exact ih4 _ _ _
      | exact ih5 _ _ _ _
      | exact LeO.none _
      | refine LeO.ite ?_ ?_
      | refine LeO.bind ?_ (fun _ => ?_)
theorem scarfref01_Next.mono : ∀ a0 k, LeO (scarfref01_Next.f k a0) (scarfref01_Next.f (k + 1) a0) := by
  intro a0 k
  obtain ⟨ih0, ih1, ih2, ih3, ih4, ih5⟩ := scarfref01_Next.mono_l k
  unfold scarfref01_Next.f
  repeat' first
      | (with_reducible exact ih0 _ _)
      | (with_reducible exact ih1 _ _ _)
      | (with_reducible exact ih2 _ _ _)
      | (with_reducible exact ih3 _ _ _)
      | (with_reducible exact ih4 _ _ _)
      | (with_reducible exact ih5 _ _ _ _)
      | (with_reducible exact LeO.refl _)
      | (with_reducible exact LeO.none _)
      | (with_reducible refine LeO.ite ?_ ?_)
      | (with_reducible refine LeO.bind ?_ (fun _ => ?_))
      | exact ih0 _ _
      | exact ih1 _ _ _
      | exact ih2 _ _ _
      | exact ih3 _ _ _
      | exact ih4 _ _ _
      | exact ih5 _ _ _ _
      | exact LeO.none _
      | refine LeO.ite ?_ ?_
      | refine LeO.bind ?_ (fun _ => ?_)
set_option maxHeartbeats 8000000 in
set_option maxRecDepth 100000 in
theorem scarfref01_Next.calls (k : Nat) (A0 : Option Addr) (c0 : Nat) (l0 : List Int) (r1 : Int) (r2 : Int) (w : World) (hr0 : Kd.C (Kd.int .u8) w A0 l0.length l0) (hc0 : l0.length ≤ c0) (h : scarfref01_Next.f k l0 = some (r1, r2)) :
    Calls Tryd.prog 11 #[.slice A0 l0.length c0] w fun e w' => e = .returned (.tuple #[.int .i64 r1, .int .i64 r2]) ∧ Below w.heap.size w w' := by
  have HR0 := Aside0.mk hr0
  have HC0 := Aside0.mk hc0
  clear hr0 hc0
  have HB := Aside0.mk (Below.refl w.heap.size w)
  have H : (scarfref01_Next.l0 k l0 1) = some (r1, r2) := h
  clear h
  have H' := Aside0.mk H
  clear H
  go_enter Tryd.func11, Tryd.ntmps11
  go_wp2
  repeat (go_quiet (fail); try go_wp2)
  go_loopg [4] k (fun kq v4 w' => ∃ (x4_1 : Int), v4 = .int .i64 x4_1 ∧ Aside0 (scarfref01_Next.l0 kq l0 x4_1 = some (r1, r2)) ∧ Aside0 (kq ≤ k) ∧ Aside0 (Below w.heap.size w w'))
  case atStart => exact ⟨(1), (by first | rfl | (simp; done) | (simp [*]; done)), H', ⟨Nat.le_refl _⟩, ⟨by repeat (first | (with_reducible first | exact HB.out | apply below_alloc | apply pw_below_drewN | apply below_drew1) | exact HB.out)⟩⟩
  case round =>
    clear H'
    try clear c1
    obtain ⟨x4_1, rfl, HA, HK1, HB⟩ := hrel
    cases gk with
    | zero => exact absurd HA.out (by simp [scarfref01_Next.l0])
    | succ k1 =>
      have H := HA.out
      clear HA
      simp only [scarfref01_Next.l0] at H
      have HC2 := Aside0.mk H
      clear H
      go_upto_region 2 with (fail)
      repeat (go_quiet (fail); go_upto_region 2 with (fail))
      go_cut [16] (fun v16 wc => ∃ (kq : Nat) (x16_1 : Bool), v16 = .bool x16_1 ∧ Aside0 (scarfref01_Next.j1 kq l0 x4_1 x16_1 = some (r1, r2)) ∧ Aside0 (kq ≤ k1) ∧ Aside0 (Below w.heap.size w wc))
      case first =>
        have H := HC2.out
        clear HC2
        by_cases c3 : x4_1 ≤ 4
        · rw [if_pos c3] at H
          have c3b0 : decide (x4_1 ≤ 4) = true := decide_eq_true c3
          clear c3
          (first | rw [c3b0] | (simp only [i64_w, i32_w]; rw [c3b0]) | skip)
          have H' := Aside0.mk H
          clear H
          go_wp2
          repeat (go_quiet (fail); try go_wp2)
          go_meet
          case rel => exact ⟨_, (decide (x4_1 ≤ (l0.length : Int))), (by first | rfl | (simp; done) | (simp [*]; done)), H', ⟨by have := HK1.out; first | omega | exact Nat.le_refl _⟩, ⟨by repeat (first | (with_reducible first | exact HB.out | apply below_alloc | apply pw_below_drewN | apply below_drew1) | exact HB.out)⟩⟩
        · rw [if_neg c3] at H
          have c3b0 : decide (x4_1 ≤ 4) = false := decide_eq_false c3
          clear c3
          (first | rw [c3b0] | (simp only [i64_w, i32_w]; rw [c3b0]) | skip)
          have H' := Aside0.mk H
          clear H
          go_wp2
          repeat (go_quiet (fail); try go_wp2)
          go_meet
          case rel => exact ⟨_, (false), (by first | rfl | (simp; done) | (simp [*]; done)), H', ⟨by have := HK1.out; first | omega | exact Nat.le_refl _⟩, ⟨by repeat (first | (with_reducible first | exact HB.out | apply below_alloc | apply pw_below_drewN | apply below_drew1) | exact HB.out)⟩⟩
      case rest =>
        clear HC2
        try clear c1
        try clear p2
        try clear c3
        try clear c3b0
        obtain ⟨kq, x16_1, rfl, HA, HJ1, HB⟩ := hcut
        cases kq with
        | zero => exact absurd HA.out (by simp [scarfref01_Next.j1])
        | succ kj1 =>
          have H := HA.out
          clear HA
          simp only [scarfref01_Next.j1] at H
          by_cases c4 : x16_1 = true
          · subst c4
            have H1 : (if 0 < (l0.length : Int) then (if x4_1 = 2 then (scarfref01_Next.j2 kj1 l0 x4_1 (Int.tmod (wrap64 (rd l0 0)) 32)) else (scarfref01_Next.j2 kj1 l0 x4_1 (wrap64 (rd l0 0)))) else (none)) = some (r1, r2) := by rw [if_pos rfl] at H; exact H
            clear H
            have H := H1
            clear H1
            by_cases c5 : 0 < (l0.length : Int)
            · rw [if_pos c5] at H
              have c5b0 : decide (0 < (l0.length : Int)) = true := decide_eq_true c5
              have c5b1 : decide (0 < l0.length) = true := decide_eq_true (by omega)
              clear c5
              have HC6 := Aside0.mk H
              clear H
              have p140 : 0 ≤ (0 : Int) := (by omega)
              have q140 : 0 < (l0.length : Int) := of_decide_eq_true (by first | (with_reducible assumption) | assumption)
              obtain ⟨ad140, e140, hx140_0⟩ := Kd.at_int HR0.out 0 p140 q140
              cases e140
              have qi140 : (0 < l0.length) = True := eq_true (by omega)
              (try rw [show ((0 : Int)).toNat = 0 from rfl] at hx140_0)
              (try rw [Addr.add_zero'] at hx140_0)
              replace hx140_0 := (HB.out.cell (World.block_lt_of_cell? w _ hx140_0)).trans hx140_0
              replace p140 := eq_true p140
              replace q140 := eq_true q140
              go_upto_if 24 with (fail)
              repeat (go_quiet (fail); go_upto_if 24 with (fail))
              go_cut [5] (fun v5 wc => ∃ (kq : Nat) (x5_5 : Int), v5 = .int .i64 x5_5 ∧ Aside0 (scarfref01_Next.j2 kq l0 x4_1 x5_5 = some (r1, r2)) ∧ Aside0 (kq ≤ kj1) ∧ Aside0 (Below w.heap.size w wc))
              case first =>
                have H := HC6.out
                clear HC6
                by_cases c7 : x4_1 = 2
                · rw [if_pos c7] at H
                  have c7b0 : (x4_1 == 2) = true := beq_iff_eq.mpr c7
                  have c7b1 : (x4_1 != 2) = false := bne_eq_false_iff_eq.mpr c7
                  clear c7
                  (first | rw [c7b0] | (simp only [i64_w, i32_w]; rw [c7b0]) | skip)
                  have H' := Aside0.mk H
                  clear H
                  go_wp2
                  repeat (go_quiet (fail); try go_wp2)
                  go_meet
                  case rel => exact ⟨_, (Int.tmod (wrap64 (rd l0 0)) 32), (by first | rfl | (simp; done) | (simp [*]; done)), H', ⟨by have := HK1.out; have := HJ1.out; first | omega | exact Nat.le_refl _⟩, ⟨by repeat (first | (with_reducible first | exact HB.out | apply below_alloc | apply pw_below_drewN | apply below_drew1) | exact HB.out)⟩⟩
                · rw [if_neg c7] at H
                  have c7b0 : (x4_1 == 2) = false := beq_eq_false_iff_ne.mpr c7
                  have c7b1 : (x4_1 != 2) = true := bne_iff_ne.mpr c7
                  (first | rw [c7b0] | (simp only [i64_w, i32_w]; rw [c7b0]) | skip)
                  have H' := Aside0.mk H
                  clear H
                  go_wp2
                  repeat (go_quiet (fail); try go_wp2)
                  go_meet
                  case rel => exact ⟨_, (wrap64 (rd l0 0)), (by first | rfl | (simp; done) | (simp [*]; done)), H', ⟨by have := HK1.out; have := HJ1.out; first | omega | exact Nat.le_refl _⟩, ⟨by repeat (first | (with_reducible first | exact HB.out | apply below_alloc | apply pw_below_drewN | apply below_drew1) | exact HB.out)⟩⟩
              case rest =>
                clear HC6
                try clear c1
                try clear p1
                try clear q1
                try clear hx1
                try clear qi1
                try clear p2
                try clear c3
                try clear c3b0
                try clear c4
                try clear c5
                try clear c5b0
                try clear c5b1
                try clear p6
                try clear c7
                try clear c7b0
                try clear c7b1
                try clear hx140_0
                try clear p140
                try clear p2
                try clear q140
                obtain ⟨kq, x5_5, rfl, HA, HJ5, HB⟩ := hcut
                cases kq with
                | zero => exact absurd HA.out (by simp [scarfref01_Next.j2])
                | succ kj5 =>
                  have H := HA.out
                  clear HA
                  simp only [scarfref01_Next.j2] at H
                  have HC8 := Aside0.mk H
                  clear H
                  go_upto_if 28 with (fail)
                  repeat (go_quiet (fail); go_upto_if 28 with (fail))
                  go_cut [5] (fun v5 wc => ∃ (kq : Nat) (x5_7 : Int), v5 = .int .i64 x5_7 ∧ Aside0 (scarfref01_Next.j3 kq l0 x4_1 x5_7 = some (r1, r2)) ∧ Aside0 (kq ≤ kj5) ∧ Aside0 (Below w.heap.size w wc))
                  case first =>
                    have H := HC8.out
                    clear HC8
                    by_cases c9 : x4_1 = 3
                    · rw [if_pos c9] at H
                      have c9b0 : (x4_1 == 3) = true := beq_iff_eq.mpr c9
                      have c9b1 : (x4_1 != 3) = false := bne_eq_false_iff_eq.mpr c9
                      clear c9
                      (first | rw [c9b0] | (simp only [i64_w, i32_w]; rw [c9b0]) | skip)
                      have H' := Aside0.mk H
                      clear H
                      go_wp2
                      repeat (go_quiet (fail); try go_wp2)
                      go_meet
                      case rel => exact ⟨_, (Int.tmod x5_5 16), (by first | rfl | (simp; done) | (simp [*]; done)), H', ⟨by have := HK1.out; have := HJ1.out; have := HJ5.out; first | omega | exact Nat.le_refl _⟩, ⟨by repeat (first | (with_reducible first | exact HB.out | apply below_alloc | apply pw_below_drewN | apply below_drew1) | exact HB.out)⟩⟩
                    · rw [if_neg c9] at H
                      have c9b0 : (x4_1 == 3) = false := beq_eq_false_iff_ne.mpr c9
                      have c9b1 : (x4_1 != 3) = true := bne_iff_ne.mpr c9
                      (first | rw [c9b0] | (simp only [i64_w, i32_w]; rw [c9b0]) | skip)
                      have H' := Aside0.mk H
                      clear H
                      go_wp2
                      repeat (go_quiet (fail); try go_wp2)
                      go_meet
                      case rel => exact ⟨_, (x5_5), (by first | rfl | (simp; done) | (simp [*]; done)), H', ⟨by have := HK1.out; have := HJ1.out; have := HJ5.out; first | omega | exact Nat.le_refl _⟩, ⟨by repeat (first | (with_reducible first | exact HB.out | apply below_alloc | apply pw_below_drewN | apply below_drew1) | exact HB.out)⟩⟩
                  case rest =>
                    clear HC8
                    try clear c1
                    try clear p1
                    try clear q1
                    try clear hx1
                    try clear qi1
                    try clear p2
                    try clear c3
                    try clear c3b0
                    try clear c4
                    try clear c5
                    try clear c5b0
                    try clear c5b1
                    try clear p6
                    try clear c7
                    try clear c7b0
                    try clear c7b1
                    try clear c9
                    try clear c9b0
                    try clear c9b1
                    try clear hx140_0
                    try clear p1
                    try clear p140
                    try clear p2
                    try clear p6
                    try clear q1
                    try clear q140
                    obtain ⟨kq, x5_7, rfl, HA, HJ7, HB⟩ := hcut
                    cases kq with
                    | zero => exact absurd HA.out (by simp [scarfref01_Next.j3])
                    | succ kj7 =>
                      have H := HA.out
                      clear HA
                      simp only [scarfref01_Next.j3] at H
                      have HC10 := Aside0.mk H
                      clear H
                      go_upto_if 32 with (fail)
                      repeat (go_quiet (fail); go_upto_if 32 with (fail))
                      go_cut [5] (fun v5 wc => ∃ (kq : Nat) (x5_9 : Int), v5 = .int .i64 x5_9 ∧ Aside0 (scarfref01_Next.j4 kq l0 x4_1 x5_9 = some (r1, r2)) ∧ Aside0 (kq ≤ kj7) ∧ Aside0 (Below w.heap.size w wc))
                      case first =>
                        have H := HC10.out
                        clear HC10
                        by_cases c11 : x4_1 = 4
                        · rw [if_pos c11] at H
                          have c11b0 : (x4_1 == 4) = true := beq_iff_eq.mpr c11
                          have c11b1 : (x4_1 != 4) = false := bne_eq_false_iff_eq.mpr c11
                          clear c11
                          (first | rw [c11b0] | (simp only [i64_w, i32_w]; rw [c11b0]) | skip)
                          have H' := Aside0.mk H
                          clear H
                          go_wp2
                          repeat (go_quiet (fail); try go_wp2)
                          go_meet
                          case rel => exact ⟨_, (Int.tmod x5_7 8), (by first | rfl | (simp; done) | (simp [*]; done)), H', ⟨by have := HK1.out; have := HJ1.out; have := HJ5.out; have := HJ7.out; first | omega | exact Nat.le_refl _⟩, ⟨by repeat (first | (with_reducible first | exact HB.out | apply below_alloc | apply pw_below_drewN | apply below_drew1) | exact HB.out)⟩⟩
                        · rw [if_neg c11] at H
                          have c11b0 : (x4_1 == 4) = false := beq_eq_false_iff_ne.mpr c11
                          have c11b1 : (x4_1 != 4) = true := bne_iff_ne.mpr c11
                          (first | rw [c11b0] | (simp only [i64_w, i32_w]; rw [c11b0]) | skip)
                          have H' := Aside0.mk H
                          clear H
                          go_wp2
                          repeat (go_quiet (fail); try go_wp2)
                          go_meet
                          case rel => exact ⟨_, (x5_7), (by first | rfl | (simp; done) | (simp [*]; done)), H', ⟨by have := HK1.out; have := HJ1.out; have := HJ5.out; have := HJ7.out; first | omega | exact Nat.le_refl _⟩, ⟨by repeat (first | (with_reducible first | exact HB.out | apply below_alloc | apply pw_below_drewN | apply below_drew1) | exact HB.out)⟩⟩
                      case rest =>
                        clear HC10
                        try clear c1
                        try clear p1
                        try clear q1
                        try clear hx1
                        try clear qi1
                        try clear p2
                        try clear c3
                        try clear c3b0
                        try clear c4
                        try clear c5
                        try clear c5b0
                        try clear c5b1
                        try clear p6
                        try clear c7
                        try clear c7b0
                        try clear c7b1
                        try clear c9
                        try clear c9b0
                        try clear c9b1
                        try clear c11
                        try clear c11b0
                        try clear c11b1
                        try clear hx140_0
                        try clear p1
                        try clear p140
                        try clear p2
                        try clear p6
                        try clear q1
                        try clear q140
                        obtain ⟨kq, x5_9, rfl, HA, HJ9, HB⟩ := hcut
                        cases kq with
                        | zero => exact absurd HA.out (by simp [scarfref01_Next.j4])
                        | succ kj9 =>
                          have H := HA.out
                          clear HA
                          simp only [scarfref01_Next.j4] at H
                          have H' := Aside0.mk H
                          clear H
                          go_wp2
                          repeat (go_quiet (fail); try go_wp2)
                          go_loopg [5, 6] kj9 (fun kq v5 v6 w' => ∃ (x5_6 : Int) (x6_6 : Int), v5 = .int .i64 x5_6 ∧ v6 = .int .i64 x6_6 ∧ Aside0 (scarfref01_Next.l1 kq l0 x4_1 x5_6 x6_6 = some (r1, r2)) ∧ Aside0 (kq ≤ kj9) ∧ Aside0 (Below w.heap.size w w'))
                          case atStart => exact ⟨(x5_9), (1), (by first | rfl | (simp; done) | (simp [*]; done)), (by first | rfl | (simp; done) | (simp [*]; done)), H', ⟨Nat.le_refl _⟩, ⟨by repeat (first | (with_reducible first | exact HB.out | apply below_alloc | apply pw_below_drewN | apply below_drew1) | exact HB.out)⟩⟩
                          case round =>
                            clear H'
                            try clear c1
                            try clear p1
                            try clear q1
                            try clear hx1
                            try clear qi1
                            try clear p2
                            try clear c3
                            try clear c3b0
                            try clear c4
                            try clear c5
                            try clear c5b0
                            try clear c5b1
                            try clear p6
                            try clear c7
                            try clear c7b0
                            try clear c7b1
                            try clear c9
                            try clear c9b0
                            try clear c9b1
                            try clear c11
                            try clear c11b0
                            try clear c11b1
                            try clear hx140_0
                            try clear p1
                            try clear p140
                            try clear p2
                            try clear p6
                            try clear q1
                            try clear q140
                            obtain ⟨x5_6, x6_6, rfl, rfl, HA, HK6, HB⟩ := hrel
                            cases gk with
                            | zero => exact absurd HA.out (by simp [scarfref01_Next.l1])
                            | succ k6 =>
                              have H := HA.out
                              clear HA
                              simp only [scarfref01_Next.l1] at H
                              by_cases c12 : x6_6 < x4_1
                              · rw [if_pos c12] at H
                                have c12b0 : decide (x6_6 < x4_1) = true := decide_eq_true c12
                                clear c12
                                by_cases c13 : 0 ≤ x6_6
                                · rw [if_pos c13] at H
                                  have c13b0 : decide (0 ≤ x6_6) = true := decide_eq_true c13
                                  clear c13
                                  by_cases c14 : x6_6 < (l0.length : Int)
                                  · rw [if_pos c14] at H
                                    have c14b0 : decide (x6_6 < (l0.length : Int)) = true := decide_eq_true c14
                                    clear c14
                                    have H' := Aside0.mk H
                                    clear H
                                    have p141 : 0 ≤ (x6_6 : Int) := of_decide_eq_true (by first | (with_reducible assumption) | assumption)
                                    have q141 : x6_6 < (l0.length : Int) := of_decide_eq_true (by first | (with_reducible assumption) | assumption)
                                    obtain ⟨ad141, e141, hx141_0⟩ := Kd.at_int HR0.out x6_6 p141 q141
                                    obtain rfl : ad140 = ad141 := (by injection e141)
                                    replace hx141_0 := (HB.out.cell (World.block_lt_of_cell? w _ hx141_0)).trans hx141_0
                                    replace p141 := eq_true p141
                                    replace q141 := eq_true q141
                                    go_wp2
                                    repeat (go_quiet (fail); try go_wp2)
                                    go_roundg k6
                                    case measure => have := HK1.out; have := HJ1.out; have := HJ5.out; have := HJ7.out; have := HJ9.out; have := HK6.out; omega
                                    case rel => exact ⟨(wrap64 ((wrap64 (64 * x5_6)) + (Int.tmod (wrap64 (rd l0 x6_6)) 64))), (wrap64 (x6_6 + 1)), (by first | rfl | (simp; done) | (simp [*]; done)), (by first | rfl | (simp; done) | (simp [*]; done)), H', ⟨by have := HK1.out; have := HJ1.out; have := HJ5.out; have := HJ7.out; have := HJ9.out; have := HK6.out; omega⟩, ⟨by repeat (first | (with_reducible first | exact HB.out | apply below_alloc | apply pw_below_drewN | apply below_drew1) | exact HB.out)⟩⟩
                                  · rw [if_neg c14] at H
                                    exact absurd H (by simp)
                                · rw [if_neg c13] at H
                                  exact absurd H (by simp)
                              · rw [if_neg c12] at H
                                have c12b0 : decide (x6_6 < x4_1) = false := decide_eq_false c12
                                clear c12
                                replace H := Option.bind_eq_some_iff.mp H
                                obtain ⟨⟨t142, t143⟩, A150, H⟩ := H
                                replace H : (if t143 = 0 then (if 0 ≤ x4_1 then (if x4_1 ≤ (l0.length : Int) then (if (strOfNums t142).toList = (strOfNums (l0.take (x4_1 : Int).toNat)).toList then (some (x5_6, x4_1)) else (scarfref01_Next.l0 k6 l0 (wrap64 (x4_1 + 1)))) else (none)) else (none)) else (scarfref01_Next.l0 k6 l0 (wrap64 (x4_1 + 1)))) = some (r1, r2) := H
                                have A15 := Aside0.mk A150
                                clear A150
                                by_cases c16 : t143 = 0
                                · rw [if_pos c16] at H
                                  have c16b0 : (t143 == 0) = true := beq_iff_eq.mpr c16
                                  have c16b1 : (t143 != 0) = false := bne_eq_false_iff_eq.mpr c16
                                  clear c16
                                  by_cases c17 : 0 ≤ x4_1
                                  · rw [if_pos c17] at H
                                    have c17b0 := eq_true c17
                                    have c17b1 : decide (0 ≤ x4_1) = true := decide_eq_true c17
                                    clear c17
                                    by_cases c18 : x4_1 ≤ (l0.length : Int)
                                    · rw [if_pos c18] at H
                                      have c18b0 := eq_true c18
                                      have c18b1 : decide (x4_1 ≤ (l0.length : Int)) = true := decide_eq_true c18
                                      clear c18
                                      by_cases c19 : (strOfNums t142).toList = (strOfNums (l0.take (x4_1 : Int).toNat)).toList
                                      · rw [if_pos c19] at H
                                        have c19b0 : ((strOfNums t142).toList == (strOfNums (l0.take (x4_1 : Int).toNat)).toList) = true := beq_iff_eq.mpr c19
                                        have c19b1 : ((strOfNums t142).toList != (strOfNums (l0.take (x4_1 : Int).toNat)).toList) = false := bne_eq_false_iff_eq.mpr c19
                                        clear c19
                                        simp only [Option.some.injEq, Prod.mk.injEq] at H
                                        obtain ⟨rfl, rfl⟩ := H
                                        go_wp2_with (first | (go_at_call 14; (with_reducible refine (scarfref01_Bytes.calls x5_6 t142 t143 _ A15.out).mono ?_); rintro e w20 ⟨v144, rfl, ho0, hb⟩; have n0_ := Aside0.mk (Kd.R_lower ho0 (below_size (by repeat (first | (with_reducible first | exact HB.out | apply below_alloc | apply pw_below_drewN | apply below_drew1) | exact HB.out)))); have n1_ := Aside0.mk (below_step (by repeat (first | (with_reducible first | exact HB.out | apply below_alloc | apply pw_below_drewN | apply below_drew1) | exact HB.out)) hb); clear HB; have HO145 := n0_; have HB := n1_; clear n0_ n1_; (try clear hb); (try clear hb2); (try clear hk); (try clear hi); (try clear ho0); have hcv21 := own_string (P := Tryd.prog) Tryd.underlying22 Tryd.underlying5 Tryd.underlying9 (Kd.own_of_R HO145.out); (try (have hcn21 := fun n_ : Nat => own_string (P := Tryd.prog) Tryd.underlying22 Tryd.underlying5 Tryd.underlying9 (Kd.own_of_R (Kd.R_drewN HO145.out n_)))); obtain ⟨i022, hi022, _, hsz22, _⟩ := info_parts info5; obtain ⟨hcut22, hA22, hC22⟩ := print_take_of (P := Tryd.prog) (Value.int .u8) 0 22 5 .i64 Tryd.underlying22 hi022 hsz22 (some ad140) c0 l0 x4_1 (of_decide_eq_true (by first | (with_reducible assumption) | assumption)) (of_decide_eq_true (by first | (with_reducible assumption) | assumption)) HC0.out; have HR146 := Aside0.mk (Kd.C_of_reads (h1 := fun _ => rfl) (hA22 _ (Kd.reads_of_C HR0.out))); have HC146 := Aside0.mk hC22; clear hA22 hC22 hi022 hsz22; have hcv23 := Kd.C_string (P := Tryd.prog) (A := (some ad140)) (c := c0) Tryd.underlying22 Tryd.underlying5 Tryd.underlying9 (Kd.C_below HR146.out HB.out); (try (have hcv23t := hcv23; simp only [Int.reduceToNat, show (l0.take (x4_1 : Int).toNat).length = x4_1.toNat from (by rw [List.length_take]; have h_ : (x4_1 : Int) ≤ (l0.length : Int) := of_decide_eq_true (by first | (with_reducible assumption) | assumption); omega)] at hcv23t)); (try (have hcv23m := hcv23; simp only [List.length_take, List.length_drop, Int.reduceToNat] at hcv23m)); have hcn23 := fun n_ : Nat => Kd.C_string (P := Tryd.prog) (A := (some ad140)) (c := c0) Tryd.underlying22 Tryd.underlying5 Tryd.underlying9 (Kd.C_drewN (Kd.C_below HR146.out HB.out) n_); (try (have hcn23t := hcn23; simp only [Int.reduceToNat, show (l0.take (x4_1 : Int).toNat).length = x4_1.toNat from (by rw [List.length_take]; have h_ : (x4_1 : Int) ≤ (l0.length : Int) := of_decide_eq_true (by first | (with_reducible assumption) | assumption); omega)] at hcn23t)); (try (have hcn23m := hcn23; simp only [List.length_take, List.length_drop, Int.reduceToNat] at hcn23m))))
                                        repeat (go_quiet (first | (go_at_call 14; (with_reducible refine (scarfref01_Bytes.calls x5_6 t142 t143 _ A15.out).mono ?_); rintro e w20 ⟨v144, rfl, ho0, hb⟩; have n0_ := Aside0.mk (Kd.R_lower ho0 (below_size (by repeat (first | (with_reducible first | exact HB.out | apply below_alloc | apply pw_below_drewN | apply below_drew1) | exact HB.out)))); have n1_ := Aside0.mk (below_step (by repeat (first | (with_reducible first | exact HB.out | apply below_alloc | apply pw_below_drewN | apply below_drew1) | exact HB.out)) hb); clear HB; have HO145 := n0_; have HB := n1_; clear n0_ n1_; (try clear hb); (try clear hb2); (try clear hk); (try clear hi); (try clear ho0); have hcv21 := own_string (P := Tryd.prog) Tryd.underlying22 Tryd.underlying5 Tryd.underlying9 (Kd.own_of_R HO145.out); (try (have hcn21 := fun n_ : Nat => own_string (P := Tryd.prog) Tryd.underlying22 Tryd.underlying5 Tryd.underlying9 (Kd.own_of_R (Kd.R_drewN HO145.out n_)))); obtain ⟨i022, hi022, _, hsz22, _⟩ := info_parts info5; obtain ⟨hcut22, hA22, hC22⟩ := print_take_of (P := Tryd.prog) (Value.int .u8) 0 22 5 .i64 Tryd.underlying22 hi022 hsz22 (some ad140) c0 l0 x4_1 (of_decide_eq_true (by first | (with_reducible assumption) | assumption)) (of_decide_eq_true (by first | (with_reducible assumption) | assumption)) HC0.out; have HR146 := Aside0.mk (Kd.C_of_reads (h1 := fun _ => rfl) (hA22 _ (Kd.reads_of_C HR0.out))); have HC146 := Aside0.mk hC22; clear hA22 hC22 hi022 hsz22; have hcv23 := Kd.C_string (P := Tryd.prog) (A := (some ad140)) (c := c0) Tryd.underlying22 Tryd.underlying5 Tryd.underlying9 (Kd.C_below HR146.out HB.out); (try (have hcv23t := hcv23; simp only [Int.reduceToNat, show (l0.take (x4_1 : Int).toNat).length = x4_1.toNat from (by rw [List.length_take]; have h_ : (x4_1 : Int) ≤ (l0.length : Int) := of_decide_eq_true (by first | (with_reducible assumption) | assumption); omega)] at hcv23t)); (try (have hcv23m := hcv23; simp only [List.length_take, List.length_drop, Int.reduceToNat] at hcv23m)); have hcn23 := fun n_ : Nat => Kd.C_string (P := Tryd.prog) (A := (some ad140)) (c := c0) Tryd.underlying22 Tryd.underlying5 Tryd.underlying9 (Kd.C_drewN (Kd.C_below HR146.out HB.out) n_); (try (have hcn23t := hcn23; simp only [Int.reduceToNat, show (l0.take (x4_1 : Int).toNat).length = x4_1.toNat from (by rw [List.length_take]; have h_ : (x4_1 : Int) ≤ (l0.length : Int) := of_decide_eq_true (by first | (with_reducible assumption) | assumption); omega)] at hcn23t)); (try (have hcn23m := hcn23; simp only [List.length_take, List.length_drop, Int.reduceToNat] at hcn23m)))); try go_wp2_with (first | (go_at_call 14; (with_reducible refine (scarfref01_Bytes.calls x5_6 t142 t143 _ A15.out).mono ?_); rintro e w20 ⟨v144, rfl, ho0, hb⟩; have n0_ := Aside0.mk (Kd.R_lower ho0 (below_size (by repeat (first | (with_reducible first | exact HB.out | apply below_alloc | apply pw_below_drewN | apply below_drew1) | exact HB.out)))); have n1_ := Aside0.mk (below_step (by repeat (first | (with_reducible first | exact HB.out | apply below_alloc | apply pw_below_drewN | apply below_drew1) | exact HB.out)) hb); clear HB; have HO145 := n0_; have HB := n1_; clear n0_ n1_; (try clear hb); (try clear hb2); (try clear hk); (try clear hi); (try clear ho0); have hcv21 := own_string (P := Tryd.prog) Tryd.underlying22 Tryd.underlying5 Tryd.underlying9 (Kd.own_of_R HO145.out); (try (have hcn21 := fun n_ : Nat => own_string (P := Tryd.prog) Tryd.underlying22 Tryd.underlying5 Tryd.underlying9 (Kd.own_of_R (Kd.R_drewN HO145.out n_)))); obtain ⟨i022, hi022, _, hsz22, _⟩ := info_parts info5; obtain ⟨hcut22, hA22, hC22⟩ := print_take_of (P := Tryd.prog) (Value.int .u8) 0 22 5 .i64 Tryd.underlying22 hi022 hsz22 (some ad140) c0 l0 x4_1 (of_decide_eq_true (by first | (with_reducible assumption) | assumption)) (of_decide_eq_true (by first | (with_reducible assumption) | assumption)) HC0.out; have HR146 := Aside0.mk (Kd.C_of_reads (h1 := fun _ => rfl) (hA22 _ (Kd.reads_of_C HR0.out))); have HC146 := Aside0.mk hC22; clear hA22 hC22 hi022 hsz22; have hcv23 := Kd.C_string (P := Tryd.prog) (A := (some ad140)) (c := c0) Tryd.underlying22 Tryd.underlying5 Tryd.underlying9 (Kd.C_below HR146.out HB.out); (try (have hcv23t := hcv23; simp only [Int.reduceToNat, show (l0.take (x4_1 : Int).toNat).length = x4_1.toNat from (by rw [List.length_take]; have h_ : (x4_1 : Int) ≤ (l0.length : Int) := of_decide_eq_true (by first | (with_reducible assumption) | assumption); omega)] at hcv23t)); (try (have hcv23m := hcv23; simp only [List.length_take, List.length_drop, Int.reduceToNat] at hcv23m)); have hcn23 := fun n_ : Nat => Kd.C_string (P := Tryd.prog) (A := (some ad140)) (c := c0) Tryd.underlying22 Tryd.underlying5 Tryd.underlying9 (Kd.C_drewN (Kd.C_below HR146.out HB.out) n_); (try (have hcn23t := hcn23; simp only [Int.reduceToNat, show (l0.take (x4_1 : Int).toNat).length = x4_1.toNat from (by rw [List.length_take]; have h_ : (x4_1 : Int) ≤ (l0.length : Int) := of_decide_eq_true (by first | (with_reducible assumption) | assumption); omega)] at hcn23t)); (try (have hcn23m := hcn23; simp only [List.length_take, List.length_drop, Int.reduceToNat] at hcn23m)))))
                                        go_ret2
                                        exact ⟨by first | rfl | (simp [errW_none, errW_some] <;> rfl) | (simp [*, errW_none, errW_some] <;> rfl), by repeat (first | (with_reducible first | exact HB.out | apply below_alloc | apply pw_below_drewN | apply below_drew1) | exact HB.out)⟩
                                      · rw [if_neg c19] at H
                                        have c19b0 : ((strOfNums t142).toList == (strOfNums (l0.take (x4_1 : Int).toNat)).toList) = false := beq_eq_false_iff_ne.mpr c19
                                        have c19b1 : ((strOfNums t142).toList != (strOfNums (l0.take (x4_1 : Int).toNat)).toList) = true := bne_iff_ne.mpr c19
                                        have H' := Aside0.mk H
                                        clear H
                                        go_wp2_with (first | (go_at_call 14; (with_reducible refine (scarfref01_Bytes.calls x5_6 t142 t143 _ A15.out).mono ?_); rintro e w24 ⟨v144, rfl, ho0, hb⟩; have n0_ := Aside0.mk (Kd.R_lower ho0 (below_size (by repeat (first | (with_reducible first | exact HB.out | apply below_alloc | apply pw_below_drewN | apply below_drew1) | exact HB.out)))); have n1_ := Aside0.mk (below_step (by repeat (first | (with_reducible first | exact HB.out | apply below_alloc | apply pw_below_drewN | apply below_drew1) | exact HB.out)) hb); clear HB; have HO145 := n0_; have HB := n1_; clear n0_ n1_; (try clear hb); (try clear hb2); (try clear hk); (try clear hi); (try clear ho0); have hcv25 := own_string (P := Tryd.prog) Tryd.underlying22 Tryd.underlying5 Tryd.underlying9 (Kd.own_of_R HO145.out); (try (have hcn25 := fun n_ : Nat => own_string (P := Tryd.prog) Tryd.underlying22 Tryd.underlying5 Tryd.underlying9 (Kd.own_of_R (Kd.R_drewN HO145.out n_)))); obtain ⟨i026, hi026, _, hsz26, _⟩ := info_parts info5; obtain ⟨hcut26, hA26, hC26⟩ := print_take_of (P := Tryd.prog) (Value.int .u8) 0 22 5 .i64 Tryd.underlying22 hi026 hsz26 (some ad140) c0 l0 x4_1 (of_decide_eq_true (by first | (with_reducible assumption) | assumption)) (of_decide_eq_true (by first | (with_reducible assumption) | assumption)) HC0.out; have HR146 := Aside0.mk (Kd.C_of_reads (h1 := fun _ => rfl) (hA26 _ (Kd.reads_of_C HR0.out))); have HC146 := Aside0.mk hC26; clear hA26 hC26 hi026 hsz26; have hcv27 := Kd.C_string (P := Tryd.prog) (A := (some ad140)) (c := c0) Tryd.underlying22 Tryd.underlying5 Tryd.underlying9 (Kd.C_below HR146.out HB.out); (try (have hcv27t := hcv27; simp only [Int.reduceToNat, show (l0.take (x4_1 : Int).toNat).length = x4_1.toNat from (by rw [List.length_take]; have h_ : (x4_1 : Int) ≤ (l0.length : Int) := of_decide_eq_true (by first | (with_reducible assumption) | assumption); omega)] at hcv27t)); (try (have hcv27m := hcv27; simp only [List.length_take, List.length_drop, Int.reduceToNat] at hcv27m)); have hcn27 := fun n_ : Nat => Kd.C_string (P := Tryd.prog) (A := (some ad140)) (c := c0) Tryd.underlying22 Tryd.underlying5 Tryd.underlying9 (Kd.C_drewN (Kd.C_below HR146.out HB.out) n_); (try (have hcn27t := hcn27; simp only [Int.reduceToNat, show (l0.take (x4_1 : Int).toNat).length = x4_1.toNat from (by rw [List.length_take]; have h_ : (x4_1 : Int) ≤ (l0.length : Int) := of_decide_eq_true (by first | (with_reducible assumption) | assumption); omega)] at hcn27t)); (try (have hcn27m := hcn27; simp only [List.length_take, List.length_drop, Int.reduceToNat] at hcn27m))))
                                        repeat (go_quiet (first | (go_at_call 14; (with_reducible refine (scarfref01_Bytes.calls x5_6 t142 t143 _ A15.out).mono ?_); rintro e w24 ⟨v144, rfl, ho0, hb⟩; have n0_ := Aside0.mk (Kd.R_lower ho0 (below_size (by repeat (first | (with_reducible first | exact HB.out | apply below_alloc | apply pw_below_drewN | apply below_drew1) | exact HB.out)))); have n1_ := Aside0.mk (below_step (by repeat (first | (with_reducible first | exact HB.out | apply below_alloc | apply pw_below_drewN | apply below_drew1) | exact HB.out)) hb); clear HB; have HO145 := n0_; have HB := n1_; clear n0_ n1_; (try clear hb); (try clear hb2); (try clear hk); (try clear hi); (try clear ho0); have hcv25 := own_string (P := Tryd.prog) Tryd.underlying22 Tryd.underlying5 Tryd.underlying9 (Kd.own_of_R HO145.out); (try (have hcn25 := fun n_ : Nat => own_string (P := Tryd.prog) Tryd.underlying22 Tryd.underlying5 Tryd.underlying9 (Kd.own_of_R (Kd.R_drewN HO145.out n_)))); obtain ⟨i026, hi026, _, hsz26, _⟩ := info_parts info5; obtain ⟨hcut26, hA26, hC26⟩ := print_take_of (P := Tryd.prog) (Value.int .u8) 0 22 5 .i64 Tryd.underlying22 hi026 hsz26 (some ad140) c0 l0 x4_1 (of_decide_eq_true (by first | (with_reducible assumption) | assumption)) (of_decide_eq_true (by first | (with_reducible assumption) | assumption)) HC0.out; have HR146 := Aside0.mk (Kd.C_of_reads (h1 := fun _ => rfl) (hA26 _ (Kd.reads_of_C HR0.out))); have HC146 := Aside0.mk hC26; clear hA26 hC26 hi026 hsz26; have hcv27 := Kd.C_string (P := Tryd.prog) (A := (some ad140)) (c := c0) Tryd.underlying22 Tryd.underlying5 Tryd.underlying9 (Kd.C_below HR146.out HB.out); (try (have hcv27t := hcv27; simp only [Int.reduceToNat, show (l0.take (x4_1 : Int).toNat).length = x4_1.toNat from (by rw [List.length_take]; have h_ : (x4_1 : Int) ≤ (l0.length : Int) := of_decide_eq_true (by first | (with_reducible assumption) | assumption); omega)] at hcv27t)); (try (have hcv27m := hcv27; simp only [List.length_take, List.length_drop, Int.reduceToNat] at hcv27m)); have hcn27 := fun n_ : Nat => Kd.C_string (P := Tryd.prog) (A := (some ad140)) (c := c0) Tryd.underlying22 Tryd.underlying5 Tryd.underlying9 (Kd.C_drewN (Kd.C_below HR146.out HB.out) n_); (try (have hcn27t := hcn27; simp only [Int.reduceToNat, show (l0.take (x4_1 : Int).toNat).length = x4_1.toNat from (by rw [List.length_take]; have h_ : (x4_1 : Int) ≤ (l0.length : Int) := of_decide_eq_true (by first | (with_reducible assumption) | assumption); omega)] at hcn27t)); (try (have hcn27m := hcn27; simp only [List.length_take, List.length_drop, Int.reduceToNat] at hcn27m)))); try go_wp2_with (first | (go_at_call 14; (with_reducible refine (scarfref01_Bytes.calls x5_6 t142 t143 _ A15.out).mono ?_); rintro e w24 ⟨v144, rfl, ho0, hb⟩; have n0_ := Aside0.mk (Kd.R_lower ho0 (below_size (by repeat (first | (with_reducible first | exact HB.out | apply below_alloc | apply pw_below_drewN | apply below_drew1) | exact HB.out)))); have n1_ := Aside0.mk (below_step (by repeat (first | (with_reducible first | exact HB.out | apply below_alloc | apply pw_below_drewN | apply below_drew1) | exact HB.out)) hb); clear HB; have HO145 := n0_; have HB := n1_; clear n0_ n1_; (try clear hb); (try clear hb2); (try clear hk); (try clear hi); (try clear ho0); have hcv25 := own_string (P := Tryd.prog) Tryd.underlying22 Tryd.underlying5 Tryd.underlying9 (Kd.own_of_R HO145.out); (try (have hcn25 := fun n_ : Nat => own_string (P := Tryd.prog) Tryd.underlying22 Tryd.underlying5 Tryd.underlying9 (Kd.own_of_R (Kd.R_drewN HO145.out n_)))); obtain ⟨i026, hi026, _, hsz26, _⟩ := info_parts info5; obtain ⟨hcut26, hA26, hC26⟩ := print_take_of (P := Tryd.prog) (Value.int .u8) 0 22 5 .i64 Tryd.underlying22 hi026 hsz26 (some ad140) c0 l0 x4_1 (of_decide_eq_true (by first | (with_reducible assumption) | assumption)) (of_decide_eq_true (by first | (with_reducible assumption) | assumption)) HC0.out; have HR146 := Aside0.mk (Kd.C_of_reads (h1 := fun _ => rfl) (hA26 _ (Kd.reads_of_C HR0.out))); have HC146 := Aside0.mk hC26; clear hA26 hC26 hi026 hsz26; have hcv27 := Kd.C_string (P := Tryd.prog) (A := (some ad140)) (c := c0) Tryd.underlying22 Tryd.underlying5 Tryd.underlying9 (Kd.C_below HR146.out HB.out); (try (have hcv27t := hcv27; simp only [Int.reduceToNat, show (l0.take (x4_1 : Int).toNat).length = x4_1.toNat from (by rw [List.length_take]; have h_ : (x4_1 : Int) ≤ (l0.length : Int) := of_decide_eq_true (by first | (with_reducible assumption) | assumption); omega)] at hcv27t)); (try (have hcv27m := hcv27; simp only [List.length_take, List.length_drop, Int.reduceToNat] at hcv27m)); have hcn27 := fun n_ : Nat => Kd.C_string (P := Tryd.prog) (A := (some ad140)) (c := c0) Tryd.underlying22 Tryd.underlying5 Tryd.underlying9 (Kd.C_drewN (Kd.C_below HR146.out HB.out) n_); (try (have hcn27t := hcn27; simp only [Int.reduceToNat, show (l0.take (x4_1 : Int).toNat).length = x4_1.toNat from (by rw [List.length_take]; have h_ : (x4_1 : Int) ≤ (l0.length : Int) := of_decide_eq_true (by first | (with_reducible assumption) | assumption); omega)] at hcn27t)); (try (have hcn27m := hcn27; simp only [List.length_take, List.length_drop, Int.reduceToNat] at hcn27m)))))
                                        go_roundg k6
                                        case measure => have := HK1.out; have := HJ1.out; have := HJ5.out; have := HJ7.out; have := HJ9.out; have := HK6.out; omega
                                        case rel => exact ⟨(wrap64 (x4_1 + 1)), (by first | rfl | (simp; done) | (simp [*]; done)), H', ⟨by have := HK1.out; have := HJ1.out; have := HJ5.out; have := HJ7.out; have := HJ9.out; have := HK6.out; omega⟩, ⟨by repeat (first | (with_reducible first | exact HB.out | apply below_alloc | apply pw_below_drewN | apply below_drew1) | exact HB.out)⟩⟩
                                    · rw [if_neg c18] at H
                                      exact absurd H (by simp)
                                  · rw [if_neg c17] at H
                                    exact absurd H (by simp)
                                · rw [if_neg c16] at H
                                  have c16b0 : (t143 == 0) = false := beq_eq_false_iff_ne.mpr c16
                                  have c16b1 : (t143 != 0) = true := bne_iff_ne.mpr c16
                                  have H' := Aside0.mk H
                                  clear H
                                  go_wp2_with (first | (go_at_call 14; (with_reducible refine (scarfref01_Bytes.calls x5_6 t142 t143 _ A15.out).mono ?_); rintro e w28 ⟨v144, rfl, ho0, hb⟩; have n0_ := Aside0.mk (Kd.R_lower ho0 (below_size (by repeat (first | (with_reducible first | exact HB.out | apply below_alloc | apply pw_below_drewN | apply below_drew1) | exact HB.out)))); have n1_ := Aside0.mk (below_step (by repeat (first | (with_reducible first | exact HB.out | apply below_alloc | apply pw_below_drewN | apply below_drew1) | exact HB.out)) hb); clear HB; have HO145 := n0_; have HB := n1_; clear n0_ n1_; (try clear hb); (try clear hb2); (try clear hk); (try clear hi); (try clear ho0)))
                                  repeat (go_quiet (first | (go_at_call 14; (with_reducible refine (scarfref01_Bytes.calls x5_6 t142 t143 _ A15.out).mono ?_); rintro e w28 ⟨v144, rfl, ho0, hb⟩; have n0_ := Aside0.mk (Kd.R_lower ho0 (below_size (by repeat (first | (with_reducible first | exact HB.out | apply below_alloc | apply pw_below_drewN | apply below_drew1) | exact HB.out)))); have n1_ := Aside0.mk (below_step (by repeat (first | (with_reducible first | exact HB.out | apply below_alloc | apply pw_below_drewN | apply below_drew1) | exact HB.out)) hb); clear HB; have HO145 := n0_; have HB := n1_; clear n0_ n1_; (try clear hb); (try clear hb2); (try clear hk); (try clear hi); (try clear ho0))); try go_wp2_with (first | (go_at_call 14; (with_reducible refine (scarfref01_Bytes.calls x5_6 t142 t143 _ A15.out).mono ?_); rintro e w28 ⟨v144, rfl, ho0, hb⟩; have n0_ := Aside0.mk (Kd.R_lower ho0 (below_size (by repeat (first | (with_reducible first | exact HB.out | apply below_alloc | apply pw_below_drewN | apply below_drew1) | exact HB.out)))); have n1_ := Aside0.mk (below_step (by repeat (first | (with_reducible first | exact HB.out | apply below_alloc | apply pw_below_drewN | apply below_drew1) | exact HB.out)) hb); clear HB; have HO145 := n0_; have HB := n1_; clear n0_ n1_; (try clear hb); (try clear hb2); (try clear hk); (try clear hi); (try clear ho0))))
                                  go_roundg k6
                                  case measure => have := HK1.out; have := HJ1.out; have := HJ5.out; have := HJ7.out; have := HJ9.out; have := HK6.out; omega
                                  case rel => exact ⟨(wrap64 (x4_1 + 1)), (by first | rfl | (simp; done) | (simp [*]; done)), H', ⟨by have := HK1.out; have := HJ1.out; have := HJ5.out; have := HJ7.out; have := HJ9.out; have := HK6.out; omega⟩, ⟨by repeat (first | (with_reducible first | exact HB.out | apply below_alloc | apply pw_below_drewN | apply below_drew1) | exact HB.out)⟩⟩
            · rw [if_neg c5] at H
              exact absurd H (by simp)
          · replace c4 := Bool.eq_false_iff.mpr c4
            subst c4
            have H1 : (some ((-1), 0)) = some (r1, r2) := by rw [if_neg (show ¬ (false = true) by decide)] at H; exact H
            clear H
            have H := H1
            clear H1
            simp only [Option.some.injEq, Prod.mk.injEq] at H
            obtain ⟨rfl, rfl⟩ := H
            go_wp2
            repeat (go_quiet (fail); try go_wp2)
            go_ret2
            exact ⟨by first | rfl | (simp [errW_none, errW_some] <;> rfl) | (simp [*, errW_none, errW_some] <;> rfl), by repeat (first | (with_reducible first | exact HB.out | apply below_alloc | apply pw_below_drewN | apply below_drew1) | exact HB.out)⟩

end Go.Proofs.YtpoeiiimmgnioaaDoor.Q
