-- Written by this repo's pp.py (the kit's print program with additions).
import Derived.Test.YtpoeiiimmgnioaaDoorQ0
import Derived.Test.YtpoeiiimmgnioaaDoorQ3
import Derived.Test.YtpoeiiimmgnioaaDoorQ4
import Derived.Test.YtpoeiiimmgnioaaDoorQ6
namespace Go.Proofs.YtpoeiiimmgnioaaDoor.Q
open Go.RowKit Go.Proofs.YtpoeiiimmgnioaaDoorW.PrintWords Go.Proofs.YtpoeiiimmgnioaaDoorW.PrintLast Go.Proofs.YtpoeiiimmgnioaaDoorW.PrintMore
attribute [local go_sem] max2_int min2_int max_two min_two max_three min_three max_four min_four   -- for this text's walks alone
set_option linter.unusedVariables false
set_option linter.unusedSimpArgs false

/-! ### scarflaw01_UtfCuts: function 7 -/
mutual
def scarflaw01_UtfCuts.l0 : Nat → List Int → List Int → Int → Int → Bool → Int → Option (Bool)
  | 0, _, _, _, _, _, _ => none
  | k + 1, x5, x6, x7, x8, x9, x10 => if x10 < (x6.length : Int) then (if 0 ≤ x10 then ((utf_Bytes.f (rd x6 x10)).bind fun bt294 => (if x9 = true then (scarflaw01_UtfCuts.l0 k x5 x6 x7 (wrap64 (x8 + (bt294.1.length : Int))) true (wrap64 (x10 + 1))) else (scarflaw01_UtfCuts.l0 k x5 x6 x7 (wrap64 (x8 + (bt294.1.length : Int))) ((wrap64 (x8 + (bt294.1.length : Int))) == x7) (wrap64 (x10 + 1))))) else (none)) else ((scarflaw01_known.f).bind fun t298 => (if t298 = true then (if 0 ≤ x7 then (if x7 ≤ (x5.length : Int) then ((utf_Text.f k (x5.take (x7 : Int).toNat)).bind fun t303 => (if (t303 == x9) = true then ((utf_Bad.f k x5).bind fun t304 => (some (t304 == (x5.length : Int)))) else (some false))) else (none)) else (none)) else (some false)))
def scarflaw01_UtfCuts.l1 : Nat → List Int → List Int → Int → Int → Bool → Int → Option (Bool)
  | 0, _, _, _, _, _, _ => none
  | k + 1, x5, x6, x7, x8, x9, x10 => if x10 < (x6.length : Int) then (if 0 ≤ x10 then ((utf_Bytes.f (rd x6 x10)).bind fun bt312 => (if x9 = true then (scarflaw01_UtfCuts.l1 k x5 x6 x7 (wrap64 (x8 + (bt312.1.length : Int))) true (wrap64 (x10 + 1))) else (scarflaw01_UtfCuts.l1 k x5 x6 x7 (wrap64 (x8 + (bt312.1.length : Int))) ((wrap64 (x8 + (bt312.1.length : Int))) == x7) (wrap64 (x10 + 1))))) else (none)) else ((scarflaw01_known.f).bind fun t316 => (if t316 = true then (if 0 ≤ x7 then (if x7 ≤ (x5.length : Int) then ((utf_Text.f k (x5.take (x7 : Int).toNat)).bind fun t321 => (if (t321 == x9) = true then ((utf_Bad.f k x5).bind fun t322 => (some (t322 == (x5.length : Int)))) else (some false))) else (none)) else (none)) else (some false)))
end
def scarflaw01_UtfCuts.f (k : Nat) (l0 : List Int) (a1 : Int) : Option (Bool) := if (l0.length : Int) > 200 then (if 200 ≤ (l0.length : Int) then ((scarflaw01_texts.f k (l0.take 200)).bind fun bt287 => (if (IntKind.u64.wrap (wrap64 ((bt287.1.length : Int) + 1))) = 0 then (none) else (scarflaw01_UtfCuts.l0 k bt287.1 bt287.2 (wrap64 (Int.tmod (IntKind.u64.wrap (a1)) (IntKind.u64.wrap (wrap64 ((bt287.1.length : Int) + 1))))) 0 ((wrap64 (Int.tmod (IntKind.u64.wrap (a1)) (IntKind.u64.wrap (wrap64 ((bt287.1.length : Int) + 1))))) == 0) 0))) else (none)) else ((scarflaw01_texts.f k l0).bind fun bt305 => (if (IntKind.u64.wrap (wrap64 ((bt305.1.length : Int) + 1))) = 0 then (none) else (scarflaw01_UtfCuts.l1 k bt305.1 bt305.2 (wrap64 (Int.tmod (IntKind.u64.wrap (a1)) (IntKind.u64.wrap (wrap64 ((bt305.1.length : Int) + 1))))) 0 ((wrap64 (Int.tmod (IntKind.u64.wrap (a1)) (IntKind.u64.wrap (wrap64 ((bt305.1.length : Int) + 1))))) == 0) 0)))
theorem scarflaw01_UtfCuts.mono_l : ∀ k, (∀ y0 y1 y2 y3 y4 y5, LeO (scarflaw01_UtfCuts.l0 k y0 y1 y2 y3 y4 y5) (scarflaw01_UtfCuts.l0 (k + 1) y0 y1 y2 y3 y4 y5)) ∧ (∀ y0 y1 y2 y3 y4 y5, LeO (scarflaw01_UtfCuts.l1 k y0 y1 y2 y3 y4 y5) (scarflaw01_UtfCuts.l1 (k + 1) y0 y1 y2 y3 y4 y5))
  | 0 => ⟨fun _ _ _ _ _ _ r h => by simp [scarflaw01_UtfCuts.l0] at h, fun _ _ _ _ _ _ r h => by simp [scarflaw01_UtfCuts.l1] at h⟩
  | k + 1 => by
    obtain ⟨ih0, ih1⟩ := scarflaw01_UtfCuts.mono_l k
    refine ⟨?_, ?_⟩
    · intro y0 y1 y2 y3 y4 y5
      unfold scarflaw01_UtfCuts.l0
      repeat' first
      | (with_reducible exact ih0 _ _ _ _ _ _)
      | (with_reducible exact ih1 _ _ _ _ _ _)
      | (with_reducible exact scarflaw01_texts.mono _ _)
      | (with_reducible exact utf_Bad.mono _ _)
      | (with_reducible exact utf_Text.mono _ _)
      | (with_reducible exact LeO.refl _)
      | (with_reducible exact LeO.none _)
      | (with_reducible refine LeO.ite ?_ ?_)
      | (with_reducible refine LeO.bind ?_ (fun _ => ?_))
      | exact ih0 _ _ _ _ _ _
      | exact ih1 _ _ _ _ _ _
      | exact scarflaw01_texts.mono _ _
      | exact utf_Bad.mono _ _
      | exact utf_Text.mono _ _
      | exact LeO.none _
      | refine LeO.ite ?_ ?_
      | refine LeO.bind ?_ (fun _ => ?_)
    · intro y0 y1 y2 y3 y4 y5
      unfold scarflaw01_UtfCuts.l1
      repeat' first
      | (with_reducible exact ih0 _ _ _ _ _ _)
      | (with_reducible exact ih1 _ _ _ _ _ _)
      | (with_reducible exact scarflaw01_texts.mono _ _)
      | (with_reducible exact utf_Bad.mono _ _)
      | (with_reducible exact utf_Text.mono _ _)
      | (with_reducible exact LeO.refl _)
      | (with_reducible exact LeO.none _)
      | (with_reducible refine LeO.ite ?_ ?_)
      | (with_reducible refine LeO.bind ?_ (fun _ => ?_))
      | exact ih0 _ _ _ _ _ _
      | exact ih1 _ _ _ _ _ _
      | exact scarflaw01_texts.mono _ _
      | exact utf_Bad.mono _ _
      | exact utf_Text.mono _ _
      | exact LeO.none _
      | refine LeO.ite ?_ ?_
      | refine LeO.bind ?_ (fun _ => ?_)
theorem scarflaw01_UtfCuts.mono : ∀ a0 a1 k, LeO (scarflaw01_UtfCuts.f k a0 a1) (scarflaw01_UtfCuts.f (k + 1) a0 a1) := by
  intro a0 a1 k
  obtain ⟨ih0, ih1⟩ := scarflaw01_UtfCuts.mono_l k
  unfold scarflaw01_UtfCuts.f
  repeat' first
      | (with_reducible exact ih0 _ _ _ _ _ _)
      | (with_reducible exact ih1 _ _ _ _ _ _)
      | (with_reducible exact scarflaw01_texts.mono _ _)
      | (with_reducible exact utf_Bad.mono _ _)
      | (with_reducible exact utf_Text.mono _ _)
      | (with_reducible exact LeO.refl _)
      | (with_reducible exact LeO.none _)
      | (with_reducible refine LeO.ite ?_ ?_)
      | (with_reducible refine LeO.bind ?_ (fun _ => ?_))
      | exact ih0 _ _ _ _ _ _
      | exact ih1 _ _ _ _ _ _
      | exact scarflaw01_texts.mono _ _
      | exact utf_Bad.mono _ _
      | exact utf_Text.mono _ _
      | exact LeO.none _
      | refine LeO.ite ?_ ?_
      | refine LeO.bind ?_ (fun _ => ?_)
set_option maxHeartbeats 8000000 in
set_option maxRecDepth 100000 in
theorem scarflaw01_UtfCuts.calls (k : Nat) (A0 : Option Addr) (c0 : Nat) (l0 : List Int) (a1 : Int) (r : Bool) (w : World) (hr0 : Kd.C (Kd.int .i64) w A0 l0.length l0) (hc0 : l0.length ≤ c0) (hG : GLOB w) (h : scarflaw01_UtfCuts.f k l0 a1 = some r) :
    Calls Tryd.prog 7 #[.slice A0 l0.length c0, .int .i64 a1] w fun e w' => e = .returned (.bool r) ∧ Below w.heap.size w w' := by
  have HR0 := Aside0.mk hr0
  have HC0 := Aside0.mk hc0
  clear hr0 hc0
  have HG_ := Aside0.mk hG
  clear hG
  have HB := Aside0.mk (Below.refl w.heap.size w)
  have H : (if (l0.length : Int) > 200 then (if 200 ≤ (l0.length : Int) then ((scarflaw01_texts.f k (l0.take 200)).bind fun bt287 => (if (IntKind.u64.wrap (wrap64 ((bt287.1.length : Int) + 1))) = 0 then (none) else (scarflaw01_UtfCuts.l0 k bt287.1 bt287.2 (wrap64 (Int.tmod (IntKind.u64.wrap (a1)) (IntKind.u64.wrap (wrap64 ((bt287.1.length : Int) + 1))))) 0 ((wrap64 (Int.tmod (IntKind.u64.wrap (a1)) (IntKind.u64.wrap (wrap64 ((bt287.1.length : Int) + 1))))) == 0) 0))) else (none)) else ((scarflaw01_texts.f k l0).bind fun bt305 => (if (IntKind.u64.wrap (wrap64 ((bt305.1.length : Int) + 1))) = 0 then (none) else (scarflaw01_UtfCuts.l1 k bt305.1 bt305.2 (wrap64 (Int.tmod (IntKind.u64.wrap (a1)) (IntKind.u64.wrap (wrap64 ((bt305.1.length : Int) + 1))))) 0 ((wrap64 (Int.tmod (IntKind.u64.wrap (a1)) (IntKind.u64.wrap (wrap64 ((bt305.1.length : Int) + 1))))) == 0) 0)))) = some r := h
  clear h
  by_cases c3 : (l0.length : Int) > 200
  · rw [if_pos c3] at H
    have c3b0 : decide (200 < (l0.length : Int)) = true := decide_eq_true c3
    have c3b1 : decide (200 < l0.length) = true := decide_eq_true (by omega)
    clear c3
    by_cases c4 : 200 ≤ (l0.length : Int)
    · rw [if_pos c4] at H
      have c4b0 := eq_true c4
      have c4b1 : decide (200 ≤ (l0.length : Int)) = true := decide_eq_true c4
      clear c4
      replace H := Option.bind_eq_some_iff.mp H
      obtain ⟨⟨t287, t288⟩, A50, H⟩ := H
      replace H : (if (IntKind.u64.wrap (wrap64 ((t287.length : Int) + 1))) = 0 then (none) else (scarflaw01_UtfCuts.l0 k t287 t288 (wrap64 (Int.tmod (IntKind.u64.wrap (a1)) (IntKind.u64.wrap (wrap64 ((t287.length : Int) + 1))))) 0 ((wrap64 (Int.tmod (IntKind.u64.wrap (a1)) (IntKind.u64.wrap (wrap64 ((t287.length : Int) + 1))))) == 0) 0)) = some r := H
      have A5 := Aside0.mk A50
      clear A50
      by_cases c6 : (IntKind.u64.wrap (wrap64 ((t287.length : Int) + 1))) = 0
      · rw [if_pos c6] at H
        exact absurd H (by simp)
      · rw [if_neg c6] at H
        have c6b0 : ((IntKind.u64.wrap (wrap64 ((t287.length : Int) + 1))) == 0) = false := beq_eq_false_iff_ne.mpr c6
        have c6b1 : ((IntKind.u64.wrap (wrap64 ((t287.length : Int) + 1))) != 0) = true := bne_iff_ne.mpr c6
        have H' := Aside0.mk H
        clear H
        obtain ⟨i07, hi07, _, hsz7, _⟩ := info_parts info3
        obtain ⟨hcut7, hA7, hC7⟩ := print_take_of (P := Tryd.prog) (Value.int .i64) 0 33 3 .i64 Tryd.underlying33 hi07 hsz7 A0 c0 l0 200 (by omega) (of_decide_eq_true (by first | (with_reducible assumption) | assumption)) HC0.out
        have HR286 := Aside0.mk (Kd.C_of_reads (h1 := fun _ => rfl) (hA7 _ (Kd.reads_of_C HR0.out)))
        have HC286 := Aside0.mk hC7
        clear hA7 hC7 hi07 hsz7
        go_enter Tryd.func7, Tryd.ntmps7
        go_wp2_with (first | ((with_reducible refine gate_callee (f := 15) rfl ?_); refine goesL_ (some 20) rfl rfl Tryd.func15 (by kernel_rfl) rfl #[.slice A0 (l0.take 200).length c0] rfl (by (try simp only [List.map_toArray, List.map_cons, List.map_nil]); first | done | (rw [show (l0.take 200).length = 200 from (by rw [List.length_take]; have h_ : (200 : Int) ≤ (l0.length : Int) := of_decide_eq_true (by first | (with_reducible assumption) | assumption); omega)] <;> rfl) | rfl | (simp only [List.length_drop, List.length_take]; rfl)) ?_; (with_reducible refine (scarflaw01_texts.calls k _ _ (l0.take 200) t287 t288 _ ?side1 ?side2 A5.out).mono ?_); (case side1 => repeat (first | exact HR286.out | (with_reducible refine Kd.C_alloc ?_ _) | (with_reducible refine Kd.C_drewN ?_ _) | (with_reducible refine Kd.C_drew ?_))); (case side2 => exact HC286.out); rintro e w8 ⟨v289, v291, rfl, ho0, ho1, hb⟩; refine ⟨_, rfl, ?_⟩; have n0_ := Aside0.mk (Kd.R_lower ho0 (below_size (by repeat (first | (with_reducible first | exact HB.out | apply below_alloc | apply pw_below_drewN | apply below_drew1) | exact HB.out)))); have n1_ := Aside0.mk (Kd.R_lower ho1 (below_size (by repeat (first | (with_reducible first | exact HB.out | apply below_alloc | apply pw_below_drewN | apply below_drew1) | exact HB.out)))); have n2_ := Aside0.mk (below_step (by repeat (first | (with_reducible first | exact HB.out | apply below_alloc | apply pw_below_drewN | apply below_drew1) | exact HB.out)) hb); clear HB; have HO290 := n0_; have HO292 := n1_; have HB := n2_; clear n0_ n1_ n2_; (try clear hb); (try clear hb2); (try clear hk); (try clear hi); (try clear ho0); (try clear ho1); obtain ⟨Ao9, co9, eo9⟩ := Kd.R_slice HO290.out; subst eo9))
        go_loopg [8, 9, 10] k (fun kq v8 v9 v10 w' => ∃ (x8_1 : Int) (x9_1 : Bool) (x10_1 : Int), v8 = .int .i64 x8_1 ∧ v9 = .bool x9_1 ∧ v10 = .int .i64 x10_1 ∧ Aside0 (scarflaw01_UtfCuts.l0 kq t287 t288 (wrap64 (Int.tmod (IntKind.u64.wrap (a1)) (IntKind.u64.wrap (wrap64 ((t287.length : Int) + 1))))) x8_1 x9_1 x10_1 = some r) ∧ Aside0 (kq ≤ k) ∧ Aside0 (Kd.R (Kd.int .u8) 5 w' w.heap.size (fun _ => True) (.slice Ao9 t287.length co9) t287) ∧ Aside0 (Kd.R (Kd.int .i64) 3 w' w.heap.size (fun _ => True) v291 t288) ∧ Aside0 (Below w.heap.size w w'))
        case atStart => exact ⟨(0), (((wrap64 (Int.tmod (IntKind.u64.wrap (a1)) (IntKind.u64.wrap (wrap64 ((t287.length : Int) + 1))))) == 0)), (0), (by first | rfl | (simp; done) | (simp [*]; done)), (by first | rfl | (simp; done) | (simp [*]; done)), (by first | rfl | (simp; done) | (simp [*]; done)), H', ⟨Nat.le_refl _⟩, ⟨by (with_reducible repeat (first | apply Kd.R_alloc | apply Kd.R_drewN | apply Kd.R_drew)); exact HO290.out⟩, ⟨by (with_reducible repeat (first | apply Kd.R_alloc | apply Kd.R_drewN | apply Kd.R_drew)); exact HO292.out⟩, ⟨by repeat (first | (with_reducible first | exact HB.out | apply below_alloc | apply pw_below_drewN | apply below_drew1) | exact HB.out)⟩⟩
        case round =>
          clear H'
          try clear c1
          try clear p2
          try clear c3
          try clear c3b0
          try clear c3b1
          try clear c4
          try clear c4b0
          try clear c4b1
          try clear c6
          try clear c6b0
          try clear c6b1
          try clear p6
          try clear c7
          obtain ⟨x8_1, x9_1, x10_1, rfl, rfl, rfl, HA, HK1, HO_5, HO_6, HB⟩ := hrel
          cases gk with
          | zero => exact absurd HA.out (by simp [scarflaw01_UtfCuts.l0])
          | succ k1 =>
            have H := HA.out
            clear HA
            simp only [scarflaw01_UtfCuts.l0] at H
            by_cases c10 : x10_1 < (t288.length : Int)
            · rw [if_pos c10] at H
              have c10b0 : decide (x10_1 < (t288.length : Int)) = true := decide_eq_true c10
              clear c10
              by_cases c11 : 0 ≤ x10_1
              · rw [if_pos c11] at H
                have c11b0 : decide (0 ≤ x10_1) = true := decide_eq_true c11
                clear c11
                replace H := Option.bind_eq_some_iff.mp H
                obtain ⟨⟨t294, t295⟩, A120, H⟩ := H
                replace H : (if x9_1 = true then (scarflaw01_UtfCuts.l0 k1 t287 t288 (wrap64 (Int.tmod (IntKind.u64.wrap (a1)) (IntKind.u64.wrap (wrap64 ((t287.length : Int) + 1))))) (wrap64 (x8_1 + (t294.length : Int))) true (wrap64 (x10_1 + 1))) else (scarflaw01_UtfCuts.l0 k1 t287 t288 (wrap64 (Int.tmod (IntKind.u64.wrap (a1)) (IntKind.u64.wrap (wrap64 ((t287.length : Int) + 1))))) (wrap64 (x8_1 + (t294.length : Int))) ((wrap64 (x8_1 + (t294.length : Int))) == (wrap64 (Int.tmod (IntKind.u64.wrap (a1)) (IntKind.u64.wrap (wrap64 ((t287.length : Int) + 1)))))) (wrap64 (x10_1 + 1)))) = some r := H
                have A12 := Aside0.mk A120
                clear A120
                by_cases c13 : x9_1 = true
                · subst c13
                  have H1 : (scarflaw01_UtfCuts.l0 k1 t287 t288 (wrap64 (Int.tmod (IntKind.u64.wrap (a1)) (IntKind.u64.wrap (wrap64 ((t287.length : Int) + 1))))) (wrap64 (x8_1 + (t294.length : Int))) true (wrap64 (x10_1 + 1))) = some r := by rw [if_pos rfl] at H; exact H
                  clear H
                  have H := H1
                  clear H1
                  have H' := Aside0.mk H
                  clear H
                  obtain ⟨Ao14, co14, eo14⟩ := Kd.R_slice HO_6.out
                  subst eo14
                  have p293 : 0 ≤ (x10_1 : Int) := of_decide_eq_true (by first | (with_reducible assumption) | assumption)
                  have q293 : x10_1 < (t288.length : Int) := of_decide_eq_true (by first | (with_reducible assumption) | assumption)
                  obtain ⟨ad293, e293, hx293_0⟩ := Kd.at_int (Kd.R_reads' HO_6.out).2.2 x10_1 p293 q293
                  cases e293
                  replace p293 := eq_true p293
                  replace q293 := eq_true q293
                  go_wp2_with (first | ((with_reducible refine gate_callee (f := 13) rfl ?_); refine goesL_ (some 44) rfl rfl Tryd.func13 (by kernel_rfl) rfl #[.int .i64 (rd t288 x10_1)] rfl (by (try simp only [List.map_toArray, List.map_cons, List.map_nil]); first | done | rfl | (simp only [List.length_drop, List.length_take]; rfl)) ?_; (with_reducible refine (utf_Bytes.calls (rd t288 x10_1) t294 t295 _ A12.out).mono ?_); rintro e w15 ⟨v296, rfl, ho0, hb⟩; refine ⟨_, rfl, ?_⟩; have n0_ := Aside0.mk (Kd.R_elder' (by (with_reducible repeat (first | apply Kd.R_alloc | apply Kd.R_drewN | apply Kd.R_drew)); exact HO_5.out) (Kd.R_base ho0) hb); have n1_ := Aside0.mk (Kd.R_below (by (with_reducible repeat (first | apply Kd.R_alloc | apply Kd.R_drewN | apply Kd.R_drew)); exact HO_6.out) hb); have n2_ := Aside0.mk (Kd.R_lower (Kd.R_new' ho0 (Kd.R_lt (by (with_reducible repeat (first | apply Kd.R_alloc | apply Kd.R_drewN | apply Kd.R_drew)); exact HO_5.out))) (below_size (by repeat (first | (with_reducible first | exact HB.out | apply below_alloc | apply pw_below_drewN | apply below_drew1) | exact HB.out)))); have n3_ := Aside0.mk (below_step (by repeat (first | (with_reducible first | exact HB.out | apply below_alloc | apply pw_below_drewN | apply below_drew1) | exact HB.out)) hb); clear HO_5; clear HO_6; clear HB; have HO_5 := n0_; have HO_6 := n1_; have HO297 := n2_; have HB := n3_; clear n0_ n1_ n2_ n3_; (try clear hb); (try clear hb2); (try clear hk); (try clear hi); (try clear ho0); obtain ⟨Ao16, co16, eo16⟩ := Kd.R_slice HO297.out; subst eo16))
                  go_roundg k1
                  case measure => have := HK1.out; omega
                  case rel => exact ⟨(wrap64 (x8_1 + (t294.length : Int))), (true), (wrap64 (x10_1 + 1)), (by first | rfl | (simp; done) | (simp [*]; done)), (by first | rfl | (simp; done) | (simp [*]; done)), (by first | rfl | (simp; done) | (simp [*]; done)), H', ⟨by have := HK1.out; omega⟩, ⟨by (with_reducible repeat (first | apply Kd.R_alloc | apply Kd.R_drewN | apply Kd.R_drew)); exact Kd.R_mono HO_5.out (fun _ hk => trivial)⟩, ⟨by (with_reducible repeat (first | apply Kd.R_alloc | apply Kd.R_drewN | apply Kd.R_drew)); exact HO_6.out⟩, ⟨by repeat (first | (with_reducible first | exact HB.out | apply below_alloc | apply pw_below_drewN | apply below_drew1) | exact HB.out)⟩⟩
                · replace c13 := Bool.eq_false_iff.mpr c13
                  subst c13
                  have H1 : (scarflaw01_UtfCuts.l0 k1 t287 t288 (wrap64 (Int.tmod (IntKind.u64.wrap (a1)) (IntKind.u64.wrap (wrap64 ((t287.length : Int) + 1))))) (wrap64 (x8_1 + (t294.length : Int))) ((wrap64 (x8_1 + (t294.length : Int))) == (wrap64 (Int.tmod (IntKind.u64.wrap (a1)) (IntKind.u64.wrap (wrap64 ((t287.length : Int) + 1)))))) (wrap64 (x10_1 + 1))) = some r := by rw [if_neg (show ¬ (false = true) by decide)] at H; exact H
                  clear H
                  have H := H1
                  clear H1
                  have H' := Aside0.mk H
                  clear H
                  obtain ⟨Ao17, co17, eo17⟩ := Kd.R_slice HO_6.out
                  subst eo17
                  have p293 : 0 ≤ (x10_1 : Int) := of_decide_eq_true (by first | (with_reducible assumption) | assumption)
                  have q293 : x10_1 < (t288.length : Int) := of_decide_eq_true (by first | (with_reducible assumption) | assumption)
                  obtain ⟨ad293, e293, hx293_0⟩ := Kd.at_int (Kd.R_reads' HO_6.out).2.2 x10_1 p293 q293
                  cases e293
                  replace p293 := eq_true p293
                  replace q293 := eq_true q293
                  go_wp2_with (first | ((with_reducible refine gate_callee (f := 13) rfl ?_); refine goesL_ (some 44) rfl rfl Tryd.func13 (by kernel_rfl) rfl #[.int .i64 (rd t288 x10_1)] rfl (by (try simp only [List.map_toArray, List.map_cons, List.map_nil]); first | done | rfl | (simp only [List.length_drop, List.length_take]; rfl)) ?_; (with_reducible refine (utf_Bytes.calls (rd t288 x10_1) t294 t295 _ A12.out).mono ?_); rintro e w18 ⟨v296, rfl, ho0, hb⟩; refine ⟨_, rfl, ?_⟩; have n0_ := Aside0.mk (Kd.R_elder' (by (with_reducible repeat (first | apply Kd.R_alloc | apply Kd.R_drewN | apply Kd.R_drew)); exact HO_5.out) (Kd.R_base ho0) hb); have n1_ := Aside0.mk (Kd.R_below (by (with_reducible repeat (first | apply Kd.R_alloc | apply Kd.R_drewN | apply Kd.R_drew)); exact HO_6.out) hb); have n2_ := Aside0.mk (Kd.R_lower (Kd.R_new' ho0 (Kd.R_lt (by (with_reducible repeat (first | apply Kd.R_alloc | apply Kd.R_drewN | apply Kd.R_drew)); exact HO_5.out))) (below_size (by repeat (first | (with_reducible first | exact HB.out | apply below_alloc | apply pw_below_drewN | apply below_drew1) | exact HB.out)))); have n3_ := Aside0.mk (below_step (by repeat (first | (with_reducible first | exact HB.out | apply below_alloc | apply pw_below_drewN | apply below_drew1) | exact HB.out)) hb); clear HO_5; clear HO_6; clear HB; have HO_5 := n0_; have HO_6 := n1_; have HO297 := n2_; have HB := n3_; clear n0_ n1_ n2_ n3_; (try clear hb); (try clear hb2); (try clear hk); (try clear hi); (try clear ho0); obtain ⟨Ao19, co19, eo19⟩ := Kd.R_slice HO297.out; subst eo19))
                  go_roundg k1
                  case measure => have := HK1.out; omega
                  case rel => exact ⟨(wrap64 (x8_1 + (t294.length : Int))), (((wrap64 (x8_1 + (t294.length : Int))) == (wrap64 (Int.tmod (IntKind.u64.wrap (a1)) (IntKind.u64.wrap (wrap64 ((t287.length : Int) + 1))))))), (wrap64 (x10_1 + 1)), (by first | rfl | (simp; done) | (simp [*]; done)), (by first | rfl | (simp; done) | (simp [*]; done)), (by first | rfl | (simp; done) | (simp [*]; done)), H', ⟨by have := HK1.out; omega⟩, ⟨by (with_reducible repeat (first | apply Kd.R_alloc | apply Kd.R_drewN | apply Kd.R_drew)); exact Kd.R_mono HO_5.out (fun _ hk => trivial)⟩, ⟨by (with_reducible repeat (first | apply Kd.R_alloc | apply Kd.R_drewN | apply Kd.R_drew)); exact HO_6.out⟩, ⟨by repeat (first | (with_reducible first | exact HB.out | apply below_alloc | apply pw_below_drewN | apply below_drew1) | exact HB.out)⟩⟩
              · rw [if_neg c11] at H
                exact absurd H (by simp)
            · rw [if_neg c10] at H
              have c10b0 : decide (x10_1 < (t288.length : Int)) = false := decide_eq_false c10
              clear c10
              replace H := Option.bind_eq_some_iff.mp H
              obtain ⟨t298, A200, H⟩ := H
              replace H : (if t298 = true then (if 0 ≤ (wrap64 (Int.tmod (IntKind.u64.wrap (a1)) (IntKind.u64.wrap (wrap64 ((t287.length : Int) + 1))))) then (if (wrap64 (Int.tmod (IntKind.u64.wrap (a1)) (IntKind.u64.wrap (wrap64 ((t287.length : Int) + 1))))) ≤ (t287.length : Int) then ((utf_Text.f k1 (t287.take ((wrap64 (Int.tmod (IntKind.u64.wrap (a1)) (IntKind.u64.wrap (wrap64 ((t287.length : Int) + 1))))) : Int).toNat)).bind fun t303 => (if (t303 == x9_1) = true then ((utf_Bad.f k1 t287).bind fun t304 => (some (t304 == (t287.length : Int)))) else (some false))) else (none)) else (none)) else (some false)) = some r := H
              have A20 := Aside0.mk A200
              clear A200
              by_cases c21 : t298 = true
              · subst c21
                have H1 : (if 0 ≤ (wrap64 (Int.tmod (IntKind.u64.wrap (a1)) (IntKind.u64.wrap (wrap64 ((t287.length : Int) + 1))))) then (if (wrap64 (Int.tmod (IntKind.u64.wrap (a1)) (IntKind.u64.wrap (wrap64 ((t287.length : Int) + 1))))) ≤ (t287.length : Int) then ((utf_Text.f k1 (t287.take ((wrap64 (Int.tmod (IntKind.u64.wrap (a1)) (IntKind.u64.wrap (wrap64 ((t287.length : Int) + 1))))) : Int).toNat)).bind fun t303 => (if (t303 == x9_1) = true then ((utf_Bad.f k1 t287).bind fun t304 => (some (t304 == (t287.length : Int)))) else (some false))) else (none)) else (none)) = some r := by rw [if_pos rfl] at H; exact H
                clear H
                have H := H1
                clear H1
                obtain ⟨ji22, hji22⟩ : ∃ j_ : Int, (wrap64 (Int.tmod (IntKind.u64.wrap (a1)) (IntKind.u64.wrap (wrap64 ((t287.length : Int) + 1))))) = j_ := ⟨_, rfl⟩
                replace H : (if 0 ≤ (ji22) then (if (ji22) ≤ (t287.length : Int) then ((utf_Text.f k1 (t287.take ((ji22) : Int).toNat)).bind fun t303 => (if (t303 == x9_1) = true then ((utf_Bad.f k1 t287).bind fun t304 => (some (t304 == (t287.length : Int)))) else (some false))) else (none)) else (none)) = some r := by first | (rw [hji22] at H; exact H) | (simp only [hji22] at H ⊢; exact H)
                (try rw [hji22] at A20)
                have hji22w : (IntKind.i64.wrap (Int.tmod (IntKind.u64.wrap (a1)) (IntKind.u64.wrap (wrap64 ((t287.length : Int) + 1))))) = ji22 := (i64_w _).trans hji22
                by_cases c23 : 0 ≤ (ji22)
                · rw [if_pos c23] at H
                  have c23b0 := eq_true c23
                  have c23b1 : decide (0 ≤ (ji22)) = true := decide_eq_true c23
                  clear c23
                  by_cases c24 : (ji22) ≤ (t287.length : Int)
                  · rw [if_pos c24] at H
                    have c24b0 := eq_true c24
                    have c24b1 : decide ((ji22) ≤ (t287.length : Int)) = true := decide_eq_true c24
                    clear c24
                    obtain ⟨y299, hy299⟩ : ∃ y_ : List Int, y_ = (t287.take ((ji22) : Int).toNat) := ⟨_, rfl⟩
                    replace H : ((utf_Text.f k1 y299).bind fun t303 => (if (t303 == x9_1) = true then ((utf_Bad.f k1 t287).bind fun t304 => (some (t304 == (t287.length : Int)))) else (some false))) = some r := by first | (rw [hy299]; with_reducible exact H) | (have H2_ := (Option.bind_some _ _).symm.trans H; rw [hy299]; with_reducible exact H2_) | (have H2_ := (Option.bind_some _ _).symm.trans H; with_reducible exact H2_) | with_reducible exact H | (rw [hy299]; exact H) | exact H
                    have Ny299 := Aside0.mk hy299
                    clear hy299
                    replace H := Option.bind_eq_some_iff.mp H
                    obtain ⟨t303, A250, H⟩ := H
                    replace H : (if (t303 == x9_1) = true then ((utf_Bad.f k1 t287).bind fun t304 => (some (t304 == (t287.length : Int)))) else (some false)) = some r := H
                    have A25 := Aside0.mk A250
                    clear A250
                    by_cases c26 : (t303 == x9_1) = true
                    · rw [if_pos c26] at H
                      have c26b0 : (t303 == x9_1) = true := c26
                      (try (have c26b1 : decide (t303 = x9_1) = true := by simpa using c26))
                      (try (have c26b2 : (t303 == x9_1) = true := by simpa using c26))
                      clear c26
                      replace H := Option.bind_eq_some_iff.mp H
                      obtain ⟨t304, A270, H⟩ := H
                      replace H : (some (t304 == (t287.length : Int))) = some r := H
                      have A27 := Aside0.mk A270
                      clear A270
                      obtain rfl := Option.some.inj H
                      obtain ⟨Ao28, co28, eo28⟩ := Kd.R_slice HO_6.out
                      subst eo28
                      go_wp2_with (first | ((with_reducible refine gate_callee (f := 12) rfl ?_); refine goesL_ (some 57) rfl rfl Tryd.func12 (by kernel_rfl) rfl #[] rfl (by (try simp only [List.map_toArray, List.map_cons, List.map_nil]); first | done | rfl | (simp only [List.length_drop, List.length_take]; rfl)) ?_; (with_reducible refine (scarflaw01_known.calls  true _ ?side1 A20.out).mono ?_); (case side1 => repeat (first | exact (GLOB_below HG_.out HB.out) | (with_reducible refine GLOB_alloc ?_ _) | (with_reducible refine GLOB_drewN ?_ _) | (with_reducible refine GLOB_drew ?_))); rintro e w29 ⟨rfl, hb⟩; refine ⟨_, rfl, ?_⟩; have n0_ := Aside0.mk (Kd.R_below (by (with_reducible repeat (first | apply Kd.R_alloc | apply Kd.R_drewN | apply Kd.R_drew)); exact HO_5.out) hb); have n1_ := Aside0.mk (Kd.R_below (by (with_reducible repeat (first | apply Kd.R_alloc | apply Kd.R_drewN | apply Kd.R_drew)); exact HO_6.out) hb); have n2_ := Aside0.mk (below_step (by repeat (first | (with_reducible first | exact HB.out | apply below_alloc | apply pw_below_drewN | apply below_drew1) | exact HB.out)) hb); clear HO_5; clear HO_6; clear HB; have HO_5 := n0_; have HO_6 := n1_; have HB := n2_; clear n0_ n1_ n2_; (try clear hb); (try clear hb2); (try clear hk); (try clear hi); have q30 : ((ji22) : Int) ≤ ((t287.length : Int) : Int) := of_decide_eq_true (by first | (with_reducible assumption) | assumption); obtain ⟨i030, hi030, _, hsz30, _⟩ := info_parts info5; have hroom30 : t287.length ≤ co9 := (Kd.R_reads' HO_5.out).2.1; have hC30 : Kd.C (Kd.int .u8) _ Ao9 t287.length t287 := (Kd.R_reads' HO_5.out).2.2; have hcut30 := cut_to (P := Tryd.prog) 22 5 .i64 Tryd.underlying22 hi030 Ao9 t287.length co9 (ji22) (of_decide_eq_true (by first | (with_reducible assumption) | assumption)) q30 hroom30; have hr30 := Kd.C_take (m := ((ji22) : Int).toNat) hC30 (by omega); have hy30 : y299.length = ((ji22) : Int).toNat := (by rw [Ny299.out, List.length_take]; omega); rw [← Ny299.out] at hr30; rw [← hy30] at hcut30; have HR302 := Aside0.mk hr30; have HC302 := Aside0.mk (show y299.length ≤ co9 from by omega); clear hr30 hC30 hroom30 hi030 hsz30; have KY30 := Aside0.mk hy30; clear hy30; have KL30 := Aside0.mk (show ((ji22) : Int).toNat ≤ t287.length from by omega); replace q30 := eq_true q30) | (go_at_call 17; (with_reducible refine (utf_Text.calls k1 _ _ y299 t303 _ ?side1 ?side2 ?side3 A25.out).mono ?_); (case side1 => repeat (first | exact (by repeat (first | (with_reducible exact HR302.out) | (with_reducible refine Kd.C_alloc ?_ _) | (with_reducible refine Kd.C_drewN ?_ _) | (with_reducible refine Kd.C_drew ?_) | exact HR302.out)) | (with_reducible refine Kd.C_alloc ?_ _) | (with_reducible refine Kd.C_drewN ?_ _) | (with_reducible refine Kd.C_drew ?_))); (case side2 => exact HC302.out); (case side3 => repeat (first | exact (GLOB_below HG_.out HB.out) | (with_reducible refine GLOB_alloc ?_ _) | (with_reducible refine GLOB_drewN ?_ _) | (with_reducible refine GLOB_drew ?_))); rintro e w31 ⟨rfl, hb⟩; have n0_ := Aside0.mk (Kd.R_below (by (with_reducible repeat (first | apply Kd.R_alloc | apply Kd.R_drewN | apply Kd.R_drew)); exact HO_5.out) hb); have n1_ := Aside0.mk (Kd.R_below (by (with_reducible repeat (first | apply Kd.R_alloc | apply Kd.R_drewN | apply Kd.R_drew)); exact HO_6.out) hb); have n2_ := Aside0.mk (Kd.C_below (by repeat (first | (with_reducible exact HR302.out) | (with_reducible refine Kd.C_alloc ?_ _) | (with_reducible refine Kd.C_drewN ?_ _) | (with_reducible refine Kd.C_drew ?_) | exact HR302.out)) hb); have n3_ := Aside0.mk (below_step (by repeat (first | (with_reducible first | exact HB.out | apply below_alloc | apply pw_below_drewN | apply below_drew1) | exact HB.out)) hb); clear HO_5; clear HO_6; clear HR302; clear HB; have HO_5 := n0_; have HO_6 := n1_; have HR302 := n2_; have HB := n3_; clear n0_ n1_ n2_ n3_; (try clear hb); (try clear hb2); (try clear hk); (try clear hi)) | (go_at_call 16; (with_reducible refine (utf_Bad.calls k1 _ _ t287 t304 _ ?side1 ?side2 ?side3 A27.out).mono ?_); (case side1 => repeat (first | exact (Kd.R_reads' HO_5.out).2.2 | (with_reducible refine Kd.C_alloc ?_ _) | (with_reducible refine Kd.C_drewN ?_ _) | (with_reducible refine Kd.C_drew ?_))); (case side2 => exact (Kd.R_reads' HO_5.out).2.1); (case side3 => repeat (first | exact (GLOB_below HG_.out HB.out) | (with_reducible refine GLOB_alloc ?_ _) | (with_reducible refine GLOB_drewN ?_ _) | (with_reducible refine GLOB_drew ?_))); rintro e w32 ⟨rfl, hb⟩; have n0_ := Aside0.mk (Kd.R_below (by (with_reducible repeat (first | apply Kd.R_alloc | apply Kd.R_drewN | apply Kd.R_drew)); exact HO_5.out) hb); have n1_ := Aside0.mk (Kd.R_below (by (with_reducible repeat (first | apply Kd.R_alloc | apply Kd.R_drewN | apply Kd.R_drew)); exact HO_6.out) hb); have n2_ := Aside0.mk (Kd.C_below (by repeat (first | (with_reducible exact HR302.out) | (with_reducible refine Kd.C_alloc ?_ _) | (with_reducible refine Kd.C_drewN ?_ _) | (with_reducible refine Kd.C_drew ?_) | exact HR302.out)) hb); have n3_ := Aside0.mk (below_step (by repeat (first | (with_reducible first | exact HB.out | apply below_alloc | apply pw_below_drewN | apply below_drew1) | exact HB.out)) hb); clear HO_5; clear HO_6; clear HR302; clear HB; have HO_5 := n0_; have HO_6 := n1_; have HR302 := n2_; have HB := n3_; clear n0_ n1_ n2_ n3_; (try clear hb); (try clear hb2); (try clear hk); (try clear hi)))
                      go_ret
                      exact ⟨by first | rfl | (simp [errW_none, errW_some] <;> rfl) | (simp only [← hji22]; first | rfl | (simp [errW_none, errW_some] <;> rfl)) | (simp [*, errW_none, errW_some] <;> rfl), by repeat (first | (with_reducible first | exact HB.out | apply below_alloc | apply pw_below_drewN | apply below_drew1) | exact HB.out)⟩
                    · rw [if_neg c26] at H
                      have c26b0 : (t303 == x9_1) = false := by simpa using c26
                      (try (have c26b1 : decide (t303 = x9_1) = false := by simpa using c26))
                      (try (have c26b2 : (t303 == x9_1) = false := by simpa using c26))
                      (try (have c26b3 : ¬ (t303 = x9_1) := by simpa using c26))
                      clear c26
                      obtain rfl := Option.some.inj H
                      obtain ⟨Ao33, co33, eo33⟩ := Kd.R_slice HO_6.out
                      subst eo33
                      go_wp2_with (first | ((with_reducible refine gate_callee (f := 12) rfl ?_); refine goesL_ (some 57) rfl rfl Tryd.func12 (by kernel_rfl) rfl #[] rfl (by (try simp only [List.map_toArray, List.map_cons, List.map_nil]); first | done | rfl | (simp only [List.length_drop, List.length_take]; rfl)) ?_; (with_reducible refine (scarflaw01_known.calls  true _ ?side1 A20.out).mono ?_); (case side1 => repeat (first | exact (GLOB_below HG_.out HB.out) | (with_reducible refine GLOB_alloc ?_ _) | (with_reducible refine GLOB_drewN ?_ _) | (with_reducible refine GLOB_drew ?_))); rintro e w34 ⟨rfl, hb⟩; refine ⟨_, rfl, ?_⟩; have n0_ := Aside0.mk (Kd.R_below (by (with_reducible repeat (first | apply Kd.R_alloc | apply Kd.R_drewN | apply Kd.R_drew)); exact HO_5.out) hb); have n1_ := Aside0.mk (Kd.R_below (by (with_reducible repeat (first | apply Kd.R_alloc | apply Kd.R_drewN | apply Kd.R_drew)); exact HO_6.out) hb); have n2_ := Aside0.mk (below_step (by repeat (first | (with_reducible first | exact HB.out | apply below_alloc | apply pw_below_drewN | apply below_drew1) | exact HB.out)) hb); clear HO_5; clear HO_6; clear HB; have HO_5 := n0_; have HO_6 := n1_; have HB := n2_; clear n0_ n1_ n2_; (try clear hb); (try clear hb2); (try clear hk); (try clear hi); have q35 : ((ji22) : Int) ≤ ((t287.length : Int) : Int) := of_decide_eq_true (by first | (with_reducible assumption) | assumption); obtain ⟨i035, hi035, _, hsz35, _⟩ := info_parts info5; have hroom35 : t287.length ≤ co9 := (Kd.R_reads' HO_5.out).2.1; have hC35 : Kd.C (Kd.int .u8) _ Ao9 t287.length t287 := (Kd.R_reads' HO_5.out).2.2; have hcut35 := cut_to (P := Tryd.prog) 22 5 .i64 Tryd.underlying22 hi035 Ao9 t287.length co9 (ji22) (of_decide_eq_true (by first | (with_reducible assumption) | assumption)) q35 hroom35; have hr35 := Kd.C_take (m := ((ji22) : Int).toNat) hC35 (by omega); have hy35 : y299.length = ((ji22) : Int).toNat := (by rw [Ny299.out, List.length_take]; omega); rw [← Ny299.out] at hr35; rw [← hy35] at hcut35; have HR302 := Aside0.mk hr35; have HC302 := Aside0.mk (show y299.length ≤ co9 from by omega); clear hr35 hC35 hroom35 hi035 hsz35; have KY35 := Aside0.mk hy35; clear hy35; have KL35 := Aside0.mk (show ((ji22) : Int).toNat ≤ t287.length from by omega); replace q35 := eq_true q35) | (go_at_call 17; (with_reducible refine (utf_Text.calls k1 _ _ y299 t303 _ ?side1 ?side2 ?side3 A25.out).mono ?_); (case side1 => repeat (first | exact (by repeat (first | (with_reducible exact HR302.out) | (with_reducible refine Kd.C_alloc ?_ _) | (with_reducible refine Kd.C_drewN ?_ _) | (with_reducible refine Kd.C_drew ?_) | exact HR302.out)) | (with_reducible refine Kd.C_alloc ?_ _) | (with_reducible refine Kd.C_drewN ?_ _) | (with_reducible refine Kd.C_drew ?_))); (case side2 => exact HC302.out); (case side3 => repeat (first | exact (GLOB_below HG_.out HB.out) | (with_reducible refine GLOB_alloc ?_ _) | (with_reducible refine GLOB_drewN ?_ _) | (with_reducible refine GLOB_drew ?_))); rintro e w36 ⟨rfl, hb⟩; have n0_ := Aside0.mk (Kd.R_below (by (with_reducible repeat (first | apply Kd.R_alloc | apply Kd.R_drewN | apply Kd.R_drew)); exact HO_5.out) hb); have n1_ := Aside0.mk (Kd.R_below (by (with_reducible repeat (first | apply Kd.R_alloc | apply Kd.R_drewN | apply Kd.R_drew)); exact HO_6.out) hb); have n2_ := Aside0.mk (Kd.C_below (by repeat (first | (with_reducible exact HR302.out) | (with_reducible refine Kd.C_alloc ?_ _) | (with_reducible refine Kd.C_drewN ?_ _) | (with_reducible refine Kd.C_drew ?_) | exact HR302.out)) hb); have n3_ := Aside0.mk (below_step (by repeat (first | (with_reducible first | exact HB.out | apply below_alloc | apply pw_below_drewN | apply below_drew1) | exact HB.out)) hb); clear HO_5; clear HO_6; clear HR302; clear HB; have HO_5 := n0_; have HO_6 := n1_; have HR302 := n2_; have HB := n3_; clear n0_ n1_ n2_ n3_; (try clear hb); (try clear hb2); (try clear hk); (try clear hi)))
                      go_ret
                      exact ⟨by first | rfl | (simp [errW_none, errW_some] <;> rfl) | (simp only [← hji22]; first | rfl | (simp [errW_none, errW_some] <;> rfl)) | (simp [*, errW_none, errW_some] <;> rfl), by repeat (first | (with_reducible first | exact HB.out | apply below_alloc | apply pw_below_drewN | apply below_drew1) | exact HB.out)⟩
                  · rw [if_neg c24] at H
                    exact absurd H (by simp)
                · rw [if_neg c23] at H
                  exact absurd H (by simp)
              · replace c21 := Bool.eq_false_iff.mpr c21
                subst c21
                have H1 : (some false) = some r := by rw [if_neg (show ¬ (false = true) by decide)] at H; exact H
                clear H
                have H := H1
                clear H1
                obtain rfl := Option.some.inj H
                obtain ⟨Ao37, co37, eo37⟩ := Kd.R_slice HO_6.out
                subst eo37
                go_wp2_with (first | ((with_reducible refine gate_callee (f := 12) rfl ?_); refine goesL_ (some 57) rfl rfl Tryd.func12 (by kernel_rfl) rfl #[] rfl (by (try simp only [List.map_toArray, List.map_cons, List.map_nil]); first | done | rfl | (simp only [List.length_drop, List.length_take]; rfl)) ?_; (with_reducible refine (scarflaw01_known.calls  false _ ?side1 A20.out).mono ?_); (case side1 => repeat (first | exact (GLOB_below HG_.out HB.out) | (with_reducible refine GLOB_alloc ?_ _) | (with_reducible refine GLOB_drewN ?_ _) | (with_reducible refine GLOB_drew ?_))); rintro e w38 ⟨rfl, hb⟩; refine ⟨_, rfl, ?_⟩; have n0_ := Aside0.mk (Kd.R_below (by (with_reducible repeat (first | apply Kd.R_alloc | apply Kd.R_drewN | apply Kd.R_drew)); exact HO_5.out) hb); have n1_ := Aside0.mk (Kd.R_below (by (with_reducible repeat (first | apply Kd.R_alloc | apply Kd.R_drewN | apply Kd.R_drew)); exact HO_6.out) hb); have n2_ := Aside0.mk (below_step (by repeat (first | (with_reducible first | exact HB.out | apply below_alloc | apply pw_below_drewN | apply below_drew1) | exact HB.out)) hb); clear HO_5; clear HO_6; clear HB; have HO_5 := n0_; have HO_6 := n1_; have HB := n2_; clear n0_ n1_ n2_; (try clear hb); (try clear hb2); (try clear hk); (try clear hi)))
                go_ret
                exact ⟨by first | rfl | (simp [errW_none, errW_some] <;> rfl) | (simp [*, errW_none, errW_some] <;> rfl), by repeat (first | (with_reducible first | exact HB.out | apply below_alloc | apply pw_below_drewN | apply below_drew1) | exact HB.out)⟩
    · rw [if_neg c4] at H
      exact absurd H (by simp)
  · rw [if_neg c3] at H
    have c3b0 : decide (200 < (l0.length : Int)) = false := decide_eq_false c3
    have c3b1 : decide (200 < l0.length) = false := decide_eq_false (by omega)
    clear c3
    replace H := Option.bind_eq_some_iff.mp H
    obtain ⟨⟨t305, t306⟩, A390, H⟩ := H
    replace H : (if (IntKind.u64.wrap (wrap64 ((t305.length : Int) + 1))) = 0 then (none) else (scarflaw01_UtfCuts.l1 k t305 t306 (wrap64 (Int.tmod (IntKind.u64.wrap (a1)) (IntKind.u64.wrap (wrap64 ((t305.length : Int) + 1))))) 0 ((wrap64 (Int.tmod (IntKind.u64.wrap (a1)) (IntKind.u64.wrap (wrap64 ((t305.length : Int) + 1))))) == 0) 0)) = some r := H
    have A39 := Aside0.mk A390
    clear A390
    by_cases c40 : (IntKind.u64.wrap (wrap64 ((t305.length : Int) + 1))) = 0
    · rw [if_pos c40] at H
      exact absurd H (by simp)
    · rw [if_neg c40] at H
      have c40b0 : ((IntKind.u64.wrap (wrap64 ((t305.length : Int) + 1))) == 0) = false := beq_eq_false_iff_ne.mpr c40
      have c40b1 : ((IntKind.u64.wrap (wrap64 ((t305.length : Int) + 1))) != 0) = true := bne_iff_ne.mpr c40
      have H' := Aside0.mk H
      clear H
      go_enter Tryd.func7, Tryd.ntmps7
      go_wp2_with (first | ((with_reducible refine gate_callee (f := 15) rfl ?_); refine goesL_ (some 20) rfl rfl Tryd.func15 (by kernel_rfl) rfl #[.slice A0 l0.length c0] rfl (by (try simp only [List.map_toArray, List.map_cons, List.map_nil]); first | done | rfl | (simp only [List.length_drop, List.length_take]; rfl)) ?_; (with_reducible refine (scarflaw01_texts.calls k _ _ l0 t305 t306 _ ?side1 ?side2 A39.out).mono ?_); (case side1 => repeat (first | exact HR0.out | (with_reducible refine Kd.C_alloc ?_ _) | (with_reducible refine Kd.C_drewN ?_ _) | (with_reducible refine Kd.C_drew ?_))); (case side2 => exact HC0.out); rintro e w41 ⟨v307, v309, rfl, ho0, ho1, hb⟩; refine ⟨_, rfl, ?_⟩; have n0_ := Aside0.mk (Kd.R_lower ho0 (below_size (by repeat (first | (with_reducible first | exact HB.out | apply below_alloc | apply pw_below_drewN | apply below_drew1) | exact HB.out)))); have n1_ := Aside0.mk (Kd.R_lower ho1 (below_size (by repeat (first | (with_reducible first | exact HB.out | apply below_alloc | apply pw_below_drewN | apply below_drew1) | exact HB.out)))); have n2_ := Aside0.mk (below_step (by repeat (first | (with_reducible first | exact HB.out | apply below_alloc | apply pw_below_drewN | apply below_drew1) | exact HB.out)) hb); clear HB; have HO308 := n0_; have HO310 := n1_; have HB := n2_; clear n0_ n1_ n2_; (try clear hb); (try clear hb2); (try clear hk); (try clear hi); (try clear ho0); (try clear ho1); obtain ⟨Ao42, co42, eo42⟩ := Kd.R_slice HO308.out; subst eo42))
      go_loopg [8, 9, 10] k (fun kq v8 v9 v10 w' => ∃ (x8_1 : Int) (x9_1 : Bool) (x10_1 : Int), v8 = .int .i64 x8_1 ∧ v9 = .bool x9_1 ∧ v10 = .int .i64 x10_1 ∧ Aside0 (scarflaw01_UtfCuts.l1 kq t305 t306 (wrap64 (Int.tmod (IntKind.u64.wrap (a1)) (IntKind.u64.wrap (wrap64 ((t305.length : Int) + 1))))) x8_1 x9_1 x10_1 = some r) ∧ Aside0 (kq ≤ k) ∧ Aside0 (Kd.R (Kd.int .u8) 5 w' w.heap.size (fun _ => True) (.slice Ao42 t305.length co42) t305) ∧ Aside0 (Kd.R (Kd.int .i64) 3 w' w.heap.size (fun _ => True) v309 t306) ∧ Aside0 (Below w.heap.size w w'))
      case atStart => exact ⟨(0), (((wrap64 (Int.tmod (IntKind.u64.wrap (a1)) (IntKind.u64.wrap (wrap64 ((t305.length : Int) + 1))))) == 0)), (0), (by first | rfl | (simp; done) | (simp [*]; done)), (by first | rfl | (simp; done) | (simp [*]; done)), (by first | rfl | (simp; done) | (simp [*]; done)), H', ⟨Nat.le_refl _⟩, ⟨by (with_reducible repeat (first | apply Kd.R_alloc | apply Kd.R_drewN | apply Kd.R_drew)); exact HO308.out⟩, ⟨by (with_reducible repeat (first | apply Kd.R_alloc | apply Kd.R_drewN | apply Kd.R_drew)); exact HO310.out⟩, ⟨by repeat (first | (with_reducible first | exact HB.out | apply below_alloc | apply pw_below_drewN | apply below_drew1) | exact HB.out)⟩⟩
      case round =>
        clear H'
        try clear c1
        try clear c2
        try clear p2
        try clear q2
        try clear hx2
        try clear c3
        try clear c3b0
        try clear c3b1
        try clear q3
        try clear c4
        try clear c4b0
        try clear c4b1
        try clear c6
        try clear c6b0
        try clear c6b1
        try clear p6
        try clear c7
        try clear c10
        try clear c10b0
        try clear c11
        try clear c11b0
        try clear c12
        try clear c13
        try clear c15
        try clear c21
        try clear c23
        try clear c23b0
        try clear c23b1
        try clear c24
        try clear c24b0
        try clear c24b1
        try clear c26
        try clear c26b0
        try clear c26b1
        try clear c26b2
        try clear p29
        try clear q29
        try clear hx29
        try clear q30
        try clear q35
        try clear c40
        try clear c40b0
        try clear c40b1
        try clear hx293_0
        try clear p2
        try clear p293
        try clear p6
        try clear q293
        try clear q30
        try clear q35
        obtain ⟨x8_1, x9_1, x10_1, rfl, rfl, rfl, HA, HK1, HO_5, HO_6, HB⟩ := hrel
        cases gk with
        | zero => exact absurd HA.out (by simp [scarflaw01_UtfCuts.l1])
        | succ k1 =>
          have H := HA.out
          clear HA
          simp only [scarflaw01_UtfCuts.l1] at H
          by_cases c43 : x10_1 < (t306.length : Int)
          · rw [if_pos c43] at H
            have c43b0 : decide (x10_1 < (t306.length : Int)) = true := decide_eq_true c43
            clear c43
            by_cases c44 : 0 ≤ x10_1
            · rw [if_pos c44] at H
              have c44b0 : decide (0 ≤ x10_1) = true := decide_eq_true c44
              clear c44
              replace H := Option.bind_eq_some_iff.mp H
              obtain ⟨⟨t312, t313⟩, A450, H⟩ := H
              replace H : (if x9_1 = true then (scarflaw01_UtfCuts.l1 k1 t305 t306 (wrap64 (Int.tmod (IntKind.u64.wrap (a1)) (IntKind.u64.wrap (wrap64 ((t305.length : Int) + 1))))) (wrap64 (x8_1 + (t312.length : Int))) true (wrap64 (x10_1 + 1))) else (scarflaw01_UtfCuts.l1 k1 t305 t306 (wrap64 (Int.tmod (IntKind.u64.wrap (a1)) (IntKind.u64.wrap (wrap64 ((t305.length : Int) + 1))))) (wrap64 (x8_1 + (t312.length : Int))) ((wrap64 (x8_1 + (t312.length : Int))) == (wrap64 (Int.tmod (IntKind.u64.wrap (a1)) (IntKind.u64.wrap (wrap64 ((t305.length : Int) + 1)))))) (wrap64 (x10_1 + 1)))) = some r := H
              have A45 := Aside0.mk A450
              clear A450
              by_cases c46 : x9_1 = true
              · subst c46
                have H1 : (scarflaw01_UtfCuts.l1 k1 t305 t306 (wrap64 (Int.tmod (IntKind.u64.wrap (a1)) (IntKind.u64.wrap (wrap64 ((t305.length : Int) + 1))))) (wrap64 (x8_1 + (t312.length : Int))) true (wrap64 (x10_1 + 1))) = some r := by rw [if_pos rfl] at H; exact H
                clear H
                have H := H1
                clear H1
                have H' := Aside0.mk H
                clear H
                obtain ⟨Ao47, co47, eo47⟩ := Kd.R_slice HO_6.out
                subst eo47
                have p311 : 0 ≤ (x10_1 : Int) := of_decide_eq_true (by first | (with_reducible assumption) | assumption)
                have q311 : x10_1 < (t306.length : Int) := of_decide_eq_true (by first | (with_reducible assumption) | assumption)
                obtain ⟨ad311, e311, hx311_0⟩ := Kd.at_int (Kd.R_reads' HO_6.out).2.2 x10_1 p311 q311
                cases e311
                replace p311 := eq_true p311
                replace q311 := eq_true q311
                go_wp2_with (first | ((with_reducible refine gate_callee (f := 13) rfl ?_); refine goesL_ (some 44) rfl rfl Tryd.func13 (by kernel_rfl) rfl #[.int .i64 (rd t306 x10_1)] rfl (by (try simp only [List.map_toArray, List.map_cons, List.map_nil]); first | done | rfl | (simp only [List.length_drop, List.length_take]; rfl)) ?_; (with_reducible refine (utf_Bytes.calls (rd t306 x10_1) t312 t313 _ A45.out).mono ?_); rintro e w48 ⟨v314, rfl, ho0, hb⟩; refine ⟨_, rfl, ?_⟩; have n0_ := Aside0.mk (Kd.R_elder' (by (with_reducible repeat (first | apply Kd.R_alloc | apply Kd.R_drewN | apply Kd.R_drew)); exact HO_5.out) (Kd.R_base ho0) hb); have n1_ := Aside0.mk (Kd.R_below (by (with_reducible repeat (first | apply Kd.R_alloc | apply Kd.R_drewN | apply Kd.R_drew)); exact HO_6.out) hb); have n2_ := Aside0.mk (Kd.R_lower (Kd.R_new' ho0 (Kd.R_lt (by (with_reducible repeat (first | apply Kd.R_alloc | apply Kd.R_drewN | apply Kd.R_drew)); exact HO_5.out))) (below_size (by repeat (first | (with_reducible first | exact HB.out | apply below_alloc | apply pw_below_drewN | apply below_drew1) | exact HB.out)))); have n3_ := Aside0.mk (below_step (by repeat (first | (with_reducible first | exact HB.out | apply below_alloc | apply pw_below_drewN | apply below_drew1) | exact HB.out)) hb); clear HO_5; clear HO_6; clear HB; have HO_5 := n0_; have HO_6 := n1_; have HO315 := n2_; have HB := n3_; clear n0_ n1_ n2_ n3_; (try clear hb); (try clear hb2); (try clear hk); (try clear hi); (try clear ho0); obtain ⟨Ao49, co49, eo49⟩ := Kd.R_slice HO315.out; subst eo49))
                go_roundg k1
                case measure => have := HK1.out; omega
                case rel => exact ⟨(wrap64 (x8_1 + (t312.length : Int))), (true), (wrap64 (x10_1 + 1)), (by first | rfl | (simp; done) | (simp [*]; done)), (by first | rfl | (simp; done) | (simp [*]; done)), (by first | rfl | (simp; done) | (simp [*]; done)), H', ⟨by have := HK1.out; omega⟩, ⟨by (with_reducible repeat (first | apply Kd.R_alloc | apply Kd.R_drewN | apply Kd.R_drew)); exact Kd.R_mono HO_5.out (fun _ hk => trivial)⟩, ⟨by (with_reducible repeat (first | apply Kd.R_alloc | apply Kd.R_drewN | apply Kd.R_drew)); exact HO_6.out⟩, ⟨by repeat (first | (with_reducible first | exact HB.out | apply below_alloc | apply pw_below_drewN | apply below_drew1) | exact HB.out)⟩⟩
              · replace c46 := Bool.eq_false_iff.mpr c46
                subst c46
                have H1 : (scarflaw01_UtfCuts.l1 k1 t305 t306 (wrap64 (Int.tmod (IntKind.u64.wrap (a1)) (IntKind.u64.wrap (wrap64 ((t305.length : Int) + 1))))) (wrap64 (x8_1 + (t312.length : Int))) ((wrap64 (x8_1 + (t312.length : Int))) == (wrap64 (Int.tmod (IntKind.u64.wrap (a1)) (IntKind.u64.wrap (wrap64 ((t305.length : Int) + 1)))))) (wrap64 (x10_1 + 1))) = some r := by rw [if_neg (show ¬ (false = true) by decide)] at H; exact H
                clear H
                have H := H1
                clear H1
                have H' := Aside0.mk H
                clear H
                obtain ⟨Ao50, co50, eo50⟩ := Kd.R_slice HO_6.out
                subst eo50
                have p311 : 0 ≤ (x10_1 : Int) := of_decide_eq_true (by first | (with_reducible assumption) | assumption)
                have q311 : x10_1 < (t306.length : Int) := of_decide_eq_true (by first | (with_reducible assumption) | assumption)
                obtain ⟨ad311, e311, hx311_0⟩ := Kd.at_int (Kd.R_reads' HO_6.out).2.2 x10_1 p311 q311
                cases e311
                replace p311 := eq_true p311
                replace q311 := eq_true q311
                go_wp2_with (first | ((with_reducible refine gate_callee (f := 13) rfl ?_); refine goesL_ (some 44) rfl rfl Tryd.func13 (by kernel_rfl) rfl #[.int .i64 (rd t306 x10_1)] rfl (by (try simp only [List.map_toArray, List.map_cons, List.map_nil]); first | done | rfl | (simp only [List.length_drop, List.length_take]; rfl)) ?_; (with_reducible refine (utf_Bytes.calls (rd t306 x10_1) t312 t313 _ A45.out).mono ?_); rintro e w51 ⟨v314, rfl, ho0, hb⟩; refine ⟨_, rfl, ?_⟩; have n0_ := Aside0.mk (Kd.R_elder' (by (with_reducible repeat (first | apply Kd.R_alloc | apply Kd.R_drewN | apply Kd.R_drew)); exact HO_5.out) (Kd.R_base ho0) hb); have n1_ := Aside0.mk (Kd.R_below (by (with_reducible repeat (first | apply Kd.R_alloc | apply Kd.R_drewN | apply Kd.R_drew)); exact HO_6.out) hb); have n2_ := Aside0.mk (Kd.R_lower (Kd.R_new' ho0 (Kd.R_lt (by (with_reducible repeat (first | apply Kd.R_alloc | apply Kd.R_drewN | apply Kd.R_drew)); exact HO_5.out))) (below_size (by repeat (first | (with_reducible first | exact HB.out | apply below_alloc | apply pw_below_drewN | apply below_drew1) | exact HB.out)))); have n3_ := Aside0.mk (below_step (by repeat (first | (with_reducible first | exact HB.out | apply below_alloc | apply pw_below_drewN | apply below_drew1) | exact HB.out)) hb); clear HO_5; clear HO_6; clear HB; have HO_5 := n0_; have HO_6 := n1_; have HO315 := n2_; have HB := n3_; clear n0_ n1_ n2_ n3_; (try clear hb); (try clear hb2); (try clear hk); (try clear hi); (try clear ho0); obtain ⟨Ao52, co52, eo52⟩ := Kd.R_slice HO315.out; subst eo52))
                go_roundg k1
                case measure => have := HK1.out; omega
                case rel => exact ⟨(wrap64 (x8_1 + (t312.length : Int))), (((wrap64 (x8_1 + (t312.length : Int))) == (wrap64 (Int.tmod (IntKind.u64.wrap (a1)) (IntKind.u64.wrap (wrap64 ((t305.length : Int) + 1))))))), (wrap64 (x10_1 + 1)), (by first | rfl | (simp; done) | (simp [*]; done)), (by first | rfl | (simp; done) | (simp [*]; done)), (by first | rfl | (simp; done) | (simp [*]; done)), H', ⟨by have := HK1.out; omega⟩, ⟨by (with_reducible repeat (first | apply Kd.R_alloc | apply Kd.R_drewN | apply Kd.R_drew)); exact Kd.R_mono HO_5.out (fun _ hk => trivial)⟩, ⟨by (with_reducible repeat (first | apply Kd.R_alloc | apply Kd.R_drewN | apply Kd.R_drew)); exact HO_6.out⟩, ⟨by repeat (first | (with_reducible first | exact HB.out | apply below_alloc | apply pw_below_drewN | apply below_drew1) | exact HB.out)⟩⟩
            · rw [if_neg c44] at H
              exact absurd H (by simp)
          · rw [if_neg c43] at H
            have c43b0 : decide (x10_1 < (t306.length : Int)) = false := decide_eq_false c43
            clear c43
            replace H := Option.bind_eq_some_iff.mp H
            obtain ⟨t316, A530, H⟩ := H
            replace H : (if t316 = true then (if 0 ≤ (wrap64 (Int.tmod (IntKind.u64.wrap (a1)) (IntKind.u64.wrap (wrap64 ((t305.length : Int) + 1))))) then (if (wrap64 (Int.tmod (IntKind.u64.wrap (a1)) (IntKind.u64.wrap (wrap64 ((t305.length : Int) + 1))))) ≤ (t305.length : Int) then ((utf_Text.f k1 (t305.take ((wrap64 (Int.tmod (IntKind.u64.wrap (a1)) (IntKind.u64.wrap (wrap64 ((t305.length : Int) + 1))))) : Int).toNat)).bind fun t321 => (if (t321 == x9_1) = true then ((utf_Bad.f k1 t305).bind fun t322 => (some (t322 == (t305.length : Int)))) else (some false))) else (none)) else (none)) else (some false)) = some r := H
            have A53 := Aside0.mk A530
            clear A530
            by_cases c54 : t316 = true
            · subst c54
              have H1 : (if 0 ≤ (wrap64 (Int.tmod (IntKind.u64.wrap (a1)) (IntKind.u64.wrap (wrap64 ((t305.length : Int) + 1))))) then (if (wrap64 (Int.tmod (IntKind.u64.wrap (a1)) (IntKind.u64.wrap (wrap64 ((t305.length : Int) + 1))))) ≤ (t305.length : Int) then ((utf_Text.f k1 (t305.take ((wrap64 (Int.tmod (IntKind.u64.wrap (a1)) (IntKind.u64.wrap (wrap64 ((t305.length : Int) + 1))))) : Int).toNat)).bind fun t321 => (if (t321 == x9_1) = true then ((utf_Bad.f k1 t305).bind fun t322 => (some (t322 == (t305.length : Int)))) else (some false))) else (none)) else (none)) = some r := by rw [if_pos rfl] at H; exact H
              clear H
              have H := H1
              clear H1
              obtain ⟨ji55, hji55⟩ : ∃ j_ : Int, (wrap64 (Int.tmod (IntKind.u64.wrap (a1)) (IntKind.u64.wrap (wrap64 ((t305.length : Int) + 1))))) = j_ := ⟨_, rfl⟩
              replace H : (if 0 ≤ (ji55) then (if (ji55) ≤ (t305.length : Int) then ((utf_Text.f k1 (t305.take ((ji55) : Int).toNat)).bind fun t321 => (if (t321 == x9_1) = true then ((utf_Bad.f k1 t305).bind fun t322 => (some (t322 == (t305.length : Int)))) else (some false))) else (none)) else (none)) = some r := by first | (rw [hji55] at H; exact H) | (simp only [hji55] at H ⊢; exact H)
              (try rw [hji55] at A53)
              have hji55w : (IntKind.i64.wrap (Int.tmod (IntKind.u64.wrap (a1)) (IntKind.u64.wrap (wrap64 ((t305.length : Int) + 1))))) = ji55 := (i64_w _).trans hji55
              by_cases c56 : 0 ≤ (ji55)
              · rw [if_pos c56] at H
                have c56b0 := eq_true c56
                have c56b1 : decide (0 ≤ (ji55)) = true := decide_eq_true c56
                clear c56
                by_cases c57 : (ji55) ≤ (t305.length : Int)
                · rw [if_pos c57] at H
                  have c57b0 := eq_true c57
                  have c57b1 : decide ((ji55) ≤ (t305.length : Int)) = true := decide_eq_true c57
                  clear c57
                  obtain ⟨y317, hy317⟩ : ∃ y_ : List Int, y_ = (t305.take ((ji55) : Int).toNat) := ⟨_, rfl⟩
                  replace H : ((utf_Text.f k1 y317).bind fun t321 => (if (t321 == x9_1) = true then ((utf_Bad.f k1 t305).bind fun t322 => (some (t322 == (t305.length : Int)))) else (some false))) = some r := by first | (rw [hy317]; with_reducible exact H) | (have H2_ := (Option.bind_some _ _).symm.trans H; rw [hy317]; with_reducible exact H2_) | (have H2_ := (Option.bind_some _ _).symm.trans H; with_reducible exact H2_) | with_reducible exact H | (rw [hy317]; exact H) | exact H
                  have Ny317 := Aside0.mk hy317
                  clear hy317
                  replace H := Option.bind_eq_some_iff.mp H
                  obtain ⟨t321, A580, H⟩ := H
                  replace H : (if (t321 == x9_1) = true then ((utf_Bad.f k1 t305).bind fun t322 => (some (t322 == (t305.length : Int)))) else (some false)) = some r := H
                  have A58 := Aside0.mk A580
                  clear A580
                  by_cases c59 : (t321 == x9_1) = true
                  · rw [if_pos c59] at H
                    have c59b0 : (t321 == x9_1) = true := c59
                    (try (have c59b1 : decide (t321 = x9_1) = true := by simpa using c59))
                    (try (have c59b2 : (t321 == x9_1) = true := by simpa using c59))
                    clear c59
                    replace H := Option.bind_eq_some_iff.mp H
                    obtain ⟨t322, A600, H⟩ := H
                    replace H : (some (t322 == (t305.length : Int))) = some r := H
                    have A60 := Aside0.mk A600
                    clear A600
                    obtain rfl := Option.some.inj H
                    obtain ⟨Ao61, co61, eo61⟩ := Kd.R_slice HO_6.out
                    subst eo61
                    go_wp2_with (first | ((with_reducible refine gate_callee (f := 12) rfl ?_); refine goesL_ (some 57) rfl rfl Tryd.func12 (by kernel_rfl) rfl #[] rfl (by (try simp only [List.map_toArray, List.map_cons, List.map_nil]); first | done | rfl | (simp only [List.length_drop, List.length_take]; rfl)) ?_; (with_reducible refine (scarflaw01_known.calls  true _ ?side1 A53.out).mono ?_); (case side1 => repeat (first | exact (GLOB_below HG_.out HB.out) | (with_reducible refine GLOB_alloc ?_ _) | (with_reducible refine GLOB_drewN ?_ _) | (with_reducible refine GLOB_drew ?_))); rintro e w62 ⟨rfl, hb⟩; refine ⟨_, rfl, ?_⟩; have n0_ := Aside0.mk (Kd.R_below (by (with_reducible repeat (first | apply Kd.R_alloc | apply Kd.R_drewN | apply Kd.R_drew)); exact HO_5.out) hb); have n1_ := Aside0.mk (Kd.R_below (by (with_reducible repeat (first | apply Kd.R_alloc | apply Kd.R_drewN | apply Kd.R_drew)); exact HO_6.out) hb); have n2_ := Aside0.mk (below_step (by repeat (first | (with_reducible first | exact HB.out | apply below_alloc | apply pw_below_drewN | apply below_drew1) | exact HB.out)) hb); clear HO_5; clear HO_6; clear HB; have HO_5 := n0_; have HO_6 := n1_; have HB := n2_; clear n0_ n1_ n2_; (try clear hb); (try clear hb2); (try clear hk); (try clear hi); have q63 : ((ji55) : Int) ≤ ((t305.length : Int) : Int) := of_decide_eq_true (by first | (with_reducible assumption) | assumption); obtain ⟨i063, hi063, _, hsz63, _⟩ := info_parts info5; have hroom63 : t305.length ≤ co42 := (Kd.R_reads' HO_5.out).2.1; have hC63 : Kd.C (Kd.int .u8) _ Ao42 t305.length t305 := (Kd.R_reads' HO_5.out).2.2; have hcut63 := cut_to (P := Tryd.prog) 22 5 .i64 Tryd.underlying22 hi063 Ao42 t305.length co42 (ji55) (of_decide_eq_true (by first | (with_reducible assumption) | assumption)) q63 hroom63; have hr63 := Kd.C_take (m := ((ji55) : Int).toNat) hC63 (by omega); have hy63 : y317.length = ((ji55) : Int).toNat := (by rw [Ny317.out, List.length_take]; omega); rw [← Ny317.out] at hr63; rw [← hy63] at hcut63; have HR320 := Aside0.mk hr63; have HC320 := Aside0.mk (show y317.length ≤ co42 from by omega); clear hr63 hC63 hroom63 hi063 hsz63; have KY63 := Aside0.mk hy63; clear hy63; have KL63 := Aside0.mk (show ((ji55) : Int).toNat ≤ t305.length from by omega); replace q63 := eq_true q63) | (go_at_call 17; (with_reducible refine (utf_Text.calls k1 _ _ y317 t321 _ ?side1 ?side2 ?side3 A58.out).mono ?_); (case side1 => repeat (first | exact (by repeat (first | (with_reducible exact HR320.out) | (with_reducible refine Kd.C_alloc ?_ _) | (with_reducible refine Kd.C_drewN ?_ _) | (with_reducible refine Kd.C_drew ?_) | exact HR320.out)) | (with_reducible refine Kd.C_alloc ?_ _) | (with_reducible refine Kd.C_drewN ?_ _) | (with_reducible refine Kd.C_drew ?_))); (case side2 => exact HC320.out); (case side3 => repeat (first | exact (GLOB_below HG_.out HB.out) | (with_reducible refine GLOB_alloc ?_ _) | (with_reducible refine GLOB_drewN ?_ _) | (with_reducible refine GLOB_drew ?_))); rintro e w64 ⟨rfl, hb⟩; have n0_ := Aside0.mk (Kd.R_below (by (with_reducible repeat (first | apply Kd.R_alloc | apply Kd.R_drewN | apply Kd.R_drew)); exact HO_5.out) hb); have n1_ := Aside0.mk (Kd.R_below (by (with_reducible repeat (first | apply Kd.R_alloc | apply Kd.R_drewN | apply Kd.R_drew)); exact HO_6.out) hb); have n2_ := Aside0.mk (Kd.C_below (by repeat (first | (with_reducible exact HR320.out) | (with_reducible refine Kd.C_alloc ?_ _) | (with_reducible refine Kd.C_drewN ?_ _) | (with_reducible refine Kd.C_drew ?_) | exact HR320.out)) hb); have n3_ := Aside0.mk (below_step (by repeat (first | (with_reducible first | exact HB.out | apply below_alloc | apply pw_below_drewN | apply below_drew1) | exact HB.out)) hb); clear HO_5; clear HO_6; clear HR320; clear HB; have HO_5 := n0_; have HO_6 := n1_; have HR320 := n2_; have HB := n3_; clear n0_ n1_ n2_ n3_; (try clear hb); (try clear hb2); (try clear hk); (try clear hi)) | (go_at_call 16; (with_reducible refine (utf_Bad.calls k1 _ _ t305 t322 _ ?side1 ?side2 ?side3 A60.out).mono ?_); (case side1 => repeat (first | exact (Kd.R_reads' HO_5.out).2.2 | (with_reducible refine Kd.C_alloc ?_ _) | (with_reducible refine Kd.C_drewN ?_ _) | (with_reducible refine Kd.C_drew ?_))); (case side2 => exact (Kd.R_reads' HO_5.out).2.1); (case side3 => repeat (first | exact (GLOB_below HG_.out HB.out) | (with_reducible refine GLOB_alloc ?_ _) | (with_reducible refine GLOB_drewN ?_ _) | (with_reducible refine GLOB_drew ?_))); rintro e w65 ⟨rfl, hb⟩; have n0_ := Aside0.mk (Kd.R_below (by (with_reducible repeat (first | apply Kd.R_alloc | apply Kd.R_drewN | apply Kd.R_drew)); exact HO_5.out) hb); have n1_ := Aside0.mk (Kd.R_below (by (with_reducible repeat (first | apply Kd.R_alloc | apply Kd.R_drewN | apply Kd.R_drew)); exact HO_6.out) hb); have n2_ := Aside0.mk (Kd.C_below (by repeat (first | (with_reducible exact HR320.out) | (with_reducible refine Kd.C_alloc ?_ _) | (with_reducible refine Kd.C_drewN ?_ _) | (with_reducible refine Kd.C_drew ?_) | exact HR320.out)) hb); have n3_ := Aside0.mk (below_step (by repeat (first | (with_reducible first | exact HB.out | apply below_alloc | apply pw_below_drewN | apply below_drew1) | exact HB.out)) hb); clear HO_5; clear HO_6; clear HR320; clear HB; have HO_5 := n0_; have HO_6 := n1_; have HR320 := n2_; have HB := n3_; clear n0_ n1_ n2_ n3_; (try clear hb); (try clear hb2); (try clear hk); (try clear hi)))
                    go_ret
                    exact ⟨by first | rfl | (simp [errW_none, errW_some] <;> rfl) | (simp only [← hji55]; first | rfl | (simp [errW_none, errW_some] <;> rfl)) | (simp [*, errW_none, errW_some] <;> rfl), by repeat (first | (with_reducible first | exact HB.out | apply below_alloc | apply pw_below_drewN | apply below_drew1) | exact HB.out)⟩
                  · rw [if_neg c59] at H
                    have c59b0 : (t321 == x9_1) = false := by simpa using c59
                    (try (have c59b1 : decide (t321 = x9_1) = false := by simpa using c59))
                    (try (have c59b2 : (t321 == x9_1) = false := by simpa using c59))
                    (try (have c59b3 : ¬ (t321 = x9_1) := by simpa using c59))
                    clear c59
                    obtain rfl := Option.some.inj H
                    obtain ⟨Ao66, co66, eo66⟩ := Kd.R_slice HO_6.out
                    subst eo66
                    go_wp2_with (first | ((with_reducible refine gate_callee (f := 12) rfl ?_); refine goesL_ (some 57) rfl rfl Tryd.func12 (by kernel_rfl) rfl #[] rfl (by (try simp only [List.map_toArray, List.map_cons, List.map_nil]); first | done | rfl | (simp only [List.length_drop, List.length_take]; rfl)) ?_; (with_reducible refine (scarflaw01_known.calls  true _ ?side1 A53.out).mono ?_); (case side1 => repeat (first | exact (GLOB_below HG_.out HB.out) | (with_reducible refine GLOB_alloc ?_ _) | (with_reducible refine GLOB_drewN ?_ _) | (with_reducible refine GLOB_drew ?_))); rintro e w67 ⟨rfl, hb⟩; refine ⟨_, rfl, ?_⟩; have n0_ := Aside0.mk (Kd.R_below (by (with_reducible repeat (first | apply Kd.R_alloc | apply Kd.R_drewN | apply Kd.R_drew)); exact HO_5.out) hb); have n1_ := Aside0.mk (Kd.R_below (by (with_reducible repeat (first | apply Kd.R_alloc | apply Kd.R_drewN | apply Kd.R_drew)); exact HO_6.out) hb); have n2_ := Aside0.mk (below_step (by repeat (first | (with_reducible first | exact HB.out | apply below_alloc | apply pw_below_drewN | apply below_drew1) | exact HB.out)) hb); clear HO_5; clear HO_6; clear HB; have HO_5 := n0_; have HO_6 := n1_; have HB := n2_; clear n0_ n1_ n2_; (try clear hb); (try clear hb2); (try clear hk); (try clear hi); have q68 : ((ji55) : Int) ≤ ((t305.length : Int) : Int) := of_decide_eq_true (by first | (with_reducible assumption) | assumption); obtain ⟨i068, hi068, _, hsz68, _⟩ := info_parts info5; have hroom68 : t305.length ≤ co42 := (Kd.R_reads' HO_5.out).2.1; have hC68 : Kd.C (Kd.int .u8) _ Ao42 t305.length t305 := (Kd.R_reads' HO_5.out).2.2; have hcut68 := cut_to (P := Tryd.prog) 22 5 .i64 Tryd.underlying22 hi068 Ao42 t305.length co42 (ji55) (of_decide_eq_true (by first | (with_reducible assumption) | assumption)) q68 hroom68; have hr68 := Kd.C_take (m := ((ji55) : Int).toNat) hC68 (by omega); have hy68 : y317.length = ((ji55) : Int).toNat := (by rw [Ny317.out, List.length_take]; omega); rw [← Ny317.out] at hr68; rw [← hy68] at hcut68; have HR320 := Aside0.mk hr68; have HC320 := Aside0.mk (show y317.length ≤ co42 from by omega); clear hr68 hC68 hroom68 hi068 hsz68; have KY68 := Aside0.mk hy68; clear hy68; have KL68 := Aside0.mk (show ((ji55) : Int).toNat ≤ t305.length from by omega); replace q68 := eq_true q68) | (go_at_call 17; (with_reducible refine (utf_Text.calls k1 _ _ y317 t321 _ ?side1 ?side2 ?side3 A58.out).mono ?_); (case side1 => repeat (first | exact (by repeat (first | (with_reducible exact HR320.out) | (with_reducible refine Kd.C_alloc ?_ _) | (with_reducible refine Kd.C_drewN ?_ _) | (with_reducible refine Kd.C_drew ?_) | exact HR320.out)) | (with_reducible refine Kd.C_alloc ?_ _) | (with_reducible refine Kd.C_drewN ?_ _) | (with_reducible refine Kd.C_drew ?_))); (case side2 => exact HC320.out); (case side3 => repeat (first | exact (GLOB_below HG_.out HB.out) | (with_reducible refine GLOB_alloc ?_ _) | (with_reducible refine GLOB_drewN ?_ _) | (with_reducible refine GLOB_drew ?_))); rintro e w69 ⟨rfl, hb⟩; have n0_ := Aside0.mk (Kd.R_below (by (with_reducible repeat (first | apply Kd.R_alloc | apply Kd.R_drewN | apply Kd.R_drew)); exact HO_5.out) hb); have n1_ := Aside0.mk (Kd.R_below (by (with_reducible repeat (first | apply Kd.R_alloc | apply Kd.R_drewN | apply Kd.R_drew)); exact HO_6.out) hb); have n2_ := Aside0.mk (Kd.C_below (by repeat (first | (with_reducible exact HR320.out) | (with_reducible refine Kd.C_alloc ?_ _) | (with_reducible refine Kd.C_drewN ?_ _) | (with_reducible refine Kd.C_drew ?_) | exact HR320.out)) hb); have n3_ := Aside0.mk (below_step (by repeat (first | (with_reducible first | exact HB.out | apply below_alloc | apply pw_below_drewN | apply below_drew1) | exact HB.out)) hb); clear HO_5; clear HO_6; clear HR320; clear HB; have HO_5 := n0_; have HO_6 := n1_; have HR320 := n2_; have HB := n3_; clear n0_ n1_ n2_ n3_; (try clear hb); (try clear hb2); (try clear hk); (try clear hi)))
                    go_ret
                    exact ⟨by first | rfl | (simp [errW_none, errW_some] <;> rfl) | (simp only [← hji55]; first | rfl | (simp [errW_none, errW_some] <;> rfl)) | (simp [*, errW_none, errW_some] <;> rfl), by repeat (first | (with_reducible first | exact HB.out | apply below_alloc | apply pw_below_drewN | apply below_drew1) | exact HB.out)⟩
                · rw [if_neg c57] at H
                  exact absurd H (by simp)
              · rw [if_neg c56] at H
                exact absurd H (by simp)
            · replace c54 := Bool.eq_false_iff.mpr c54
              subst c54
              have H1 : (some false) = some r := by rw [if_neg (show ¬ (false = true) by decide)] at H; exact H
              clear H
              have H := H1
              clear H1
              obtain rfl := Option.some.inj H
              obtain ⟨Ao70, co70, eo70⟩ := Kd.R_slice HO_6.out
              subst eo70
              go_wp2_with (first | ((with_reducible refine gate_callee (f := 12) rfl ?_); refine goesL_ (some 57) rfl rfl Tryd.func12 (by kernel_rfl) rfl #[] rfl (by (try simp only [List.map_toArray, List.map_cons, List.map_nil]); first | done | rfl | (simp only [List.length_drop, List.length_take]; rfl)) ?_; (with_reducible refine (scarflaw01_known.calls  false _ ?side1 A53.out).mono ?_); (case side1 => repeat (first | exact (GLOB_below HG_.out HB.out) | (with_reducible refine GLOB_alloc ?_ _) | (with_reducible refine GLOB_drewN ?_ _) | (with_reducible refine GLOB_drew ?_))); rintro e w71 ⟨rfl, hb⟩; refine ⟨_, rfl, ?_⟩; have n0_ := Aside0.mk (Kd.R_below (by (with_reducible repeat (first | apply Kd.R_alloc | apply Kd.R_drewN | apply Kd.R_drew)); exact HO_5.out) hb); have n1_ := Aside0.mk (Kd.R_below (by (with_reducible repeat (first | apply Kd.R_alloc | apply Kd.R_drewN | apply Kd.R_drew)); exact HO_6.out) hb); have n2_ := Aside0.mk (below_step (by repeat (first | (with_reducible first | exact HB.out | apply below_alloc | apply pw_below_drewN | apply below_drew1) | exact HB.out)) hb); clear HO_5; clear HO_6; clear HB; have HO_5 := n0_; have HO_6 := n1_; have HB := n2_; clear n0_ n1_ n2_; (try clear hb); (try clear hb2); (try clear hk); (try clear hi)))
              go_ret
              exact ⟨by first | rfl | (simp [errW_none, errW_some] <;> rfl) | (simp [*, errW_none, errW_some] <;> rfl), by repeat (first | (with_reducible first | exact HB.out | apply below_alloc | apply pw_below_drewN | apply below_drew1) | exact HB.out)⟩

/-- THE ONE PURE STATEMENT of scarflaw01_UtfCuts: yours. -/
def scarflaw01_UtfCuts.Pure : Prop := ∀ (l0 : List Int) (a1 : Int), l0.length ≤ maxLen → l0.length * 8 ≤ 140737488351232 → (∀ x ∈ l0, (Lit.int .i64 x).wf = true) → (Lit.int .i64 a1).wf = true → ∃ k, scarflaw01_UtfCuts.f k l0 a1 = some true
theorem scarflaw01_UtfCuts.walk (P : scarflaw01_UtfCuts.Pure) (a0 : Option Addr) (len0 cap0 : Nat) (z0 : List Int) (a1 : Int) (w : World) (hG : GLOB w) (w0 : (a0 = none ∧ len0 = 0 ∧ cap0 = 0 ∧ z0 = []) ∨ ∃ x, a0 = some x ∧ len0 ≤ cap0 ∧ cap0 ≤ maxLen ∧ z0.length = cap0 ∧ (∀ i, i < z0.length → w.cell? (x.add i) = some (.int .i64 (z0.getD i 0))) ∧ ∀ n ∈ z0, (Lit.int .i64 n).wf = true) (y0 : len0 * 8 ≤ 140737488351232) (w1 : (Lit.int .i64 a1).wf = true) :
    Calls Tryd.prog 7 #[.slice a0 len0 cap0, .int .i64 a1] w fun e w' => e = .returned (.bool true) ∧ Below w.heap.size w w' := by
  obtain ⟨l0, rfl, hr0, hm0, hw0, hc0⟩ := ReadsInt.ofRowC w0
  obtain ⟨k, h⟩ := P l0 a1 hm0 y0 hw0 w1
  refine (scarflaw01_UtfCuts.calls k _ _ l0 a1 true w (Kd.C_of_reads (d := (0 : Int)) (h1 := fun _ => rfl) hr0) hc0 hG h).mono ?_
  rintro e w' ⟨rfl, hd⟩
  exact ⟨rfl, hd⟩

end Go.Proofs.YtpoeiiimmgnioaaDoor.Q
