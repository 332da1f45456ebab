-- Written by this repo's pp.py (the kit's print program with additions).
import Derived.Test.YtpoeiiimmgnioaaDoorQ0
import Derived.Test.YtpoeiiimmgnioaaDoorQ1
import Derived.Test.YtpoeiiimmgnioaaDoorQ2
import Derived.Test.YtpoeiiimmgnioaaDoorQ5
namespace Go.Proofs.YtpoeiiimmgnioaaDoor.Q
open Go.RowKit Go.Proofs.YtpoeiiimmgnioaaDoorW.PrintWords Go.Proofs.YtpoeiiimmgnioaaDoorW.PrintLast Go.Proofs.YtpoeiiimmgnioaaDoorW.PrintMore
attribute [local go_sem] max2_int min2_int max_two min_two max_three min_three max_four min_four   -- for this text's walks alone
set_option linter.unusedVariables false
set_option linter.unusedSimpArgs false

/-! ### scarflaw01_UtfTexts: function 8 -/
mutual
def scarflaw01_UtfTexts.j0 : Nat → List Int → List Int → Int → List Int → Int → Bool → Option (Bool)
  | 0, _, _, _, _, _, _ => none
  | k + 1, x0, x4, x5, x6, x7, x47 => if x47 = true then (some false) else (if x7 < (x0.length : Int) then (if x5 = 3 then (some ((x4.length : Int) == 0)) else (some false)) else (if x5 = 0 then ((scarflaw01_same.f k x4 x6).bind fun t167 => (some t167)) else (some false)))
def scarflaw01_UtfTexts.j1 : Nat → List Int → List Int → Int → List Int → Int → Bool → Option (Bool)
  | 0, _, _, _, _, _, _ => none
  | k + 1, x0, x4, x5, x6, x7, x47 => if x47 = true then (some false) else (if x7 < (x0.length : Int) then (if x5 = 3 then (some ((x4.length : Int) == 0)) else (some false)) else (if x5 = 0 then ((scarflaw01_same.f k x4 x6).bind fun t179 => (some t179)) else (some false)))
end
def scarflaw01_UtfTexts.f (k : Nat) (l0 : List Int) : Option (Bool) := if (l0.length : Int) > 100000 then (if 100000 ≤ (l0.length : Int) then ((utf_Signs.f k (l0.take 100000)).bind fun bt156 => ((scarfref01_Signs.f k (l0.take 100000)).bind fun bt160 => ((scarflaw01_known.f).bind fun t164 => (if t164 = true then ((utf_Bad.f k (l0.take 100000)).bind fun t165 => (if t165 = bt160.2 then ((utf_Text.f k (l0.take 100000)).bind fun t166 => (if (t166 != (bt160.2 == ((l0.take 100000).length : Int))) = true then (scarflaw01_UtfTexts.j0 k (l0.take 100000) bt156.1 bt156.2 bt160.1 bt160.2 true) else (scarflaw01_UtfTexts.j0 k (l0.take 100000) bt156.1 bt156.2 bt160.1 bt160.2 ((strOfNums (l0.take 100000)).toList != (strOfNums (l0.take 100000)).toList)))) else (scarflaw01_UtfTexts.j0 k (l0.take 100000) bt156.1 bt156.2 bt160.1 bt160.2 true))) else (scarflaw01_UtfTexts.j0 k (l0.take 100000) bt156.1 bt156.2 bt160.1 bt160.2 true))))) else (none)) else ((utf_Signs.f k l0).bind fun bt168 => ((scarfref01_Signs.f k l0).bind fun bt172 => ((scarflaw01_known.f).bind fun t176 => (if t176 = true then ((utf_Bad.f k l0).bind fun t177 => (if t177 = bt172.2 then ((utf_Text.f k l0).bind fun t178 => (if (t178 != (bt172.2 == (l0.length : Int))) = true then (scarflaw01_UtfTexts.j1 k l0 bt168.1 bt168.2 bt172.1 bt172.2 true) else (scarflaw01_UtfTexts.j1 k l0 bt168.1 bt168.2 bt172.1 bt172.2 ((strOfNums l0).toList != (strOfNums l0).toList)))) else (scarflaw01_UtfTexts.j1 k l0 bt168.1 bt168.2 bt172.1 bt172.2 true))) else (scarflaw01_UtfTexts.j1 k l0 bt168.1 bt168.2 bt172.1 bt172.2 true)))))
theorem scarflaw01_UtfTexts.mono_l : ∀ k, (∀ y0 y1 y2 y3 y4 y5, LeO (scarflaw01_UtfTexts.j0 k y0 y1 y2 y3 y4 y5) (scarflaw01_UtfTexts.j0 (k + 1) y0 y1 y2 y3 y4 y5)) ∧ (∀ y0 y1 y2 y3 y4 y5, LeO (scarflaw01_UtfTexts.j1 k y0 y1 y2 y3 y4 y5) (scarflaw01_UtfTexts.j1 (k + 1) y0 y1 y2 y3 y4 y5))
  | 0 => ⟨fun _ _ _ _ _ _ r h => by simp [scarflaw01_UtfTexts.j0] at h, fun _ _ _ _ _ _ r h => by simp [scarflaw01_UtfTexts.j1] at h⟩
  | k + 1 => by
    obtain ⟨ih0, ih1⟩ := scarflaw01_UtfTexts.mono_l k
    refine ⟨?_, ?_⟩
    · intro y0 y1 y2 y3 y4 y5
      unfold scarflaw01_UtfTexts.j0
      repeat' first
      | (with_reducible exact ih0 _ _ _ _ _ _)
      | (with_reducible exact ih1 _ _ _ _ _ _)
      | (with_reducible exact scarflaw01_same.mono _ _ _)
      | (with_reducible exact scarfref01_Signs.mono _ _)
      | (with_reducible exact utf_Bad.mono _ _)
      | (with_reducible exact utf_Signs.mono _ _)
      | (with_reducible exact utf_Text.mono _ _)
      | (with_reducible exact LeO.refl _)
      | (with_reducible exact LeO.none _)
      | (with_reducible refine LeO.ite ?_ ?_)
      | (with_reducible refine LeO.bind ?_ (fun _ => ?_))
      | exact ih0 _ _ _ _ _ _
      | exact ih1 _ _ _ _ _ _
      | exact scarflaw01_same.mono _ _ _
      | exact scarfref01_Signs.mono _ _
      | exact utf_Bad.mono _ _
      | exact utf_Signs.mono _ _
      | exact utf_Text.mono _ _
      | exact LeO.none _
      | refine LeO.ite ?_ ?_
      | refine LeO.bind ?_ (fun _ => ?_)
    · intro y0 y1 y2 y3 y4 y5
      unfold scarflaw01_UtfTexts.j1
      repeat' first
      | (with_reducible exact ih0 _ _ _ _ _ _)
      | (with_reducible exact ih1 _ _ _ _ _ _)
      | (with_reducible exact scarflaw01_same.mono _ _ _)
      | (with_reducible exact scarfref01_Signs.mono _ _)
      | (with_reducible exact utf_Bad.mono _ _)
      | (with_reducible exact utf_Signs.mono _ _)
      | (with_reducible exact utf_Text.mono _ _)
      | (with_reducible exact LeO.refl _)
      | (with_reducible exact LeO.none _)
      | (with_reducible refine LeO.ite ?_ ?_)
      | (with_reducible refine LeO.bind ?_ (fun _ => ?_))
      | exact ih0 _ _ _ _ _ _
      | exact ih1 _ _ _ _ _ _
      | exact scarflaw01_same.mono _ _ _
      | exact scarfref01_Signs.mono _ _
      | exact utf_Bad.mono _ _
      | exact utf_Signs.mono _ _
      | exact utf_Text.mono _ _
      | exact LeO.none _
      | refine LeO.ite ?_ ?_
      | refine LeO.bind ?_ (fun _ => ?_)
theorem scarflaw01_UtfTexts.mono : ∀ a0 k, LeO (scarflaw01_UtfTexts.f k a0) (scarflaw01_UtfTexts.f (k + 1) a0) := by
  intro a0 k
  obtain ⟨ih0, ih1⟩ := scarflaw01_UtfTexts.mono_l k
  unfold scarflaw01_UtfTexts.f
  repeat' first
      | (with_reducible exact ih0 _ _ _ _ _ _)
      | (with_reducible exact ih1 _ _ _ _ _ _)
      | (with_reducible exact scarflaw01_same.mono _ _ _)
      | (with_reducible exact scarfref01_Signs.mono _ _)
      | (with_reducible exact utf_Bad.mono _ _)
      | (with_reducible exact utf_Signs.mono _ _)
      | (with_reducible exact utf_Text.mono _ _)
      | (with_reducible exact LeO.refl _)
      | (with_reducible exact LeO.none _)
      | (with_reducible refine LeO.ite ?_ ?_)
      | (with_reducible refine LeO.bind ?_ (fun _ => ?_))
      | exact ih0 _ _ _ _ _ _
      | exact ih1 _ _ _ _ _ _
      | exact scarflaw01_same.mono _ _ _
      | exact scarfref01_Signs.mono _ _
      | exact utf_Bad.mono _ _
      | exact utf_Signs.mono _ _
      | exact utf_Text.mono _ _
      | exact LeO.none _
      | refine LeO.ite ?_ ?_
      | refine LeO.bind ?_ (fun _ => ?_)
set_option maxHeartbeats 8000000 in
set_option maxRecDepth 100000 in
theorem scarflaw01_UtfTexts.calls (k : Nat) (A0 : Option Addr) (c0 : Nat) (l0 : List Int) (r : Bool) (w : World) (hr0 : Kd.C (Kd.int .u8) w A0 l0.length l0) (hc0 : l0.length ≤ c0) (hG : GLOB w) (h : scarflaw01_UtfTexts.f k l0 = some r) :
    Calls Tryd.prog 8 #[.slice A0 l0.length c0] w fun e w' => e = .returned (.bool r) ∧ Below w.heap.size w w' := by
  have HR0 := Aside0.mk hr0
  have HC0 := Aside0.mk hc0
  clear hr0 hc0
  have HG_ := Aside0.mk hG
  clear hG
  have HB := Aside0.mk (Below.refl w.heap.size w)
  have H : (if (l0.length : Int) > 100000 then (if 100000 ≤ (l0.length : Int) then ((utf_Signs.f k (l0.take 100000)).bind fun bt156 => ((scarfref01_Signs.f k (l0.take 100000)).bind fun bt160 => ((scarflaw01_known.f).bind fun t164 => (if t164 = true then ((utf_Bad.f k (l0.take 100000)).bind fun t165 => (if t165 = bt160.2 then ((utf_Text.f k (l0.take 100000)).bind fun t166 => (if (t166 != (bt160.2 == ((l0.take 100000).length : Int))) = true then (scarflaw01_UtfTexts.j0 k (l0.take 100000) bt156.1 bt156.2 bt160.1 bt160.2 true) else (scarflaw01_UtfTexts.j0 k (l0.take 100000) bt156.1 bt156.2 bt160.1 bt160.2 ((strOfNums (l0.take 100000)).toList != (strOfNums (l0.take 100000)).toList)))) else (scarflaw01_UtfTexts.j0 k (l0.take 100000) bt156.1 bt156.2 bt160.1 bt160.2 true))) else (scarflaw01_UtfTexts.j0 k (l0.take 100000) bt156.1 bt156.2 bt160.1 bt160.2 true))))) else (none)) else ((utf_Signs.f k l0).bind fun bt168 => ((scarfref01_Signs.f k l0).bind fun bt172 => ((scarflaw01_known.f).bind fun t176 => (if t176 = true then ((utf_Bad.f k l0).bind fun t177 => (if t177 = bt172.2 then ((utf_Text.f k l0).bind fun t178 => (if (t178 != (bt172.2 == (l0.length : Int))) = true then (scarflaw01_UtfTexts.j1 k l0 bt168.1 bt168.2 bt172.1 bt172.2 true) else (scarflaw01_UtfTexts.j1 k l0 bt168.1 bt168.2 bt172.1 bt172.2 ((strOfNums l0).toList != (strOfNums l0).toList)))) else (scarflaw01_UtfTexts.j1 k l0 bt168.1 bt168.2 bt172.1 bt172.2 true))) else (scarflaw01_UtfTexts.j1 k l0 bt168.1 bt168.2 bt172.1 bt172.2 true)))))) = some r := h
  clear h
  by_cases c2 : (l0.length : Int) > 100000
  · rw [if_pos c2] at H
    have c2b0 : decide (100000 < (l0.length : Int)) = true := decide_eq_true c2
    have c2b1 : decide (100000 < l0.length) = true := decide_eq_true (by omega)
    clear c2
    by_cases c3 : 100000 ≤ (l0.length : Int)
    · rw [if_pos c3] at H
      have c3b0 := eq_true c3
      have c3b1 : decide (100000 ≤ (l0.length : Int)) = true := decide_eq_true c3
      clear c3
      replace H := Option.bind_eq_some_iff.mp H
      obtain ⟨⟨t156, t157⟩, A40, H⟩ := H
      replace H : ((scarfref01_Signs.f k (l0.take 100000)).bind fun bt160 => ((scarflaw01_known.f).bind fun t164 => (if t164 = true then ((utf_Bad.f k (l0.take 100000)).bind fun t165 => (if t165 = bt160.2 then ((utf_Text.f k (l0.take 100000)).bind fun t166 => (if (t166 != (bt160.2 == ((l0.take 100000).length : Int))) = true then (scarflaw01_UtfTexts.j0 k (l0.take 100000) t156 t157 bt160.1 bt160.2 true) else (scarflaw01_UtfTexts.j0 k (l0.take 100000) t156 t157 bt160.1 bt160.2 ((strOfNums (l0.take 100000)).toList != (strOfNums (l0.take 100000)).toList)))) else (scarflaw01_UtfTexts.j0 k (l0.take 100000) t156 t157 bt160.1 bt160.2 true))) else (scarflaw01_UtfTexts.j0 k (l0.take 100000) t156 t157 bt160.1 bt160.2 true)))) = some r := H
      have A4 := Aside0.mk A40
      clear A40
      replace H := Option.bind_eq_some_iff.mp H
      obtain ⟨⟨t160, t161⟩, A50, H⟩ := H
      replace H : ((scarflaw01_known.f).bind fun t164 => (if t164 = true then ((utf_Bad.f k (l0.take 100000)).bind fun t165 => (if t165 = t161 then ((utf_Text.f k (l0.take 100000)).bind fun t166 => (if (t166 != (t161 == ((l0.take 100000).length : Int))) = true then (scarflaw01_UtfTexts.j0 k (l0.take 100000) t156 t157 t160 t161 true) else (scarflaw01_UtfTexts.j0 k (l0.take 100000) t156 t157 t160 t161 ((strOfNums (l0.take 100000)).toList != (strOfNums (l0.take 100000)).toList)))) else (scarflaw01_UtfTexts.j0 k (l0.take 100000) t156 t157 t160 t161 true))) else (scarflaw01_UtfTexts.j0 k (l0.take 100000) t156 t157 t160 t161 true))) = some r := H
      have A5 := Aside0.mk A50
      clear A50
      have HC6 := Aside0.mk H
      clear H
      obtain ⟨i07, hi07, _, hsz7, _⟩ := info_parts info5
      obtain ⟨hcut7, hA7, hC7⟩ := print_take_of (P := Tryd.prog) (Value.int .u8) 0 22 5 .i64 Tryd.underlying22 hi07 hsz7 A0 c0 l0 100000 (by omega) (of_decide_eq_true (by first | (with_reducible assumption) | assumption)) HC0.out
      have HR155 := Aside0.mk (Kd.C_of_reads (h1 := fun _ => rfl) (hA7 _ (Kd.reads_of_C HR0.out)))
      have HC155 := Aside0.mk hC7
      clear hA7 hC7 hi07 hsz7
      have hcv8 := Kd.C_string (P := Tryd.prog) (A := A0) (c := c0) Tryd.underlying22 Tryd.underlying5 Tryd.underlying9 HR155.out
      (try (have hcv8t := hcv8; simp only [Int.reduceToNat, show (l0.take 100000).length = 100000 from (by rw [List.length_take]; have h_ : (100000 : Int) ≤ (l0.length : Int) := of_decide_eq_true (by first | (with_reducible assumption) | assumption); omega)] at hcv8t))
      (try (have hcv8m := hcv8; simp only [List.length_take, List.length_drop, Int.reduceToNat] at hcv8m))
      have hcn8 := fun n_ : Nat => Kd.C_string (P := Tryd.prog) (A := A0) (c := c0) Tryd.underlying22 Tryd.underlying5 Tryd.underlying9 (Kd.C_drewN HR155.out n_)
      (try (have hcn8t := hcn8; simp only [Int.reduceToNat, show (l0.take 100000).length = 100000 from (by rw [List.length_take]; have h_ : (100000 : Int) ≤ (l0.length : Int) := of_decide_eq_true (by first | (with_reducible assumption) | assumption); omega)] at hcn8t))
      (try (have hcn8m := hcn8; simp only [List.length_take, List.length_drop, Int.reduceToNat] at hcn8m))
      go_enter Tryd.func8, Tryd.ntmps8
      go_upto_region 6 with (first | ((with_reducible refine gate_callee (f := 18) rfl ?_); refine goesL_ (some 17) rfl rfl Tryd.func18 (by kernel_rfl) rfl #[.slice A0 (l0.take 100000).length c0] rfl (by (try simp only [List.map_toArray, List.map_cons, List.map_nil]); first | done | (rw [show (l0.take 100000).length = 100000 from (by rw [List.length_take]; have h_ : (100000 : Int) ≤ (l0.length : Int) := of_decide_eq_true (by first | (with_reducible assumption) | assumption); omega)] <;> rfl) | rfl | (simp only [List.length_drop, List.length_take]; rfl)) ?_; (with_reducible refine (utf_Signs.calls k _ _ (l0.take 100000) t156 t157 _ ?side1 ?side2 ?side3 A4.out).mono ?_); (case side1 => repeat (first | exact HR155.out | (with_reducible refine Kd.C_alloc ?_ _) | (with_reducible refine Kd.C_drewN ?_ _) | (with_reducible refine Kd.C_drew ?_))); (case side2 => exact HC155.out); (case side3 => repeat (first | exact HG_.out | (with_reducible refine GLOB_alloc ?_ _) | (with_reducible refine GLOB_drewN ?_ _) | (with_reducible refine GLOB_drew ?_))); rintro e w9 ⟨v158, rfl, ho0, hb⟩; refine ⟨_, rfl, ?_⟩; have n0_ := Aside0.mk (Kd.R_lower ho0 (below_size (by repeat (first | (with_reducible first | exact HB.out | apply below_alloc | apply pw_below_drewN | apply below_drew1) | exact HB.out)))); have n1_ := Aside0.mk (below_step (by repeat (first | (with_reducible first | exact HB.out | apply below_alloc | apply pw_below_drewN | apply below_drew1) | exact HB.out)) hb); clear HB; have HO159 := n0_; have HB := n1_; clear n0_ n1_; (try clear hb); (try clear hb2); (try clear hk); (try clear hi); (try clear ho0)) | ((with_reducible refine gate_callee (f := 19) rfl ?_); refine goesL_ (some 22) rfl rfl Tryd.func19 (by kernel_rfl) rfl #[.slice A0 (l0.take 100000).length c0] rfl (by (try simp only [List.map_toArray, List.map_cons, List.map_nil]); first | done | (rw [show (l0.take 100000).length = 100000 from (by rw [List.length_take]; have h_ : (100000 : Int) ≤ (l0.length : Int) := of_decide_eq_true (by first | (with_reducible assumption) | assumption); omega)] <;> rfl) | rfl | (simp only [List.length_drop, List.length_take]; rfl)) ?_; (with_reducible refine (scarfref01_Signs.calls k _ _ (l0.take 100000) t160 t161 _ ?side1 ?side2 A5.out).mono ?_); (case side1 => repeat (first | exact (Kd.C_below HR155.out HB.out) | (with_reducible refine Kd.C_alloc ?_ _) | (with_reducible refine Kd.C_drewN ?_ _) | (with_reducible refine Kd.C_drew ?_))); (case side2 => exact HC155.out); rintro e w10 ⟨v162, rfl, ho0, hb⟩; refine ⟨_, rfl, ?_⟩; have n0_ := Aside0.mk (Kd.R_elder' (by (with_reducible repeat (first | apply Kd.R_alloc | apply Kd.R_drewN | apply Kd.R_drew)); exact HO159.out) (Kd.R_base ho0) hb); have n1_ := Aside0.mk (Kd.R_lower (Kd.R_new' ho0 (Kd.R_lt (by (with_reducible repeat (first | apply Kd.R_alloc | apply Kd.R_drewN | apply Kd.R_drew)); exact HO159.out))) (below_size (by repeat (first | (with_reducible first | exact HB.out | apply below_alloc | apply pw_below_drewN | apply below_drew1) | exact HB.out)))); have n2_ := Aside0.mk (below_step (by repeat (first | (with_reducible first | exact HB.out | apply below_alloc | apply pw_below_drewN | apply below_drew1) | exact HB.out)) hb); clear HO159; clear HB; have HO159 := n0_; have HO163 := n1_; have HB := n2_; clear n0_ n1_ n2_; (try clear hb); (try clear hb2); (try clear hk); (try clear hi); (try clear ho0)))
      (try simp only [Act.put, List.setIfInBounds_toArray, List.set_cons_zero, List.set_cons_succ])
      go_cut [47] (fun v47 wc => ∃ (kq : Nat) (x47_5 : Bool), v47 = .bool x47_5 ∧ Aside0 (scarflaw01_UtfTexts.j0 kq (l0.take 100000) t156 t157 t160 t161 x47_5 = some r) ∧ Aside0 (kq ≤ k) ∧ Aside0 (Kd.R (Kd.int .i64) 3 wc w.heap.size (fun k_ => some k_ ≠ (v162 : Value).ownBlock) v158 t156) ∧ Aside0 (Kd.R (Kd.int .i64) 3 wc w.heap.size (fun k_ => some k_ ≠ (v158 : Value).ownBlock) v162 t160) ∧ Aside0 (Below w.heap.size w wc))
      case first =>
        have H := HC6.out
        clear HC6
        replace H := Option.bind_eq_some_iff.mp H
        obtain ⟨t164, A110, H⟩ := H
        replace H : (if t164 = true then ((utf_Bad.f k (l0.take 100000)).bind fun t165 => (if t165 = t161 then ((utf_Text.f k (l0.take 100000)).bind fun t166 => (if (t166 != (t161 == ((l0.take 100000).length : Int))) = true then (scarflaw01_UtfTexts.j0 k (l0.take 100000) t156 t157 t160 t161 true) else (scarflaw01_UtfTexts.j0 k (l0.take 100000) t156 t157 t160 t161 ((strOfNums (l0.take 100000)).toList != (strOfNums (l0.take 100000)).toList)))) else (scarflaw01_UtfTexts.j0 k (l0.take 100000) t156 t157 t160 t161 true))) else (scarflaw01_UtfTexts.j0 k (l0.take 100000) t156 t157 t160 t161 true)) = some r := H
        have A11 := Aside0.mk A110
        clear A110
        by_cases c12 : t164 = true
        · subst c12
          have H1 : ((utf_Bad.f k (l0.take 100000)).bind fun t165 => (if t165 = t161 then ((utf_Text.f k (l0.take 100000)).bind fun t166 => (if (t166 != (t161 == ((l0.take 100000).length : Int))) = true then (scarflaw01_UtfTexts.j0 k (l0.take 100000) t156 t157 t160 t161 true) else (scarflaw01_UtfTexts.j0 k (l0.take 100000) t156 t157 t160 t161 ((strOfNums (l0.take 100000)).toList != (strOfNums (l0.take 100000)).toList)))) else (scarflaw01_UtfTexts.j0 k (l0.take 100000) t156 t157 t160 t161 true))) = some r := by rw [if_pos rfl] at H; exact H
          clear H
          have H := H1
          clear H1
          replace H := Option.bind_eq_some_iff.mp H
          obtain ⟨t165, A130, H⟩ := H
          replace H : (if t165 = t161 then ((utf_Text.f k (l0.take 100000)).bind fun t166 => (if (t166 != (t161 == ((l0.take 100000).length : Int))) = true then (scarflaw01_UtfTexts.j0 k (l0.take 100000) t156 t157 t160 t161 true) else (scarflaw01_UtfTexts.j0 k (l0.take 100000) t156 t157 t160 t161 ((strOfNums (l0.take 100000)).toList != (strOfNums (l0.take 100000)).toList)))) else (scarflaw01_UtfTexts.j0 k (l0.take 100000) t156 t157 t160 t161 true)) = some r := H
          have A13 := Aside0.mk A130
          clear A130
          by_cases c14 : t165 = t161
          · rw [if_pos c14] at H
            have c14b0 : (t165 == t161) = true := beq_iff_eq.mpr c14
            have c14b1 : (t165 != t161) = false := bne_eq_false_iff_eq.mpr c14
            clear c14
            (first | rw [c14b0] | (simp only [i64_w, i32_w]; rw [c14b0]) | skip)
            replace H := Option.bind_eq_some_iff.mp H
            obtain ⟨t166, A150, H⟩ := H
            replace H : (if (t166 != (t161 == ((l0.take 100000).length : Int))) = true then (scarflaw01_UtfTexts.j0 k (l0.take 100000) t156 t157 t160 t161 true) else (scarflaw01_UtfTexts.j0 k (l0.take 100000) t156 t157 t160 t161 ((strOfNums (l0.take 100000)).toList != (strOfNums (l0.take 100000)).toList))) = some r := H
            have A15 := Aside0.mk A150
            clear A150
            by_cases c16 : (t166 != (t161 == ((l0.take 100000).length : Int))) = true
            · rw [if_pos c16] at H
              have c16b0 : (t166 != (t161 == ((l0.take 100000).length : Int))) = true := c16
              (try (have c16b0t := c16b0; simp only [List.length_take, List.length_drop, Int.reduceToNat] at c16b0t))
              (try (have c16b1 : decide (t166 = (t161 == ((l0.take 100000).length : Int))) = false := by simpa using c16))
              (try (have c16b1t := c16b1; simp only [List.length_take, List.length_drop, Int.reduceToNat] at c16b1t))
              (try (have c16b2 : (t166 == (t161 == ((l0.take 100000).length : Int))) = false := by simpa using c16))
              (try (have c16b2t := c16b2; simp only [List.length_take, List.length_drop, Int.reduceToNat] at c16b2t))
              (try (have c16b3 : ¬ (t166 = (t161 == ((l0.take 100000).length : Int))) := by simpa using c16))
              (try (have c16b3t := c16b3; simp only [List.length_take, List.length_drop, Int.reduceToNat] at c16b3t))
              clear c16
              have H' := Aside0.mk H
              clear H
              go_wp2_with (first | ((with_reducible refine gate_callee (f := 12) rfl ?_); refine goesL_ (some 25) rfl rfl Tryd.func12 (by kernel_rfl) rfl #[] rfl (by (try simp only [List.map_toArray, List.map_cons, List.map_nil]); first | done | rfl | (simp only [List.length_drop, List.length_take]; rfl)) ?_; (with_reducible refine (scarflaw01_known.calls  true _ ?side1 A11.out).mono ?_); (case side1 => repeat (first | exact (GLOB_below HG_.out HB.out) | (with_reducible refine GLOB_alloc ?_ _) | (with_reducible refine GLOB_drewN ?_ _) | (with_reducible refine GLOB_drew ?_))); rintro e w17 ⟨rfl, hb⟩; refine ⟨_, rfl, ?_⟩; have n0_ := Aside0.mk (Kd.R_below (by (with_reducible repeat (first | apply Kd.R_alloc | apply Kd.R_drewN | apply Kd.R_drew)); exact HO159.out) hb); have n1_ := Aside0.mk (Kd.R_below (by (with_reducible repeat (first | apply Kd.R_alloc | apply Kd.R_drewN | apply Kd.R_drew)); exact HO163.out) hb); have n2_ := Aside0.mk (below_step (by repeat (first | (with_reducible first | exact HB.out | apply below_alloc | apply pw_below_drewN | apply below_drew1) | exact HB.out)) hb); clear HO159; clear HO163; clear HB; have HO159 := n0_; have HO163 := n1_; have HB := n2_; clear n0_ n1_ n2_; (try clear hb); (try clear hb2); (try clear hk); (try clear hi)) | (go_at_call 16; refine calls_of_args (args' := #[.slice A0 (l0.take 100000).length c0]) (by first | rfl | (simp; done) | (simp only [List.length_take, List.length_drop]; done) | rfl) ?_; (with_reducible refine (utf_Bad.calls k _ _ (l0.take 100000) t165 _ ?side1 ?side2 ?side3 A13.out).mono ?_); (case side1 => repeat (first | exact (Kd.C_below HR155.out HB.out) | (with_reducible refine Kd.C_alloc ?_ _) | (with_reducible refine Kd.C_drewN ?_ _) | (with_reducible refine Kd.C_drew ?_))); (case side2 => exact HC155.out); (case side3 => repeat (first | exact (GLOB_below HG_.out HB.out) | (with_reducible refine GLOB_alloc ?_ _) | (with_reducible refine GLOB_drewN ?_ _) | (with_reducible refine GLOB_drew ?_))); rintro e w18 ⟨rfl, hb⟩; have n0_ := Aside0.mk (Kd.R_below (by (with_reducible repeat (first | apply Kd.R_alloc | apply Kd.R_drewN | apply Kd.R_drew)); exact HO159.out) hb); have n1_ := Aside0.mk (Kd.R_below (by (with_reducible repeat (first | apply Kd.R_alloc | apply Kd.R_drewN | apply Kd.R_drew)); exact HO163.out) hb); have n2_ := Aside0.mk (below_step (by repeat (first | (with_reducible first | exact HB.out | apply below_alloc | apply pw_below_drewN | apply below_drew1) | exact HB.out)) hb); clear HO159; clear HO163; clear HB; have HO159 := n0_; have HO163 := n1_; have HB := n2_; clear n0_ n1_ n2_; (try clear hb); (try clear hb2); (try clear hk); (try clear hi)) | (go_at_call 17; refine calls_of_args (args' := #[.slice A0 (l0.take 100000).length c0]) (by first | rfl | (simp; done) | (simp only [List.length_take, List.length_drop]; done) | rfl) ?_; (with_reducible refine (utf_Text.calls k _ _ (l0.take 100000) t166 _ ?side1 ?side2 ?side3 A15.out).mono ?_); (case side1 => repeat (first | exact (Kd.C_below HR155.out HB.out) | (with_reducible refine Kd.C_alloc ?_ _) | (with_reducible refine Kd.C_drewN ?_ _) | (with_reducible refine Kd.C_drew ?_))); (case side2 => exact HC155.out); (case side3 => repeat (first | exact (GLOB_below HG_.out HB.out) | (with_reducible refine GLOB_alloc ?_ _) | (with_reducible refine GLOB_drewN ?_ _) | (with_reducible refine GLOB_drew ?_))); rintro e w19 ⟨rfl, hb⟩; have n0_ := Aside0.mk (Kd.R_below (by (with_reducible repeat (first | apply Kd.R_alloc | apply Kd.R_drewN | apply Kd.R_drew)); exact HO159.out) hb); have n1_ := Aside0.mk (Kd.R_below (by (with_reducible repeat (first | apply Kd.R_alloc | apply Kd.R_drewN | apply Kd.R_drew)); exact HO163.out) hb); have n2_ := Aside0.mk (below_step (by repeat (first | (with_reducible first | exact HB.out | apply below_alloc | apply pw_below_drewN | apply below_drew1) | exact HB.out)) hb); clear HO159; clear HO163; clear HB; have HO159 := n0_; have HO163 := n1_; have HB := n2_; clear n0_ n1_ n2_; (try clear hb); (try clear hb2); (try clear hk); (try clear hi)))
              go_meet
              case rel => exact ⟨_, (true), (by first | rfl | (simp; done) | (simp [*]; done)), H', ⟨by first | omega | exact Nat.le_refl _⟩, ⟨by (with_reducible repeat (first | apply Kd.R_alloc | apply Kd.R_drewN | apply Kd.R_drew)); exact Kd.R_mono HO159.out (fun _ hk => hk.2)⟩, ⟨by (with_reducible repeat (first | apply Kd.R_alloc | apply Kd.R_drewN | apply Kd.R_drew)); exact Kd.R_mono HO163.out (fun _ hk => hk.2)⟩, ⟨by repeat (first | (with_reducible first | exact HB.out | apply below_alloc | apply pw_below_drewN | apply below_drew1) | exact HB.out)⟩⟩
            · rw [if_neg c16] at H
              have c16b0 : (t166 != (t161 == ((l0.take 100000).length : Int))) = false := by simpa using c16
              (try (have c16b0t := c16b0; simp only [List.length_take, List.length_drop, Int.reduceToNat] at c16b0t))
              (try (have c16b1 : decide (t166 = (t161 == ((l0.take 100000).length : Int))) = true := by simpa using c16))
              (try (have c16b1t := c16b1; simp only [List.length_take, List.length_drop, Int.reduceToNat] at c16b1t))
              (try (have c16b2 : (t166 == (t161 == ((l0.take 100000).length : Int))) = true := by simpa using c16))
              (try (have c16b2t := c16b2; simp only [List.length_take, List.length_drop, Int.reduceToNat] at c16b2t))
              clear c16
              have H' := Aside0.mk H
              clear H
              go_wp2_with (first | ((with_reducible refine gate_callee (f := 12) rfl ?_); refine goesL_ (some 25) rfl rfl Tryd.func12 (by kernel_rfl) rfl #[] rfl (by (try simp only [List.map_toArray, List.map_cons, List.map_nil]); first | done | rfl | (simp only [List.length_drop, List.length_take]; rfl)) ?_; (with_reducible refine (scarflaw01_known.calls  true _ ?side1 A11.out).mono ?_); (case side1 => repeat (first | exact (GLOB_below HG_.out HB.out) | (with_reducible refine GLOB_alloc ?_ _) | (with_reducible refine GLOB_drewN ?_ _) | (with_reducible refine GLOB_drew ?_))); rintro e w20 ⟨rfl, hb⟩; refine ⟨_, rfl, ?_⟩; have n0_ := Aside0.mk (Kd.R_below (by (with_reducible repeat (first | apply Kd.R_alloc | apply Kd.R_drewN | apply Kd.R_drew)); exact HO159.out) hb); have n1_ := Aside0.mk (Kd.R_below (by (with_reducible repeat (first | apply Kd.R_alloc | apply Kd.R_drewN | apply Kd.R_drew)); exact HO163.out) hb); have n2_ := Aside0.mk (below_step (by repeat (first | (with_reducible first | exact HB.out | apply below_alloc | apply pw_below_drewN | apply below_drew1) | exact HB.out)) hb); clear HO159; clear HO163; clear HB; have HO159 := n0_; have HO163 := n1_; have HB := n2_; clear n0_ n1_ n2_; (try clear hb); (try clear hb2); (try clear hk); (try clear hi)) | (go_at_call 16; refine calls_of_args (args' := #[.slice A0 (l0.take 100000).length c0]) (by first | rfl | (simp; done) | (simp only [List.length_take, List.length_drop]; done) | rfl) ?_; (with_reducible refine (utf_Bad.calls k _ _ (l0.take 100000) t165 _ ?side1 ?side2 ?side3 A13.out).mono ?_); (case side1 => repeat (first | exact (Kd.C_below HR155.out HB.out) | (with_reducible refine Kd.C_alloc ?_ _) | (with_reducible refine Kd.C_drewN ?_ _) | (with_reducible refine Kd.C_drew ?_))); (case side2 => exact HC155.out); (case side3 => repeat (first | exact (GLOB_below HG_.out HB.out) | (with_reducible refine GLOB_alloc ?_ _) | (with_reducible refine GLOB_drewN ?_ _) | (with_reducible refine GLOB_drew ?_))); rintro e w21 ⟨rfl, hb⟩; have n0_ := Aside0.mk (Kd.R_below (by (with_reducible repeat (first | apply Kd.R_alloc | apply Kd.R_drewN | apply Kd.R_drew)); exact HO159.out) hb); have n1_ := Aside0.mk (Kd.R_below (by (with_reducible repeat (first | apply Kd.R_alloc | apply Kd.R_drewN | apply Kd.R_drew)); exact HO163.out) hb); have n2_ := Aside0.mk (below_step (by repeat (first | (with_reducible first | exact HB.out | apply below_alloc | apply pw_below_drewN | apply below_drew1) | exact HB.out)) hb); clear HO159; clear HO163; clear HB; have HO159 := n0_; have HO163 := n1_; have HB := n2_; clear n0_ n1_ n2_; (try clear hb); (try clear hb2); (try clear hk); (try clear hi)) | (go_at_call 17; refine calls_of_args (args' := #[.slice A0 (l0.take 100000).length c0]) (by first | rfl | (simp; done) | (simp only [List.length_take, List.length_drop]; done) | rfl) ?_; (with_reducible refine (utf_Text.calls k _ _ (l0.take 100000) t166 _ ?side1 ?side2 ?side3 A15.out).mono ?_); (case side1 => repeat (first | exact (Kd.C_below HR155.out HB.out) | (with_reducible refine Kd.C_alloc ?_ _) | (with_reducible refine Kd.C_drewN ?_ _) | (with_reducible refine Kd.C_drew ?_))); (case side2 => exact HC155.out); (case side3 => repeat (first | exact (GLOB_below HG_.out HB.out) | (with_reducible refine GLOB_alloc ?_ _) | (with_reducible refine GLOB_drewN ?_ _) | (with_reducible refine GLOB_drew ?_))); rintro e w22 ⟨rfl, hb⟩; have n0_ := Aside0.mk (Kd.R_below (by (with_reducible repeat (first | apply Kd.R_alloc | apply Kd.R_drewN | apply Kd.R_drew)); exact HO159.out) hb); have n1_ := Aside0.mk (Kd.R_below (by (with_reducible repeat (first | apply Kd.R_alloc | apply Kd.R_drewN | apply Kd.R_drew)); exact HO163.out) hb); have n2_ := Aside0.mk (below_step (by repeat (first | (with_reducible first | exact HB.out | apply below_alloc | apply pw_below_drewN | apply below_drew1) | exact HB.out)) hb); clear HO159; clear HO163; clear HB; have HO159 := n0_; have HO163 := n1_; have HB := n2_; clear n0_ n1_ n2_; (try clear hb); (try clear hb2); (try clear hk); (try clear hi); have hcv23 := Kd.C_string (P := Tryd.prog) (A := A0) (c := c0) Tryd.underlying22 Tryd.underlying5 Tryd.underlying9 (Kd.C_below HR155.out HB.out); (try (have hcv23t := hcv23; simp only [Int.reduceToNat, show (l0.take 100000).length = 100000 from (by rw [List.length_take]; have h_ : (100000 : Int) ≤ (l0.length : Int) := of_decide_eq_true (by first | (with_reducible assumption) | assumption); omega)] at hcv23t)); (try (have hcv23m := hcv23; simp only [List.length_take, List.length_drop, Int.reduceToNat] at hcv23m)); have hcn23 := fun n_ : Nat => Kd.C_string (P := Tryd.prog) (A := A0) (c := c0) Tryd.underlying22 Tryd.underlying5 Tryd.underlying9 (Kd.C_drewN (Kd.C_below HR155.out HB.out) n_); (try (have hcn23t := hcn23; simp only [Int.reduceToNat, show (l0.take 100000).length = 100000 from (by rw [List.length_take]; have h_ : (100000 : Int) ≤ (l0.length : Int) := of_decide_eq_true (by first | (with_reducible assumption) | assumption); omega)] at hcn23t)); (try (have hcn23m := hcn23; simp only [List.length_take, List.length_drop, Int.reduceToNat] at hcn23m))))
              go_meet
              case rel => exact ⟨_, (((strOfNums (l0.take 100000)).toList != (strOfNums (l0.take 100000)).toList)), (by first | rfl | (simp; done) | (simp [*]; done)), H', ⟨by first | omega | exact Nat.le_refl _⟩, ⟨by (with_reducible repeat (first | apply Kd.R_alloc | apply Kd.R_drewN | apply Kd.R_drew)); exact Kd.R_mono HO159.out (fun _ hk => hk.2)⟩, ⟨by (with_reducible repeat (first | apply Kd.R_alloc | apply Kd.R_drewN | apply Kd.R_drew)); exact Kd.R_mono HO163.out (fun _ hk => hk.2)⟩, ⟨by repeat (first | (with_reducible first | exact HB.out | apply below_alloc | apply pw_below_drewN | apply below_drew1) | exact HB.out)⟩⟩
          · rw [if_neg c14] at H
            have c14b0 : (t165 == t161) = false := beq_eq_false_iff_ne.mpr c14
            have c14b1 : (t165 != t161) = true := bne_iff_ne.mpr c14
            (first | rw [c14b0] | (simp only [i64_w, i32_w]; rw [c14b0]) | skip)
            have H' := Aside0.mk H
            clear H
            go_wp2_with (first | ((with_reducible refine gate_callee (f := 12) rfl ?_); refine goesL_ (some 25) rfl rfl Tryd.func12 (by kernel_rfl) rfl #[] rfl (by (try simp only [List.map_toArray, List.map_cons, List.map_nil]); first | done | rfl | (simp only [List.length_drop, List.length_take]; rfl)) ?_; (with_reducible refine (scarflaw01_known.calls  true _ ?side1 A11.out).mono ?_); (case side1 => repeat (first | exact (GLOB_below HG_.out HB.out) | (with_reducible refine GLOB_alloc ?_ _) | (with_reducible refine GLOB_drewN ?_ _) | (with_reducible refine GLOB_drew ?_))); rintro e w24 ⟨rfl, hb⟩; refine ⟨_, rfl, ?_⟩; have n0_ := Aside0.mk (Kd.R_below (by (with_reducible repeat (first | apply Kd.R_alloc | apply Kd.R_drewN | apply Kd.R_drew)); exact HO159.out) hb); have n1_ := Aside0.mk (Kd.R_below (by (with_reducible repeat (first | apply Kd.R_alloc | apply Kd.R_drewN | apply Kd.R_drew)); exact HO163.out) hb); have n2_ := Aside0.mk (below_step (by repeat (first | (with_reducible first | exact HB.out | apply below_alloc | apply pw_below_drewN | apply below_drew1) | exact HB.out)) hb); clear HO159; clear HO163; clear HB; have HO159 := n0_; have HO163 := n1_; have HB := n2_; clear n0_ n1_ n2_; (try clear hb); (try clear hb2); (try clear hk); (try clear hi)) | (go_at_call 16; refine calls_of_args (args' := #[.slice A0 (l0.take 100000).length c0]) (by first | rfl | (simp; done) | (simp only [List.length_take, List.length_drop]; done) | rfl) ?_; (with_reducible refine (utf_Bad.calls k _ _ (l0.take 100000) t165 _ ?side1 ?side2 ?side3 A13.out).mono ?_); (case side1 => repeat (first | exact (Kd.C_below HR155.out HB.out) | (with_reducible refine Kd.C_alloc ?_ _) | (with_reducible refine Kd.C_drewN ?_ _) | (with_reducible refine Kd.C_drew ?_))); (case side2 => exact HC155.out); (case side3 => repeat (first | exact (GLOB_below HG_.out HB.out) | (with_reducible refine GLOB_alloc ?_ _) | (with_reducible refine GLOB_drewN ?_ _) | (with_reducible refine GLOB_drew ?_))); rintro e w25 ⟨rfl, hb⟩; have n0_ := Aside0.mk (Kd.R_below (by (with_reducible repeat (first | apply Kd.R_alloc | apply Kd.R_drewN | apply Kd.R_drew)); exact HO159.out) hb); have n1_ := Aside0.mk (Kd.R_below (by (with_reducible repeat (first | apply Kd.R_alloc | apply Kd.R_drewN | apply Kd.R_drew)); exact HO163.out) hb); have n2_ := Aside0.mk (below_step (by repeat (first | (with_reducible first | exact HB.out | apply below_alloc | apply pw_below_drewN | apply below_drew1) | exact HB.out)) hb); clear HO159; clear HO163; clear HB; have HO159 := n0_; have HO163 := n1_; have HB := n2_; clear n0_ n1_ n2_; (try clear hb); (try clear hb2); (try clear hk); (try clear hi)))
            go_meet
            case rel => exact ⟨_, (true), (by first | rfl | (simp; done) | (simp [*]; done)), H', ⟨by first | omega | exact Nat.le_refl _⟩, ⟨by (with_reducible repeat (first | apply Kd.R_alloc | apply Kd.R_drewN | apply Kd.R_drew)); exact Kd.R_mono HO159.out (fun _ hk => hk.2)⟩, ⟨by (with_reducible repeat (first | apply Kd.R_alloc | apply Kd.R_drewN | apply Kd.R_drew)); exact Kd.R_mono HO163.out (fun _ hk => hk.2)⟩, ⟨by repeat (first | (with_reducible first | exact HB.out | apply below_alloc | apply pw_below_drewN | apply below_drew1) | exact HB.out)⟩⟩
        · replace c12 := Bool.eq_false_iff.mpr c12
          subst c12
          have H1 : (scarflaw01_UtfTexts.j0 k (l0.take 100000) t156 t157 t160 t161 true) = some r := by rw [if_neg (show ¬ (false = true) by decide)] at H; exact H
          clear H
          have H := H1
          clear H1
          have H' := Aside0.mk H
          clear H
          go_wp2_with (first | ((with_reducible refine gate_callee (f := 12) rfl ?_); refine goesL_ (some 25) rfl rfl Tryd.func12 (by kernel_rfl) rfl #[] rfl (by (try simp only [List.map_toArray, List.map_cons, List.map_nil]); first | done | rfl | (simp only [List.length_drop, List.length_take]; rfl)) ?_; (with_reducible refine (scarflaw01_known.calls  false _ ?side1 A11.out).mono ?_); (case side1 => repeat (first | exact (GLOB_below HG_.out HB.out) | (with_reducible refine GLOB_alloc ?_ _) | (with_reducible refine GLOB_drewN ?_ _) | (with_reducible refine GLOB_drew ?_))); rintro e w26 ⟨rfl, hb⟩; refine ⟨_, rfl, ?_⟩; have n0_ := Aside0.mk (Kd.R_below (by (with_reducible repeat (first | apply Kd.R_alloc | apply Kd.R_drewN | apply Kd.R_drew)); exact HO159.out) hb); have n1_ := Aside0.mk (Kd.R_below (by (with_reducible repeat (first | apply Kd.R_alloc | apply Kd.R_drewN | apply Kd.R_drew)); exact HO163.out) hb); have n2_ := Aside0.mk (below_step (by repeat (first | (with_reducible first | exact HB.out | apply below_alloc | apply pw_below_drewN | apply below_drew1) | exact HB.out)) hb); clear HO159; clear HO163; clear HB; have HO159 := n0_; have HO163 := n1_; have HB := n2_; clear n0_ n1_ n2_; (try clear hb); (try clear hb2); (try clear hk); (try clear hi)))
          go_meet
          case rel => exact ⟨_, (true), (by first | rfl | (simp; done) | (simp [*]; done)), H', ⟨by first | omega | exact Nat.le_refl _⟩, ⟨by (with_reducible repeat (first | apply Kd.R_alloc | apply Kd.R_drewN | apply Kd.R_drew)); exact Kd.R_mono HO159.out (fun _ hk => hk.2)⟩, ⟨by (with_reducible repeat (first | apply Kd.R_alloc | apply Kd.R_drewN | apply Kd.R_drew)); exact Kd.R_mono HO163.out (fun _ hk => hk.2)⟩, ⟨by repeat (first | (with_reducible first | exact HB.out | apply below_alloc | apply pw_below_drewN | apply below_drew1) | exact HB.out)⟩⟩
      case rest =>
        clear HC6
        try clear c1
        try clear c2
        try clear c2b0
        try clear c2b1
        try clear p2
        try clear hcv2
        try clear c3
        try clear c3b0
        try clear c3b1
        try clear c8
        try clear hcv8
        try clear c12
        try clear c14
        try clear c14b0
        try clear c14b1
        try clear c16
        try clear c16b0
        try clear c16b1
        try clear c16b2
        try clear c18
        try clear c19
        try clear hcv23
        obtain ⟨kq, x47_5, rfl, HA, HJ5, HO_4, HO_6, HB⟩ := hcut
        cases kq with
        | zero => exact absurd HA.out (by simp [scarflaw01_UtfTexts.j0])
        | succ kj5 =>
          have H := HA.out
          clear HA
          simp only [scarflaw01_UtfTexts.j0] at H
          by_cases c27 : x47_5 = true
          · subst c27
            have H1 : (some false) = some r := by rw [if_pos rfl] at H; exact H
            clear H
            have H := H1
            clear H1
            obtain rfl := Option.some.inj H
            go_wp2
            go_ret
            exact ⟨by first | rfl | (simp [errW_none, errW_some] <;> rfl) | (simp [*, errW_none, errW_some] <;> rfl), by repeat (first | (with_reducible first | exact HB.out | apply below_alloc | apply pw_below_drewN | apply below_drew1) | exact HB.out)⟩
          · replace c27 := Bool.eq_false_iff.mpr c27
            subst c27
            have H1 : (if t161 < ((l0.take 100000).length : Int) then (if t157 = 3 then (some ((t156.length : Int) == 0)) else (some false)) else (if t157 = 0 then ((scarflaw01_same.f kj5 t156 t160).bind fun t167 => (some t167)) else (some false))) = some r := by rw [if_neg (show ¬ (false = true) by decide)] at H; exact H
            clear H
            have H := H1
            clear H1
            by_cases c28 : t161 < ((l0.take 100000).length : Int)
            · rw [if_pos c28] at H
              have c28b0 : decide (t161 < ((l0.take 100000).length : Int)) = true := decide_eq_true c28
              (try (have c28b0t := c28b0; simp only [List.length_take, List.length_drop, Int.reduceToNat] at c28b0t))
              clear c28
              by_cases c29 : t157 = 3
              · rw [if_pos c29] at H
                have c29b0 : (t157 == 3) = true := beq_iff_eq.mpr c29
                have c29b1 : (t157 != 3) = false := bne_eq_false_iff_eq.mpr c29
                clear c29
                obtain rfl := Option.some.inj H
                obtain ⟨Ao30, co30, eo30⟩ := Kd.R_slice HO_4.out
                subst eo30
                go_wp2
                go_ret
                exact ⟨by first | rfl | (simp [errW_none, errW_some] <;> rfl) | (simp [*, errW_none, errW_some] <;> rfl), by repeat (first | (with_reducible first | exact HB.out | apply below_alloc | apply pw_below_drewN | apply below_drew1) | exact HB.out)⟩
              · rw [if_neg c29] at H
                have c29b0 : (t157 == 3) = false := beq_eq_false_iff_ne.mpr c29
                have c29b1 : (t157 != 3) = true := bne_iff_ne.mpr c29
                obtain rfl := Option.some.inj H
                go_wp2
                go_ret
                exact ⟨by first | rfl | (simp [errW_none, errW_some] <;> rfl) | (simp [*, errW_none, errW_some] <;> rfl), by repeat (first | (with_reducible first | exact HB.out | apply below_alloc | apply pw_below_drewN | apply below_drew1) | exact HB.out)⟩
            · rw [if_neg c28] at H
              have c28b0 : decide (t161 < ((l0.take 100000).length : Int)) = false := decide_eq_false c28
              (try (have c28b0t := c28b0; simp only [List.length_take, List.length_drop, Int.reduceToNat] at c28b0t))
              clear c28
              by_cases c31 : t157 = 0
              · rw [if_pos c31] at H
                have c31b0 : (t157 == 0) = true := beq_iff_eq.mpr c31
                have c31b1 : (t157 != 0) = false := bne_eq_false_iff_eq.mpr c31
                clear c31
                replace H := Option.bind_eq_some_iff.mp H
                obtain ⟨t167, A320, H⟩ := H
                replace H : (some t167) = some r := H
                have A32 := Aside0.mk A320
                clear A320
                obtain rfl := Option.some.inj H
                obtain ⟨Ao33, co33, eo33⟩ := Kd.R_slice HO_4.out
                subst eo33
                obtain ⟨Ao34, co34, eo34⟩ := Kd.R_slice HO_6.out
                subst eo34
                go_wp2_with (first | (go_at_call 20; (with_reducible refine (scarflaw01_same.calls kj5 _ _ t156 _ _ t160 t167 _ ?side1 ?side2 ?side3 ?side4 A32.out).mono ?_); (case side1 => repeat (first | exact (Kd.R_reads' HO_4.out).2.2 | (with_reducible refine Kd.C_alloc ?_ _) | (with_reducible refine Kd.C_drewN ?_ _) | (with_reducible refine Kd.C_drew ?_))); (case side2 => exact (Kd.R_reads' HO_4.out).2.1); (case side3 => repeat (first | exact (Kd.R_reads' HO_6.out).2.2 | (with_reducible refine Kd.C_alloc ?_ _) | (with_reducible refine Kd.C_drewN ?_ _) | (with_reducible refine Kd.C_drew ?_))); (case side4 => exact (Kd.R_reads' HO_6.out).2.1); rintro e w' ⟨rfl, ⟨nd, rfl⟩⟩))
                go_ret
                exact ⟨by first | rfl | (simp [errW_none, errW_some] <;> rfl) | (simp [*, errW_none, errW_some] <;> rfl), by repeat (first | (with_reducible first | exact HB.out | apply below_alloc | apply pw_below_drewN | apply below_drew1) | exact HB.out)⟩
              · rw [if_neg c31] at H
                have c31b0 : (t157 == 0) = false := beq_eq_false_iff_ne.mpr c31
                have c31b1 : (t157 != 0) = true := bne_iff_ne.mpr c31
                obtain rfl := Option.some.inj H
                go_wp2
                go_ret
                exact ⟨by first | rfl | (simp [errW_none, errW_some] <;> rfl) | (simp [*, errW_none, errW_some] <;> rfl), by repeat (first | (with_reducible first | exact HB.out | apply below_alloc | apply pw_below_drewN | apply below_drew1) | exact HB.out)⟩
    · rw [if_neg c3] at H
      exact absurd H (by simp)
  · rw [if_neg c2] at H
    have c2b0 : decide (100000 < (l0.length : Int)) = false := decide_eq_false c2
    have c2b1 : decide (100000 < l0.length) = false := decide_eq_false (by omega)
    clear c2
    replace H := Option.bind_eq_some_iff.mp H
    obtain ⟨⟨t168, t169⟩, A350, H⟩ := H
    replace H : ((scarfref01_Signs.f k l0).bind fun bt172 => ((scarflaw01_known.f).bind fun t176 => (if t176 = true then ((utf_Bad.f k l0).bind fun t177 => (if t177 = bt172.2 then ((utf_Text.f k l0).bind fun t178 => (if (t178 != (bt172.2 == (l0.length : Int))) = true then (scarflaw01_UtfTexts.j1 k l0 t168 t169 bt172.1 bt172.2 true) else (scarflaw01_UtfTexts.j1 k l0 t168 t169 bt172.1 bt172.2 ((strOfNums l0).toList != (strOfNums l0).toList)))) else (scarflaw01_UtfTexts.j1 k l0 t168 t169 bt172.1 bt172.2 true))) else (scarflaw01_UtfTexts.j1 k l0 t168 t169 bt172.1 bt172.2 true)))) = some r := H
    have A35 := Aside0.mk A350
    clear A350
    replace H := Option.bind_eq_some_iff.mp H
    obtain ⟨⟨t172, t173⟩, A360, H⟩ := H
    replace H : ((scarflaw01_known.f).bind fun t176 => (if t176 = true then ((utf_Bad.f k l0).bind fun t177 => (if t177 = t173 then ((utf_Text.f k l0).bind fun t178 => (if (t178 != (t173 == (l0.length : Int))) = true then (scarflaw01_UtfTexts.j1 k l0 t168 t169 t172 t173 true) else (scarflaw01_UtfTexts.j1 k l0 t168 t169 t172 t173 ((strOfNums l0).toList != (strOfNums l0).toList)))) else (scarflaw01_UtfTexts.j1 k l0 t168 t169 t172 t173 true))) else (scarflaw01_UtfTexts.j1 k l0 t168 t169 t172 t173 true))) = some r := H
    have A36 := Aside0.mk A360
    clear A360
    have HC37 := Aside0.mk H
    clear H
    have hcv38 := Kd.C_string (P := Tryd.prog) (A := A0) (c := c0) Tryd.underlying22 Tryd.underlying5 Tryd.underlying9 HR0.out
    have hcn38 := fun n_ : Nat => Kd.C_string (P := Tryd.prog) (A := A0) (c := c0) Tryd.underlying22 Tryd.underlying5 Tryd.underlying9 (Kd.C_drewN HR0.out n_)
    go_enter Tryd.func8, Tryd.ntmps8
    go_upto_region 6 with (first | ((with_reducible refine gate_callee (f := 18) rfl ?_); refine goesL_ (some 17) rfl rfl Tryd.func18 (by kernel_rfl) rfl #[.slice A0 l0.length c0] rfl (by (try simp only [List.map_toArray, List.map_cons, List.map_nil]); first | done | rfl | (simp only [List.length_drop, List.length_take]; rfl)) ?_; (with_reducible refine (utf_Signs.calls k _ _ l0 t168 t169 _ ?side1 ?side2 ?side3 A35.out).mono ?_); (case side1 => repeat (first | exact HR0.out | (with_reducible refine Kd.C_alloc ?_ _) | (with_reducible refine Kd.C_drewN ?_ _) | (with_reducible refine Kd.C_drew ?_))); (case side2 => exact HC0.out); (case side3 => repeat (first | exact HG_.out | (with_reducible refine GLOB_alloc ?_ _) | (with_reducible refine GLOB_drewN ?_ _) | (with_reducible refine GLOB_drew ?_))); rintro e w39 ⟨v170, rfl, ho0, hb⟩; refine ⟨_, rfl, ?_⟩; have n0_ := Aside0.mk (Kd.R_lower ho0 (below_size (by repeat (first | (with_reducible first | exact HB.out | apply below_alloc | apply pw_below_drewN | apply below_drew1) | exact HB.out)))); have n1_ := Aside0.mk (below_step (by repeat (first | (with_reducible first | exact HB.out | apply below_alloc | apply pw_below_drewN | apply below_drew1) | exact HB.out)) hb); clear HB; have HO171 := n0_; have HB := n1_; clear n0_ n1_; (try clear hb); (try clear hb2); (try clear hk); (try clear hi); (try clear ho0)) | ((with_reducible refine gate_callee (f := 19) rfl ?_); refine goesL_ (some 22) rfl rfl Tryd.func19 (by kernel_rfl) rfl #[.slice A0 l0.length c0] rfl (by (try simp only [List.map_toArray, List.map_cons, List.map_nil]); first | done | rfl | (simp only [List.length_drop, List.length_take]; rfl)) ?_; (with_reducible refine (scarfref01_Signs.calls k _ _ l0 t172 t173 _ ?side1 ?side2 A36.out).mono ?_); (case side1 => repeat (first | exact (Kd.C_below HR0.out HB.out) | (with_reducible refine Kd.C_alloc ?_ _) | (with_reducible refine Kd.C_drewN ?_ _) | (with_reducible refine Kd.C_drew ?_))); (case side2 => exact HC0.out); rintro e w40 ⟨v174, rfl, ho0, hb⟩; refine ⟨_, rfl, ?_⟩; have n0_ := Aside0.mk (Kd.R_elder' (by (with_reducible repeat (first | apply Kd.R_alloc | apply Kd.R_drewN | apply Kd.R_drew)); exact HO171.out) (Kd.R_base ho0) hb); have n1_ := Aside0.mk (Kd.R_lower (Kd.R_new' ho0 (Kd.R_lt (by (with_reducible repeat (first | apply Kd.R_alloc | apply Kd.R_drewN | apply Kd.R_drew)); exact HO171.out))) (below_size (by repeat (first | (with_reducible first | exact HB.out | apply below_alloc | apply pw_below_drewN | apply below_drew1) | exact HB.out)))); have n2_ := Aside0.mk (below_step (by repeat (first | (with_reducible first | exact HB.out | apply below_alloc | apply pw_below_drewN | apply below_drew1) | exact HB.out)) hb); clear HO171; clear HB; have HO171 := n0_; have HO175 := n1_; have HB := n2_; clear n0_ n1_ n2_; (try clear hb); (try clear hb2); (try clear hk); (try clear hi); (try clear ho0)))
    (try simp only [Act.put, List.setIfInBounds_toArray, List.set_cons_zero, List.set_cons_succ])
    go_cut [47] (fun v47 wc => ∃ (kq : Nat) (x47_36 : Bool), v47 = .bool x47_36 ∧ Aside0 (scarflaw01_UtfTexts.j1 kq l0 t168 t169 t172 t173 x47_36 = some r) ∧ Aside0 (kq ≤ k) ∧ Aside0 (Kd.R (Kd.int .i64) 3 wc w.heap.size (fun k_ => some k_ ≠ (v174 : Value).ownBlock) v170 t168) ∧ Aside0 (Kd.R (Kd.int .i64) 3 wc w.heap.size (fun k_ => some k_ ≠ (v170 : Value).ownBlock) v174 t172) ∧ Aside0 (Below w.heap.size w wc))
    case first =>
      have H := HC37.out
      clear HC37
      replace H := Option.bind_eq_some_iff.mp H
      obtain ⟨t176, A410, H⟩ := H
      replace H : (if t176 = true then ((utf_Bad.f k l0).bind fun t177 => (if t177 = t173 then ((utf_Text.f k l0).bind fun t178 => (if (t178 != (t173 == (l0.length : Int))) = true then (scarflaw01_UtfTexts.j1 k l0 t168 t169 t172 t173 true) else (scarflaw01_UtfTexts.j1 k l0 t168 t169 t172 t173 ((strOfNums l0).toList != (strOfNums l0).toList)))) else (scarflaw01_UtfTexts.j1 k l0 t168 t169 t172 t173 true))) else (scarflaw01_UtfTexts.j1 k l0 t168 t169 t172 t173 true)) = some r := H
      have A41 := Aside0.mk A410
      clear A410
      by_cases c42 : t176 = true
      · subst c42
        have H1 : ((utf_Bad.f k l0).bind fun t177 => (if t177 = t173 then ((utf_Text.f k l0).bind fun t178 => (if (t178 != (t173 == (l0.length : Int))) = true then (scarflaw01_UtfTexts.j1 k l0 t168 t169 t172 t173 true) else (scarflaw01_UtfTexts.j1 k l0 t168 t169 t172 t173 ((strOfNums l0).toList != (strOfNums l0).toList)))) else (scarflaw01_UtfTexts.j1 k l0 t168 t169 t172 t173 true))) = some r := by rw [if_pos rfl] at H; exact H
        clear H
        have H := H1
        clear H1
        replace H := Option.bind_eq_some_iff.mp H
        obtain ⟨t177, A430, H⟩ := H
        replace H : (if t177 = t173 then ((utf_Text.f k l0).bind fun t178 => (if (t178 != (t173 == (l0.length : Int))) = true then (scarflaw01_UtfTexts.j1 k l0 t168 t169 t172 t173 true) else (scarflaw01_UtfTexts.j1 k l0 t168 t169 t172 t173 ((strOfNums l0).toList != (strOfNums l0).toList)))) else (scarflaw01_UtfTexts.j1 k l0 t168 t169 t172 t173 true)) = some r := H
        have A43 := Aside0.mk A430
        clear A430
        by_cases c44 : t177 = t173
        · rw [if_pos c44] at H
          have c44b0 : (t177 == t173) = true := beq_iff_eq.mpr c44
          have c44b1 : (t177 != t173) = false := bne_eq_false_iff_eq.mpr c44
          clear c44
          (first | rw [c44b0] | (simp only [i64_w, i32_w]; rw [c44b0]) | skip)
          replace H := Option.bind_eq_some_iff.mp H
          obtain ⟨t178, A450, H⟩ := H
          replace H : (if (t178 != (t173 == (l0.length : Int))) = true then (scarflaw01_UtfTexts.j1 k l0 t168 t169 t172 t173 true) else (scarflaw01_UtfTexts.j1 k l0 t168 t169 t172 t173 ((strOfNums l0).toList != (strOfNums l0).toList))) = some r := H
          have A45 := Aside0.mk A450
          clear A450
          by_cases c46 : (t178 != (t173 == (l0.length : Int))) = true
          · rw [if_pos c46] at H
            have c46b0 : (t178 != (t173 == (l0.length : Int))) = true := c46
            (try (have c46b1 : decide (t178 = (t173 == (l0.length : Int))) = false := by simpa using c46))
            (try (have c46b2 : (t178 == (t173 == (l0.length : Int))) = false := by simpa using c46))
            (try (have c46b3 : ¬ (t178 = (t173 == (l0.length : Int))) := by simpa using c46))
            clear c46
            have H' := Aside0.mk H
            clear H
            go_wp2_with (first | ((with_reducible refine gate_callee (f := 12) rfl ?_); refine goesL_ (some 25) rfl rfl Tryd.func12 (by kernel_rfl) rfl #[] rfl (by (try simp only [List.map_toArray, List.map_cons, List.map_nil]); first | done | rfl | (simp only [List.length_drop, List.length_take]; rfl)) ?_; (with_reducible refine (scarflaw01_known.calls  true _ ?side1 A41.out).mono ?_); (case side1 => repeat (first | exact (GLOB_below HG_.out HB.out) | (with_reducible refine GLOB_alloc ?_ _) | (with_reducible refine GLOB_drewN ?_ _) | (with_reducible refine GLOB_drew ?_))); rintro e w47 ⟨rfl, hb⟩; refine ⟨_, rfl, ?_⟩; have n0_ := Aside0.mk (Kd.R_below (by (with_reducible repeat (first | apply Kd.R_alloc | apply Kd.R_drewN | apply Kd.R_drew)); exact HO171.out) hb); have n1_ := Aside0.mk (Kd.R_below (by (with_reducible repeat (first | apply Kd.R_alloc | apply Kd.R_drewN | apply Kd.R_drew)); exact HO175.out) hb); have n2_ := Aside0.mk (below_step (by repeat (first | (with_reducible first | exact HB.out | apply below_alloc | apply pw_below_drewN | apply below_drew1) | exact HB.out)) hb); clear HO171; clear HO175; clear HB; have HO171 := n0_; have HO175 := n1_; have HB := n2_; clear n0_ n1_ n2_; (try clear hb); (try clear hb2); (try clear hk); (try clear hi)) | (go_at_call 16; (with_reducible refine (utf_Bad.calls k _ _ l0 t177 _ ?side1 ?side2 ?side3 A43.out).mono ?_); (case side1 => repeat (first | exact (Kd.C_below HR0.out HB.out) | (with_reducible refine Kd.C_alloc ?_ _) | (with_reducible refine Kd.C_drewN ?_ _) | (with_reducible refine Kd.C_drew ?_))); (case side2 => exact HC0.out); (case side3 => repeat (first | exact (GLOB_below HG_.out HB.out) | (with_reducible refine GLOB_alloc ?_ _) | (with_reducible refine GLOB_drewN ?_ _) | (with_reducible refine GLOB_drew ?_))); rintro e w48 ⟨rfl, hb⟩; have n0_ := Aside0.mk (Kd.R_below (by (with_reducible repeat (first | apply Kd.R_alloc | apply Kd.R_drewN | apply Kd.R_drew)); exact HO171.out) hb); have n1_ := Aside0.mk (Kd.R_below (by (with_reducible repeat (first | apply Kd.R_alloc | apply Kd.R_drewN | apply Kd.R_drew)); exact HO175.out) hb); have n2_ := Aside0.mk (below_step (by repeat (first | (with_reducible first | exact HB.out | apply below_alloc | apply pw_below_drewN | apply below_drew1) | exact HB.out)) hb); clear HO171; clear HO175; clear HB; have HO171 := n0_; have HO175 := n1_; have HB := n2_; clear n0_ n1_ n2_; (try clear hb); (try clear hb2); (try clear hk); (try clear hi)) | (go_at_call 17; (with_reducible refine (utf_Text.calls k _ _ l0 t178 _ ?side1 ?side2 ?side3 A45.out).mono ?_); (case side1 => repeat (first | exact (Kd.C_below HR0.out HB.out) | (with_reducible refine Kd.C_alloc ?_ _) | (with_reducible refine Kd.C_drewN ?_ _) | (with_reducible refine Kd.C_drew ?_))); (case side2 => exact HC0.out); (case side3 => repeat (first | exact (GLOB_below HG_.out HB.out) | (with_reducible refine GLOB_alloc ?_ _) | (with_reducible refine GLOB_drewN ?_ _) | (with_reducible refine GLOB_drew ?_))); rintro e w49 ⟨rfl, hb⟩; have n0_ := Aside0.mk (Kd.R_below (by (with_reducible repeat (first | apply Kd.R_alloc | apply Kd.R_drewN | apply Kd.R_drew)); exact HO171.out) hb); have n1_ := Aside0.mk (Kd.R_below (by (with_reducible repeat (first | apply Kd.R_alloc | apply Kd.R_drewN | apply Kd.R_drew)); exact HO175.out) hb); have n2_ := Aside0.mk (below_step (by repeat (first | (with_reducible first | exact HB.out | apply below_alloc | apply pw_below_drewN | apply below_drew1) | exact HB.out)) hb); clear HO171; clear HO175; clear HB; have HO171 := n0_; have HO175 := n1_; have HB := n2_; clear n0_ n1_ n2_; (try clear hb); (try clear hb2); (try clear hk); (try clear hi)))
            go_meet
            case rel => exact ⟨_, (true), (by first | rfl | (simp; done) | (simp [*]; done)), H', ⟨by first | omega | exact Nat.le_refl _⟩, ⟨by (with_reducible repeat (first | apply Kd.R_alloc | apply Kd.R_drewN | apply Kd.R_drew)); exact Kd.R_mono HO171.out (fun _ hk => hk.2)⟩, ⟨by (with_reducible repeat (first | apply Kd.R_alloc | apply Kd.R_drewN | apply Kd.R_drew)); exact Kd.R_mono HO175.out (fun _ hk => hk.2)⟩, ⟨by repeat (first | (with_reducible first | exact HB.out | apply below_alloc | apply pw_below_drewN | apply below_drew1) | exact HB.out)⟩⟩
          · rw [if_neg c46] at H
            have c46b0 : (t178 != (t173 == (l0.length : Int))) = false := by simpa using c46
            (try (have c46b1 : decide (t178 = (t173 == (l0.length : Int))) = true := by simpa using c46))
            (try (have c46b2 : (t178 == (t173 == (l0.length : Int))) = true := by simpa using c46))
            clear c46
            have H' := Aside0.mk H
            clear H
            go_wp2_with (first | ((with_reducible refine gate_callee (f := 12) rfl ?_); refine goesL_ (some 25) rfl rfl Tryd.func12 (by kernel_rfl) rfl #[] rfl (by (try simp only [List.map_toArray, List.map_cons, List.map_nil]); first | done | rfl | (simp only [List.length_drop, List.length_take]; rfl)) ?_; (with_reducible refine (scarflaw01_known.calls  true _ ?side1 A41.out).mono ?_); (case side1 => repeat (first | exact (GLOB_below HG_.out HB.out) | (with_reducible refine GLOB_alloc ?_ _) | (with_reducible refine GLOB_drewN ?_ _) | (with_reducible refine GLOB_drew ?_))); rintro e w50 ⟨rfl, hb⟩; refine ⟨_, rfl, ?_⟩; have n0_ := Aside0.mk (Kd.R_below (by (with_reducible repeat (first | apply Kd.R_alloc | apply Kd.R_drewN | apply Kd.R_drew)); exact HO171.out) hb); have n1_ := Aside0.mk (Kd.R_below (by (with_reducible repeat (first | apply Kd.R_alloc | apply Kd.R_drewN | apply Kd.R_drew)); exact HO175.out) hb); have n2_ := Aside0.mk (below_step (by repeat (first | (with_reducible first | exact HB.out | apply below_alloc | apply pw_below_drewN | apply below_drew1) | exact HB.out)) hb); clear HO171; clear HO175; clear HB; have HO171 := n0_; have HO175 := n1_; have HB := n2_; clear n0_ n1_ n2_; (try clear hb); (try clear hb2); (try clear hk); (try clear hi)) | (go_at_call 16; (with_reducible refine (utf_Bad.calls k _ _ l0 t177 _ ?side1 ?side2 ?side3 A43.out).mono ?_); (case side1 => repeat (first | exact (Kd.C_below HR0.out HB.out) | (with_reducible refine Kd.C_alloc ?_ _) | (with_reducible refine Kd.C_drewN ?_ _) | (with_reducible refine Kd.C_drew ?_))); (case side2 => exact HC0.out); (case side3 => repeat (first | exact (GLOB_below HG_.out HB.out) | (with_reducible refine GLOB_alloc ?_ _) | (with_reducible refine GLOB_drewN ?_ _) | (with_reducible refine GLOB_drew ?_))); rintro e w51 ⟨rfl, hb⟩; have n0_ := Aside0.mk (Kd.R_below (by (with_reducible repeat (first | apply Kd.R_alloc | apply Kd.R_drewN | apply Kd.R_drew)); exact HO171.out) hb); have n1_ := Aside0.mk (Kd.R_below (by (with_reducible repeat (first | apply Kd.R_alloc | apply Kd.R_drewN | apply Kd.R_drew)); exact HO175.out) hb); have n2_ := Aside0.mk (below_step (by repeat (first | (with_reducible first | exact HB.out | apply below_alloc | apply pw_below_drewN | apply below_drew1) | exact HB.out)) hb); clear HO171; clear HO175; clear HB; have HO171 := n0_; have HO175 := n1_; have HB := n2_; clear n0_ n1_ n2_; (try clear hb); (try clear hb2); (try clear hk); (try clear hi)) | (go_at_call 17; (with_reducible refine (utf_Text.calls k _ _ l0 t178 _ ?side1 ?side2 ?side3 A45.out).mono ?_); (case side1 => repeat (first | exact (Kd.C_below HR0.out HB.out) | (with_reducible refine Kd.C_alloc ?_ _) | (with_reducible refine Kd.C_drewN ?_ _) | (with_reducible refine Kd.C_drew ?_))); (case side2 => exact HC0.out); (case side3 => repeat (first | exact (GLOB_below HG_.out HB.out) | (with_reducible refine GLOB_alloc ?_ _) | (with_reducible refine GLOB_drewN ?_ _) | (with_reducible refine GLOB_drew ?_))); rintro e w52 ⟨rfl, hb⟩; have n0_ := Aside0.mk (Kd.R_below (by (with_reducible repeat (first | apply Kd.R_alloc | apply Kd.R_drewN | apply Kd.R_drew)); exact HO171.out) hb); have n1_ := Aside0.mk (Kd.R_below (by (with_reducible repeat (first | apply Kd.R_alloc | apply Kd.R_drewN | apply Kd.R_drew)); exact HO175.out) hb); have n2_ := Aside0.mk (below_step (by repeat (first | (with_reducible first | exact HB.out | apply below_alloc | apply pw_below_drewN | apply below_drew1) | exact HB.out)) hb); clear HO171; clear HO175; clear HB; have HO171 := n0_; have HO175 := n1_; have HB := n2_; clear n0_ n1_ n2_; (try clear hb); (try clear hb2); (try clear hk); (try clear hi); have hcv53 := Kd.C_string (P := Tryd.prog) (A := A0) (c := c0) Tryd.underlying22 Tryd.underlying5 Tryd.underlying9 (Kd.C_below HR0.out HB.out); have hcn53 := fun n_ : Nat => Kd.C_string (P := Tryd.prog) (A := A0) (c := c0) Tryd.underlying22 Tryd.underlying5 Tryd.underlying9 (Kd.C_drewN (Kd.C_below HR0.out HB.out) n_)))
            go_meet
            case rel => exact ⟨_, (((strOfNums l0).toList != (strOfNums l0).toList)), (by first | rfl | (simp; done) | (simp [*]; done)), H', ⟨by first | omega | exact Nat.le_refl _⟩, ⟨by (with_reducible repeat (first | apply Kd.R_alloc | apply Kd.R_drewN | apply Kd.R_drew)); exact Kd.R_mono HO171.out (fun _ hk => hk.2)⟩, ⟨by (with_reducible repeat (first | apply Kd.R_alloc | apply Kd.R_drewN | apply Kd.R_drew)); exact Kd.R_mono HO175.out (fun _ hk => hk.2)⟩, ⟨by repeat (first | (with_reducible first | exact HB.out | apply below_alloc | apply pw_below_drewN | apply below_drew1) | exact HB.out)⟩⟩
        · rw [if_neg c44] at H
          have c44b0 : (t177 == t173) = false := beq_eq_false_iff_ne.mpr c44
          have c44b1 : (t177 != t173) = true := bne_iff_ne.mpr c44
          (first | rw [c44b0] | (simp only [i64_w, i32_w]; rw [c44b0]) | skip)
          have H' := Aside0.mk H
          clear H
          go_wp2_with (first | ((with_reducible refine gate_callee (f := 12) rfl ?_); refine goesL_ (some 25) rfl rfl Tryd.func12 (by kernel_rfl) rfl #[] rfl (by (try simp only [List.map_toArray, List.map_cons, List.map_nil]); first | done | rfl | (simp only [List.length_drop, List.length_take]; rfl)) ?_; (with_reducible refine (scarflaw01_known.calls  true _ ?side1 A41.out).mono ?_); (case side1 => repeat (first | exact (GLOB_below HG_.out HB.out) | (with_reducible refine GLOB_alloc ?_ _) | (with_reducible refine GLOB_drewN ?_ _) | (with_reducible refine GLOB_drew ?_))); rintro e w54 ⟨rfl, hb⟩; refine ⟨_, rfl, ?_⟩; have n0_ := Aside0.mk (Kd.R_below (by (with_reducible repeat (first | apply Kd.R_alloc | apply Kd.R_drewN | apply Kd.R_drew)); exact HO171.out) hb); have n1_ := Aside0.mk (Kd.R_below (by (with_reducible repeat (first | apply Kd.R_alloc | apply Kd.R_drewN | apply Kd.R_drew)); exact HO175.out) hb); have n2_ := Aside0.mk (below_step (by repeat (first | (with_reducible first | exact HB.out | apply below_alloc | apply pw_below_drewN | apply below_drew1) | exact HB.out)) hb); clear HO171; clear HO175; clear HB; have HO171 := n0_; have HO175 := n1_; have HB := n2_; clear n0_ n1_ n2_; (try clear hb); (try clear hb2); (try clear hk); (try clear hi)) | (go_at_call 16; (with_reducible refine (utf_Bad.calls k _ _ l0 t177 _ ?side1 ?side2 ?side3 A43.out).mono ?_); (case side1 => repeat (first | exact (Kd.C_below HR0.out HB.out) | (with_reducible refine Kd.C_alloc ?_ _) | (with_reducible refine Kd.C_drewN ?_ _) | (with_reducible refine Kd.C_drew ?_))); (case side2 => exact HC0.out); (case side3 => repeat (first | exact (GLOB_below HG_.out HB.out) | (with_reducible refine GLOB_alloc ?_ _) | (with_reducible refine GLOB_drewN ?_ _) | (with_reducible refine GLOB_drew ?_))); rintro e w55 ⟨rfl, hb⟩; have n0_ := Aside0.mk (Kd.R_below (by (with_reducible repeat (first | apply Kd.R_alloc | apply Kd.R_drewN | apply Kd.R_drew)); exact HO171.out) hb); have n1_ := Aside0.mk (Kd.R_below (by (with_reducible repeat (first | apply Kd.R_alloc | apply Kd.R_drewN | apply Kd.R_drew)); exact HO175.out) hb); have n2_ := Aside0.mk (below_step (by repeat (first | (with_reducible first | exact HB.out | apply below_alloc | apply pw_below_drewN | apply below_drew1) | exact HB.out)) hb); clear HO171; clear HO175; clear HB; have HO171 := n0_; have HO175 := n1_; have HB := n2_; clear n0_ n1_ n2_; (try clear hb); (try clear hb2); (try clear hk); (try clear hi)))
          go_meet
          case rel => exact ⟨_, (true), (by first | rfl | (simp; done) | (simp [*]; done)), H', ⟨by first | omega | exact Nat.le_refl _⟩, ⟨by (with_reducible repeat (first | apply Kd.R_alloc | apply Kd.R_drewN | apply Kd.R_drew)); exact Kd.R_mono HO171.out (fun _ hk => hk.2)⟩, ⟨by (with_reducible repeat (first | apply Kd.R_alloc | apply Kd.R_drewN | apply Kd.R_drew)); exact Kd.R_mono HO175.out (fun _ hk => hk.2)⟩, ⟨by repeat (first | (with_reducible first | exact HB.out | apply below_alloc | apply pw_below_drewN | apply below_drew1) | exact HB.out)⟩⟩
      · replace c42 := Bool.eq_false_iff.mpr c42
        subst c42
        have H1 : (scarflaw01_UtfTexts.j1 k l0 t168 t169 t172 t173 true) = some r := by rw [if_neg (show ¬ (false = true) by decide)] at H; exact H
        clear H
        have H := H1
        clear H1
        have H' := Aside0.mk H
        clear H
        go_wp2_with (first | ((with_reducible refine gate_callee (f := 12) rfl ?_); refine goesL_ (some 25) rfl rfl Tryd.func12 (by kernel_rfl) rfl #[] rfl (by (try simp only [List.map_toArray, List.map_cons, List.map_nil]); first | done | rfl | (simp only [List.length_drop, List.length_take]; rfl)) ?_; (with_reducible refine (scarflaw01_known.calls  false _ ?side1 A41.out).mono ?_); (case side1 => repeat (first | exact (GLOB_below HG_.out HB.out) | (with_reducible refine GLOB_alloc ?_ _) | (with_reducible refine GLOB_drewN ?_ _) | (with_reducible refine GLOB_drew ?_))); rintro e w56 ⟨rfl, hb⟩; refine ⟨_, rfl, ?_⟩; have n0_ := Aside0.mk (Kd.R_below (by (with_reducible repeat (first | apply Kd.R_alloc | apply Kd.R_drewN | apply Kd.R_drew)); exact HO171.out) hb); have n1_ := Aside0.mk (Kd.R_below (by (with_reducible repeat (first | apply Kd.R_alloc | apply Kd.R_drewN | apply Kd.R_drew)); exact HO175.out) hb); have n2_ := Aside0.mk (below_step (by repeat (first | (with_reducible first | exact HB.out | apply below_alloc | apply pw_below_drewN | apply below_drew1) | exact HB.out)) hb); clear HO171; clear HO175; clear HB; have HO171 := n0_; have HO175 := n1_; have HB := n2_; clear n0_ n1_ n2_; (try clear hb); (try clear hb2); (try clear hk); (try clear hi)))
        go_meet
        case rel => exact ⟨_, (true), (by first | rfl | (simp; done) | (simp [*]; done)), H', ⟨by first | omega | exact Nat.le_refl _⟩, ⟨by (with_reducible repeat (first | apply Kd.R_alloc | apply Kd.R_drewN | apply Kd.R_drew)); exact Kd.R_mono HO171.out (fun _ hk => hk.2)⟩, ⟨by (with_reducible repeat (first | apply Kd.R_alloc | apply Kd.R_drewN | apply Kd.R_drew)); exact Kd.R_mono HO175.out (fun _ hk => hk.2)⟩, ⟨by repeat (first | (with_reducible first | exact HB.out | apply below_alloc | apply pw_below_drewN | apply below_drew1) | exact HB.out)⟩⟩
    case rest =>
      clear HC37
      try clear c1
      try clear c2
      try clear c2b0
      try clear c2b1
      try clear p2
      try clear hcv2
      try clear c3
      try clear c3b0
      try clear c3b1
      try clear hcv3
      try clear c4
      try clear hcv5
      try clear c8
      try clear hcv8
      try clear c12
      try clear c14
      try clear c14b0
      try clear c14b1
      try clear c16
      try clear c16b0
      try clear c16b1
      try clear c16b2
      try clear c18
      try clear c19
      try clear hcv23
      try clear c27
      try clear c28
      try clear c28b0
      try clear c29
      try clear c29b0
      try clear c29b1
      try clear c31
      try clear c31b0
      try clear c31b1
      try clear hcv38
      try clear c42
      try clear c44
      try clear c44b0
      try clear c44b1
      try clear c46
      try clear c46b0
      try clear c46b1
      try clear c46b2
      try clear hcv53
      try clear p2
      obtain ⟨kq, x47_36, rfl, HA, HJ36, HO_4, HO_6, HB⟩ := hcut
      cases kq with
      | zero => exact absurd HA.out (by simp [scarflaw01_UtfTexts.j1])
      | succ kj36 =>
        have H := HA.out
        clear HA
        simp only [scarflaw01_UtfTexts.j1] at H
        by_cases c57 : x47_36 = true
        · subst c57
          have H1 : (some false) = some r := by rw [if_pos rfl] at H; exact H
          clear H
          have H := H1
          clear H1
          obtain rfl := Option.some.inj H
          go_wp2
          go_ret
          exact ⟨by first | rfl | (simp [errW_none, errW_some] <;> rfl) | (simp [*, errW_none, errW_some] <;> rfl), by repeat (first | (with_reducible first | exact HB.out | apply below_alloc | apply pw_below_drewN | apply below_drew1) | exact HB.out)⟩
        · replace c57 := Bool.eq_false_iff.mpr c57
          subst c57
          have H1 : (if t173 < (l0.length : Int) then (if t169 = 3 then (some ((t168.length : Int) == 0)) else (some false)) else (if t169 = 0 then ((scarflaw01_same.f kj36 t168 t172).bind fun t179 => (some t179)) else (some false))) = some r := by rw [if_neg (show ¬ (false = true) by decide)] at H; exact H
          clear H
          have H := H1
          clear H1
          by_cases c58 : t173 < (l0.length : Int)
          · rw [if_pos c58] at H
            have c58b0 : decide (t173 < (l0.length : Int)) = true := decide_eq_true c58
            clear c58
            by_cases c59 : t169 = 3
            · rw [if_pos c59] at H
              have c59b0 : (t169 == 3) = true := beq_iff_eq.mpr c59
              have c59b1 : (t169 != 3) = false := bne_eq_false_iff_eq.mpr c59
              clear c59
              obtain rfl := Option.some.inj H
              obtain ⟨Ao60, co60, eo60⟩ := Kd.R_slice HO_4.out
              subst eo60
              go_wp2
              go_ret
              exact ⟨by first | rfl | (simp [errW_none, errW_some] <;> rfl) | (simp [*, errW_none, errW_some] <;> rfl), by repeat (first | (with_reducible first | exact HB.out | apply below_alloc | apply pw_below_drewN | apply below_drew1) | exact HB.out)⟩
            · rw [if_neg c59] at H
              have c59b0 : (t169 == 3) = false := beq_eq_false_iff_ne.mpr c59
              have c59b1 : (t169 != 3) = true := bne_iff_ne.mpr c59
              obtain rfl := Option.some.inj H
              go_wp2
              go_ret
              exact ⟨by first | rfl | (simp [errW_none, errW_some] <;> rfl) | (simp [*, errW_none, errW_some] <;> rfl), by repeat (first | (with_reducible first | exact HB.out | apply below_alloc | apply pw_below_drewN | apply below_drew1) | exact HB.out)⟩
          · rw [if_neg c58] at H
            have c58b0 : decide (t173 < (l0.length : Int)) = false := decide_eq_false c58
            clear c58
            by_cases c61 : t169 = 0
            · rw [if_pos c61] at H
              have c61b0 : (t169 == 0) = true := beq_iff_eq.mpr c61
              have c61b1 : (t169 != 0) = false := bne_eq_false_iff_eq.mpr c61
              clear c61
              replace H := Option.bind_eq_some_iff.mp H
              obtain ⟨t179, A620, H⟩ := H
              replace H : (some t179) = some r := H
              have A62 := Aside0.mk A620
              clear A620
              obtain rfl := Option.some.inj H
              obtain ⟨Ao63, co63, eo63⟩ := Kd.R_slice HO_4.out
              subst eo63
              obtain ⟨Ao64, co64, eo64⟩ := Kd.R_slice HO_6.out
              subst eo64
              go_wp2_with (first | (go_at_call 20; (with_reducible refine (scarflaw01_same.calls kj36 _ _ t168 _ _ t172 t179 _ ?side1 ?side2 ?side3 ?side4 A62.out).mono ?_); (case side1 => repeat (first | exact (Kd.R_reads' HO_4.out).2.2 | (with_reducible refine Kd.C_alloc ?_ _) | (with_reducible refine Kd.C_drewN ?_ _) | (with_reducible refine Kd.C_drew ?_))); (case side2 => exact (Kd.R_reads' HO_4.out).2.1); (case side3 => repeat (first | exact (Kd.R_reads' HO_6.out).2.2 | (with_reducible refine Kd.C_alloc ?_ _) | (with_reducible refine Kd.C_drewN ?_ _) | (with_reducible refine Kd.C_drew ?_))); (case side4 => exact (Kd.R_reads' HO_6.out).2.1); rintro e w' ⟨rfl, ⟨nd, rfl⟩⟩))
              go_ret
              exact ⟨by first | rfl | (simp [errW_none, errW_some] <;> rfl) | (simp [*, errW_none, errW_some] <;> rfl), by repeat (first | (with_reducible first | exact HB.out | apply below_alloc | apply pw_below_drewN | apply below_drew1) | exact HB.out)⟩
            · rw [if_neg c61] at H
              have c61b0 : (t169 == 0) = false := beq_eq_false_iff_ne.mpr c61
              have c61b1 : (t169 != 0) = true := bne_iff_ne.mpr c61
              obtain rfl := Option.some.inj H
              go_wp2
              go_ret
              exact ⟨by first | rfl | (simp [errW_none, errW_some] <;> rfl) | (simp [*, errW_none, errW_some] <;> rfl), by repeat (first | (with_reducible first | exact HB.out | apply below_alloc | apply pw_below_drewN | apply below_drew1) | exact HB.out)⟩

/-- THE ONE PURE STATEMENT of scarflaw01_UtfTexts: yours. -/
def scarflaw01_UtfTexts.Pure : Prop := ∀ (l0 : List Int), l0.length ≤ maxLen → l0.length * 1 ≤ 140737488351232 → (∀ x ∈ l0, (Lit.int .u8 x).wf = true) → ∃ k, scarflaw01_UtfTexts.f k l0 = some true
theorem scarflaw01_UtfTexts.walk (P : scarflaw01_UtfTexts.Pure) (a0 : Option Addr) (len0 cap0 : Nat) (z0 : List Int) (w : World) (hG : GLOB w) (w0 : (a0 = none ∧ len0 = 0 ∧ cap0 = 0 ∧ z0 = []) ∨ ∃ x, a0 = some x ∧ len0 ≤ cap0 ∧ cap0 ≤ maxLen ∧ z0.length = cap0 ∧ (∀ i, i < z0.length → w.cell? (x.add i) = some (.int .u8 (z0.getD i 0))) ∧ ∀ n ∈ z0, (Lit.int .u8 n).wf = true) (y0 : len0 * 1 ≤ 140737488351232) :
    Calls Tryd.prog 8 #[.slice a0 len0 cap0] w fun e w' => e = .returned (.bool true) ∧ Below w.heap.size w w' := by
  obtain ⟨l0, rfl, hr0, hm0, hw0, hc0⟩ := ReadsInt.ofRowC w0
  obtain ⟨k, h⟩ := P l0 hm0 y0 hw0
  refine (scarflaw01_UtfTexts.calls k _ _ l0 true w (Kd.C_of_reads (d := (0 : Int)) (h1 := fun _ => rfl) hr0) hc0 hG h).mono ?_
  rintro e w' ⟨rfl, hd⟩
  exact ⟨rfl, hd⟩

end Go.Proofs.YtpoeiiimmgnioaaDoor.Q
