-- Written by this repo's pp.py (the kit's print program with additions).
import Derived.Test.YtlpopkknamigoaaQ0
import Derived.Test.YtlpopkknamigoaaQ3
import Derived.Test.YtlpopkknamigoaaQ5
import Derived.Test.YtlpopkknamigoaaQ6d
namespace Go.Proofs.Ytlpopkknamigoaa.Q
open Go.RowKit Go.Proofs.YtlpopkknamigoaaW.PrintWords Go.Proofs.YtlpopkknamigoaaW.PrintLast Go.Proofs.YtlpopkknamigoaaW.PrintMore
attribute [local go_sem] max2_int min2_int max_two min_two max_three min_three max_four min_four   -- for this text's walks alone
set_option linter.unusedVariables false
set_option linter.unusedSimpArgs false

set_option maxHeartbeats 8000000 in
set_option maxRecDepth 100000 in
theorem scarflaw03_RankPuts.calls_p1 (k : Nat) (A0 : Option Addr) (c0 : Nat) (l0 : List Int) (a1 : Int) (r : Bool) (w : World) (hr0 : Kd.C (Kd.int .i64) w A0 l0.length l0) (hc0 : l0.length ≤ c0) (h : scarflaw03_RankPuts.f k l0 a1 = some r) (kp0 : Aside0 ((l0.length : Int) > 300)) :
    Calls Try.prog 7 #[.slice A0 l0.length c0, .int .i64 a1] w fun e w' => e = .returned (.bool r) ∧ Below w.heap.size w w' := by
  have HR0 := Aside0.mk hr0
  have HC0 := Aside0.mk hc0
  clear hr0 hc0
  have HB := Aside0.mk (Below.refl w.heap.size w)
  have H : (if (l0.length : Int) > 300 then (if 300 ≤ (l0.length : Int) then ((rank_Ints.f k (l0.take 300)).bind fun t179 => (scarflaw03_RankPuts.l0 k (l0.take 300) a1 ([] : List Int) t179 0)) else (none)) else ((rank_Ints.f k l0).bind fun t226 => (scarflaw03_RankPuts.l3 k l0 a1 ([] : List Int) t226 0))) = some r := h
  clear h
  by_cases c3 : (l0.length : Int) > 300
  · rw [if_pos c3] at H
    have c3b0 : decide (300 < (l0.length : Int)) = true := decide_eq_true c3
    have c3b1 : decide (300 < l0.length) = true := decide_eq_true (by omega)
    clear c3
    by_cases c4 : 300 ≤ (l0.length : Int)
    · rw [if_pos c4] at H
      have c4b0 := eq_true c4
      have c4b1 : decide (300 ≤ (l0.length : Int)) = true := decide_eq_true c4
      clear c4
      replace H := Option.bind_eq_some_iff.mp H
      obtain ⟨t179, A50, H⟩ := H
      replace H : (scarflaw03_RankPuts.l0 k (l0.take 300) a1 ([] : List Int) t179 0) = some r := H
      have A5 := Aside0.mk A50
      clear A50
      have H' := Aside0.mk H
      clear H
      obtain ⟨i06, hi06, _, hsz6, _⟩ := info_parts info3
      obtain ⟨hcut6, hA6, hC6⟩ := print_take_of (P := Try.prog) (Value.int .i64) 0 22 3 .i64 Try.underlying22 hi06 hsz6 A0 c0 l0 300 (by omega) (of_decide_eq_true (by first | (with_reducible assumption) | assumption)) HC0.out
      have HR178 := Aside0.mk (Kd.C_of_reads (h1 := fun _ => rfl) (hA6 _ (Kd.reads_of_C HR0.out)))
      have HC178 := Aside0.mk hC6
      clear hA6 hC6 hi06 hsz6
      go_enter Try.func7, Try.ntmps7
      go_wp2_with (first | ((with_reducible refine gate_callee (f := 11) rfl ?_); refine goesL_ (some 19) rfl rfl Try.func11 (by kernel_rfl) rfl #[.slice A0 (l0.take 300).length c0] rfl (by (try simp only [List.map_toArray, List.map_cons, List.map_nil]); first | done | (rw [show (l0.take 300).length = 300 from (by rw [List.length_take]; have h_ : (300 : Int) ≤ (l0.length : Int) := of_decide_eq_true (by first | (with_reducible assumption) | assumption); omega)] <;> rfl) | rfl | (simp only [List.length_drop, List.length_take]; rfl)) ?_; (with_reducible refine (rank_Ints.calls k _ _ (l0.take 300) t179 _ ?side1 ?side2 A5.out).mono ?_); (case side1 => repeat (first | exact HR178.out | (with_reducible refine Kd.C_alloc ?_ _) | (with_reducible refine Kd.C_drewN ?_ _) | (with_reducible refine Kd.C_drew ?_))); (case side2 => exact HC178.out); rintro e w7 ⟨v180, rfl, ho0, hb⟩; refine ⟨_, rfl, ?_⟩; have n0_ := Aside0.mk (Kd.R_lower ho0 (below_size (by repeat (first | (with_reducible first | exact HB.out | apply below_alloc | apply pw_below_drewN | apply below_drew1) | exact HB.out)))); have n1_ := Aside0.mk (below_step (by repeat (first | (with_reducible first | exact HB.out | apply below_alloc | apply pw_below_drewN | apply below_drew1) | exact HB.out)) hb); clear HB; have HO181 := n0_; have HB := n1_; clear n0_ n1_; (try clear hb); (try clear hb2); (try clear hk); (try clear hi); (try clear ho0)))
      go_loopg [5, 7] k (fun kq v5 v7 w' => ∃ (x5_1 : List Int) (x7_1 : Int), v7 = .int .i64 x7_1 ∧ Aside0 (scarflaw03_RankPuts.l0 kq (l0.take 300) a1 x5_1 t179 x7_1 = some r) ∧ Aside0 (kq ≤ k) ∧ Aside0 (Kd.R (Kd.int .i64) 3 w' w.heap.size (fun k_ => some k_ ≠ (v180 : Value).ownBlock) v5 x5_1) ∧ Aside0 (Kd.R (Kd.int .i64) 3 w' w.heap.size (fun k_ => some k_ ≠ (v5 : Value).ownBlock) v180 t179) ∧ Aside0 (Below w.heap.size w w'))
      case atStart => exact ⟨(([] : List Int)), (0), (by first | rfl | (simp; done) | (simp [*]; done)), H', ⟨Nat.le_refl _⟩, ⟨by first | exact Kd.R_nil _ _ _ _ _ | exact Kd.N_nil _ _ _ _ _ | exact Kd.V_nil _ _ _ _ _ | exact Kd.Q_nil _ _ _ _ _ | exact Kd.S_nil _ _ _ _ _⟩, ⟨by (with_reducible repeat (first | apply Kd.R_alloc | apply Kd.R_drewN | apply Kd.R_drew)); exact Kd.R_mono HO181.out (fun _ hk => (by simp [Value.ownBlock]))⟩, ⟨by repeat (first | (with_reducible first | exact HB.out | apply below_alloc | apply pw_below_drewN | apply below_drew1) | exact HB.out)⟩⟩
      case round =>
        clear H'
        try clear c1
        try clear p2
        try clear c3
        try clear c3b0
        try clear c3b1
        try clear c4
        try clear c4b0
        try clear c4b1
        try clear c7
        obtain ⟨x5_1, x7_1, rfl, HA, HK1, HO_5, HO_6, HB⟩ := hrel
        cases gk with
        | zero => exact absurd HA.out (by simp [scarflaw03_RankPuts.l0])
        | succ k1 =>
          have H := HA.out
          clear HA
          simp only [scarflaw03_RankPuts.l0] at H
          by_cases c8 : x7_1 < (t179.length : Int)
          · rw [if_pos c8] at H
            have c8b0 : decide (x7_1 < (t179.length : Int)) = true := decide_eq_true c8
            clear c8
            by_cases c9 : 0 ≤ x7_1
            · rw [if_pos c9] at H
              have c9b0 : decide (0 ≤ x7_1) = true := decide_eq_true c9
              clear c9
              by_cases c10 : (rd t179 x7_1) < 0
              · rw [if_pos c10] at H
                have c10b0 : decide ((rd t179 x7_1) < 0) = true := decide_eq_true c10
                clear c10
                obtain rfl := Option.some.inj H
                obtain ⟨Ao11, co11, eo11⟩ := Kd.R_slice HO_6.out
                subst eo11
                have p182 : 0 ≤ (x7_1 : Int) := of_decide_eq_true (by first | (with_reducible assumption) | assumption)
                have q182 : x7_1 < (t179.length : Int) := of_decide_eq_true (by first | (with_reducible assumption) | assumption)
                obtain ⟨ad182, e182, hx182_0⟩ := Kd.at_int (Kd.R_reads' HO_6.out).2.2 x7_1 p182 q182
                cases e182
                replace p182 := eq_true p182
                replace q182 := eq_true q182
                go_wp2
                go_ret
                exact ⟨by first | rfl | (simp [errW_none, errW_some] <;> rfl) | (simp [*, errW_none, errW_some] <;> rfl), by repeat (first | (with_reducible first | exact HB.out | apply below_alloc | apply pw_below_drewN | apply below_drew1) | exact HB.out)⟩
              · rw [if_neg c10] at H
                have c10b0 : decide ((rd t179 x7_1) < 0) = false := decide_eq_false c10
                clear c10
                by_cases c12 : (rd t179 x7_1) ≥ ((l0.take 300).length : Int)
                · rw [if_pos c12] at H
                  have c12b0 : decide (((l0.take 300).length : Int) ≤ (rd t179 x7_1)) = true := decide_eq_true c12
                  (try (have c12b0t := c12b0; simp only [List.length_take, List.length_drop, Int.reduceToNat] at c12b0t))
                  clear c12
                  obtain rfl := Option.some.inj H
                  obtain ⟨Ao13, co13, eo13⟩ := Kd.R_slice HO_6.out
                  subst eo13
                  have p182 : 0 ≤ (x7_1 : Int) := of_decide_eq_true (by first | (with_reducible assumption) | assumption)
                  have q182 : x7_1 < (t179.length : Int) := of_decide_eq_true (by first | (with_reducible assumption) | assumption)
                  obtain ⟨ad182, e182, hx182_0⟩ := Kd.at_int (Kd.R_reads' HO_6.out).2.2 x7_1 p182 q182
                  cases e182
                  replace p182 := eq_true p182
                  replace q182 := eq_true q182
                  have p183 : 0 ≤ (x7_1 : Int) := of_decide_eq_true (by first | (with_reducible assumption) | assumption)
                  have q183 : x7_1 < (t179.length : Int) := of_decide_eq_true (by first | (with_reducible assumption) | assumption)
                  obtain ⟨ad183, e183, hx183_0⟩ := Kd.at_int (Kd.R_reads' HO_6.out).2.2 x7_1 p183 q183
                  obtain rfl : ad182 = ad183 := (by injection e183)
                  replace p183 := eq_true p183
                  replace q183 := eq_true q183
                  go_wp2
                  go_ret
                  exact ⟨by first | rfl | (simp [errW_none, errW_some] <;> rfl) | (simp [*, errW_none, errW_some] <;> rfl), by repeat (first | (with_reducible first | exact HB.out | apply below_alloc | apply pw_below_drewN | apply below_drew1) | exact HB.out)⟩
                · rw [if_neg c12] at H
                  have c12b0 : decide (((l0.take 300).length : Int) ≤ (rd t179 x7_1)) = false := decide_eq_false c12
                  (try (have c12b0t := c12b0; simp only [List.length_take, List.length_drop, Int.reduceToNat] at c12b0t))
                  clear c12
                  by_cases c14 : 0 ≤ (rd t179 x7_1)
                  · rw [if_pos c14] at H
                    have c14b0 : decide (0 ≤ (rd t179 x7_1)) = true := decide_eq_true c14
                    clear c14
                    by_cases c15 : (rd t179 x7_1) < ((l0.take 300).length : Int)
                    · rw [if_pos c15] at H
                      have c15b0 : decide ((rd t179 x7_1) < ((l0.take 300).length : Int)) = true := decide_eq_true c15
                      (try (have c15b0t := c15b0; simp only [List.length_take, List.length_drop, Int.reduceToNat] at c15b0t))
                      clear c15
                      obtain ⟨y186, hy186⟩ : ∃ y_ : List Int, y_ = (([rd (l0.take 300) (rd t179 x7_1)] : List Int)) := ⟨_, rfl⟩
                      replace H : (if x5_1.length + y186.length < 17592186044416 then (scarflaw03_RankPuts.l0 k1 (l0.take 300) a1 (x5_1 ++ y186) t179 (wrap64 (x7_1 + 1))) else (none)) = some r := by first | (rw [hy186]; with_reducible exact H) | (have H2_ := (Option.bind_some _ _).symm.trans H; rw [hy186]; with_reducible exact H2_) | (have H2_ := (Option.bind_some _ _).symm.trans H; with_reducible exact H2_) | with_reducible exact H | (rw [hy186]; exact H) | exact H
                      have Ny186 := Aside0.mk hy186
                      clear hy186
                      by_cases c16 : x5_1.length + y186.length < 17592186044416
                      · rw [if_pos c16] at H
                        have LMc16 := Aside0.mk c16
                        clear c16
                        obtain ⟨y189, hy189⟩ : ∃ y_ : List Int, y_ = (x5_1 ++ y186) := ⟨_, rfl⟩
                        replace H : (scarflaw03_RankPuts.l0 k1 (l0.take 300) a1 y189 t179 (wrap64 (x7_1 + 1))) = some r := by first | (rw [hy189]; with_reducible exact H) | (have H2_ := (Option.bind_some _ _).symm.trans H; rw [hy189]; with_reducible exact H2_) | (have H2_ := (Option.bind_some _ _).symm.trans H; with_reducible exact H2_) | with_reducible exact H | (rw [hy189]; exact H) | exact H
                        have Ny189 := Aside0.mk hy189
                        clear hy189
                        have H' := Aside0.mk H
                        clear H
                        obtain ⟨Ao17, co17, eo17⟩ := Kd.R_slice HO_6.out
                        subst eo17
                        have p182 : 0 ≤ (x7_1 : Int) := of_decide_eq_true (by first | (with_reducible assumption) | assumption)
                        have q182 : x7_1 < (t179.length : Int) := of_decide_eq_true (by first | (with_reducible assumption) | assumption)
                        obtain ⟨ad182, e182, hx182_0⟩ := Kd.at_int (Kd.R_reads' HO_6.out).2.2 x7_1 p182 q182
                        cases e182
                        replace p182 := eq_true p182
                        replace q182 := eq_true q182
                        have p183 : 0 ≤ (x7_1 : Int) := of_decide_eq_true (by first | (with_reducible assumption) | assumption)
                        have q183 : x7_1 < (t179.length : Int) := of_decide_eq_true (by first | (with_reducible assumption) | assumption)
                        obtain ⟨ad183, e183, hx183_0⟩ := Kd.at_int (Kd.R_reads' HO_6.out).2.2 x7_1 p183 q183
                        obtain rfl : ad182 = ad183 := (by injection e183)
                        replace p183 := eq_true p183
                        replace q183 := eq_true q183
                        have p184 : 0 ≤ (x7_1 : Int) := of_decide_eq_true (by first | (with_reducible assumption) | assumption)
                        have q184 : x7_1 < (t179.length : Int) := of_decide_eq_true (by first | (with_reducible assumption) | assumption)
                        obtain ⟨ad184, e184, hx184_0⟩ := Kd.at_int (Kd.R_reads' HO_6.out).2.2 x7_1 p184 q184
                        obtain rfl : ad182 = ad184 := (by injection e184)
                        replace p184 := eq_true p184
                        replace q184 := eq_true q184
                        have p185 : 0 ≤ ((rd t179 x7_1) : Int) := of_decide_eq_true (by first | (with_reducible assumption) | assumption)
                        have q185 : (rd t179 x7_1) < ((l0.take 300).length : Int) := of_decide_eq_true (by first | (with_reducible assumption) | assumption)
                        obtain ⟨ad185, e185, hx185_0⟩ := Kd.at_int HR178.out (rd t179 x7_1) p185 q185
                        cases e185
                        replace hx185_0 := (HB.out.cell (World.block_lt_of_cell? w _ hx185_0)).trans hx185_0
                        replace p185 := eq_true p185
                        replace q185 := eq_true q185
                        (try (have q185t := q185; simp only [List.length_take, List.length_drop, Int.reduceToNat] at q185t))
                        go_wp2_with (first | ((with_reducible refine gate_dst (N := 48) rfl ?_); (try (refine gate_guard (by rfl) ?_; dsimp only)); refine Kd.R_lit (Kd.int .i64) _ 3 ?hg (N := 48) ?hd (xs := ([rd (l0.take 300) (rd t179 x7_1)] : List Int)) (inner := [.int .i64 (rd (l0.take 300) (rd t179 x7_1))]) (ok := fun _ => True) (okp := fun _ => True) ?hr ?hp (fun _ hk => hk) trivial (Below.refl _ _) (Nat.le_refl _) (by simp) ?_; (case hd => rfl); (case hg => rfl); (case hr => first | (go_simp; done) | (go_simp; rfl)); (case hp => exact (Reps.one (show Kd.M (Kd.int .i64) _ _ _ (rd (l0.take 300) (rd t179 x7_1)) [.int .i64 (rd (l0.take 300) (rd t179 x7_1))] from rfl) (Reps.none _ _))); intro v187 w18 ho19 hb hg_ hnew_; clear hg_ hnew_; (first | rw [← Ny186.out] at ho19 | (simp only [Int.reduceToNat] at ho19; rw [← Ny186.out] at ho19)); have n0_ := Aside0.mk (Kd.R_elder' (by (with_reducible repeat (first | apply Kd.R_alloc | apply Kd.R_drewN | apply Kd.R_drew)); exact HO_5.out) (Kd.R_base ho19) hb); have n1_ := Aside0.mk (Kd.R_elder' (by (with_reducible repeat (first | apply Kd.R_alloc | apply Kd.R_drewN | apply Kd.R_drew)); exact HO_6.out) (Kd.R_base ho19) hb); have n2_ := Aside0.mk (Kd.R_lower (Kd.R_new' (Kd.R_new' ho19 (Kd.R_lt (by (with_reducible repeat (first | apply Kd.R_alloc | apply Kd.R_drewN | apply Kd.R_drew)); exact HO_5.out))) (Kd.R_lt (by (with_reducible repeat (first | apply Kd.R_alloc | apply Kd.R_drewN | apply Kd.R_drew)); exact HO_6.out))) (below_size (by repeat (first | (with_reducible first | exact HB.out | apply below_alloc | apply pw_below_drewN | apply below_drew1) | exact HB.out)))); have n3_ := Aside0.mk (below_step (by repeat (first | (with_reducible first | exact HB.out | apply below_alloc | apply pw_below_drewN | apply below_drew1) | exact HB.out)) hb); clear HO_5; clear HO_6; clear HB; have HO_5 := n0_; have HO_6 := n1_; have HO188 := n2_; have HB := n3_; clear n0_ n1_ n2_ n3_; clear hb ho19; obtain ⟨Ao21, co21, eo21⟩ := Kd.R_slice HO188.out; subst eo21) | ((with_reducible refine gate_builtin (b := .append) (xs := #[.tmp 40, .tmp 48]) rfl ?_); (try (refine gate_guard (by rfl) ?_; dsimp only)); at_builtin; refine Kd.R_append_rows (Kd.int .i64) (w0 := w) w.heap.size rfl (.tmp 40) (.tmp 48) 22 3 (.int .i64 0) 8 rfl Try.underlying22 info3 rfl (by decide) (by omega) u5 x5_1 y186 _ _ _ (fun k_ => some k_ ≠ (.slice (some ad182) t179.length co17 : Value).ownBlock ∧ some k_ ≠ (.slice Ao21 y186.length co21 : Value).ownBlock) (fun _ => False) rfl rfl ?aO ?aR (fun _ _ h => h) (fun _ h => h.elim) ?aF ?aB ?aS ?aL ?_; (case aR => repeat (first | exact (Kd.R_reads' HO188.out).2.2 | (with_reducible refine Kd.C_alloc ?_ _) | (with_reducible refine Kd.C_drewN ?_ _) | (with_reducible refine Kd.C_drew ?_))); (case aB => exact (by repeat (first | (with_reducible first | exact HB.out | apply below_alloc | apply pw_below_drewN | apply below_drew1) | exact HB.out))); (case aF => exact (fun k_ hk => ⟨Kd.fresh' (Kd.R_lt (by (with_reducible repeat (first | apply Kd.R_alloc | apply Kd.R_drewN | apply Kd.R_drew)); exact HO_6.out)) k_ hk, Kd.fresh' (Kd.R_lt (by (with_reducible repeat (first | apply Kd.R_alloc | apply Kd.R_drewN | apply Kd.R_drew)); exact HO188.out)) k_ hk⟩)); (case aO => exact (by (with_reducible repeat (first | apply Kd.R_alloc | apply Kd.R_drewN | apply Kd.R_drew)); exact HO_5.out)); (case aS => exact (below_size (by repeat (first | (with_reducible first | exact HB.out | apply below_alloc | apply pw_below_drewN | apply below_drew1) | exact HB.out)))); (case aL => have := LMc16.out; omega); intro v190 w20 ho hb hg hat; rw [← Ny189.out] at ho; have n0_ := Aside0.mk (Kd.R_after (ok := (fun k_ => some k_ ≠ (.slice Ao21 y186.length co21 : Value).ownBlock)) (by (with_reducible repeat (first | apply Kd.R_alloc | apply Kd.R_drewN | apply Kd.R_drew)); exact Kd.R_mono HO_6.out (fun _ hk => ⟨hk.2, hk.1⟩)) hg hat); have n1_ := Aside0.mk (Kd.R_after (ok := (fun k_ => some k_ ≠ (.slice (some ad182) t179.length co17 : Value).ownBlock)) (by (with_reducible repeat (first | apply Kd.R_alloc | apply Kd.R_drewN | apply Kd.R_drew)); exact Kd.R_mono HO188.out (fun _ hk => ⟨hk.2, hk.1.2⟩)) hg hat); have n2_ := Aside0.mk (hb); have n3_ := Aside0.mk (ho); clear HO_6; clear HO188; clear HB; clear HO_5; have HO_6 := n0_; have HO188 := n1_; have HB := n2_; have HO191 := n3_; clear n0_ n1_ n2_ n3_; clear ho hb hg hat))
                        go_roundg k1
                        case measure => have := HK1.out; omega
                        case rel => exact ⟨(y189), (wrap64 (x7_1 + 1)), (by first | rfl | (simp; done) | (simp [*]; done)), H', ⟨by have := HK1.out; omega⟩, ⟨by (with_reducible repeat (first | apply Kd.R_alloc | apply Kd.R_drewN | apply Kd.R_drew)); exact Kd.R_mono HO191.out (fun _ hk => hk.1)⟩, ⟨by (with_reducible repeat (first | apply Kd.R_alloc | apply Kd.R_drewN | apply Kd.R_drew)); exact Kd.R_mono HO_6.out (fun _ hk => hk.2)⟩, ⟨by repeat (first | (with_reducible first | exact HB.out | apply below_alloc | apply pw_below_drewN | apply below_drew1) | exact HB.out)⟩⟩
                      · rw [if_neg c16] at H
                        exact absurd H (by simp)
                    · rw [if_neg c15] at H
                      exact absurd H (by simp)
                  · rw [if_neg c14] at H
                    exact absurd H (by simp)
            · rw [if_neg c9] at H
              exact absurd H (by simp)
          · rw [if_neg c8] at H
            have c8b0 : decide (x7_1 < (t179.length : Int)) = false := decide_eq_false c8
            clear c8
            replace H := Option.bind_eq_some_iff.mp H
            obtain ⟨t192, A220, H⟩ := H
            replace H : (if t192 < 0 then (scarflaw03_RankPuts.j1 k1 a1 x5_1 t192 true) else (scarflaw03_RankPuts.j1 k1 a1 x5_1 t192 (decide (t192 > (x5_1.length : Int))))) = some r := H
            have A22 := Aside0.mk A220
            clear A220
            have HC23 := Aside0.mk H
            clear H
            obtain ⟨Ao24, co24, eo24⟩ := Kd.R_slice HO_6.out
            subst eo24
            obtain ⟨Ao25, co25, eo25⟩ := Kd.R_slice HO_5.out
            subst eo25
            go_upto_region 12 with (first | ((with_reducible refine gate_callee (f := 18) rfl ?_); refine goesL_ (some 52) rfl rfl Try.func18 (by kernel_rfl) rfl #[.slice Ao25 x5_1.length co25, .int .i64 a1] rfl (by (try simp only [List.map_toArray, List.map_cons, List.map_nil]); first | done | rfl | (simp only [List.length_drop, List.length_take]; rfl)) ?_; (with_reducible refine (rank_Place.calls k1 _ _ x5_1 a1 t192 _ ?side1 ?side2 A22.out).mono ?_); (case side1 => repeat (first | exact (Kd.R_reads' HO_5.out).2.2 | (with_reducible refine Kd.C_alloc ?_ _) | (with_reducible refine Kd.C_drewN ?_ _) | (with_reducible refine Kd.C_drew ?_))); (case side2 => exact (Kd.R_reads' HO_5.out).2.1); rintro e w' ⟨rfl, ⟨nd, rfl⟩⟩; refine ⟨_, rfl, ?_⟩))
            (try simp only [Act.put, List.setIfInBounds_toArray, List.set_cons_zero, List.set_cons_succ])
            go_cut [60] (fun v60 wc => ∃ (kq : Nat) (x60_22 : Bool), v60 = .bool x60_22 ∧ Aside0 (scarflaw03_RankPuts.j1 kq a1 x5_1 t192 x60_22 = some r) ∧ Aside0 (kq ≤ k1) ∧ Aside0 (Kd.R (Kd.int .i64) 3 wc w.heap.size (fun _ => True) (.slice Ao25 x5_1.length co25) x5_1) ∧ Aside0 (Below w.heap.size w wc))
            case first =>
              have H := HC23.out
              clear HC23
              by_cases c26 : t192 < 0
              · rw [if_pos c26] at H
                have c26b0 : decide (t192 < 0) = true := decide_eq_true c26
                clear c26
                (first | rw [c26b0] | (simp only [i64_w, i32_w]; rw [c26b0]) | skip)
                have H' := Aside0.mk H
                clear H
                go_wp2
                go_meet
                case rel => exact ⟨_, (true), (by first | rfl | (simp; done) | (simp [*]; done)), H', ⟨by have := HK1.out; first | omega | exact Nat.le_refl _⟩, ⟨by (with_reducible repeat (first | apply Kd.R_alloc | apply Kd.R_drewN | apply Kd.R_drew)); exact Kd.R_mono HO_5.out (fun _ hk => trivial)⟩, ⟨by repeat (first | (with_reducible first | exact HB.out | apply below_alloc | apply pw_below_drewN | apply below_drew1) | exact HB.out)⟩⟩
              · rw [if_neg c26] at H
                have c26b0 : decide (t192 < 0) = false := decide_eq_false c26
                clear c26
                (first | rw [c26b0] | (simp only [i64_w, i32_w]; rw [c26b0]) | skip)
                have H' := Aside0.mk H
                clear H
                go_wp2
                go_meet
                case rel => exact ⟨_, (decide (t192 > (x5_1.length : Int))), (by first | rfl | (simp; done) | (simp [*]; done)), H', ⟨by have := HK1.out; first | omega | exact Nat.le_refl _⟩, ⟨by (with_reducible repeat (first | apply Kd.R_alloc | apply Kd.R_drewN | apply Kd.R_drew)); exact Kd.R_mono HO_5.out (fun _ hk => trivial)⟩, ⟨by repeat (first | (with_reducible first | exact HB.out | apply below_alloc | apply pw_below_drewN | apply below_drew1) | exact HB.out)⟩⟩
            case rest =>
              clear HC23
              try clear c1
              try clear p1
              try clear q1
              try clear hx1
              try clear c2
              try clear p2
              try clear c3
              try clear c3b0
              try clear c3b1
              try clear c4
              try clear c4b0
              try clear c4b1
              try clear p6
              try clear c7
              try clear c8
              try clear c8b0
              try clear c9
              try clear c9b0
              try clear c10
              try clear c10b0
              try clear c11
              try clear c12
              try clear c12b0
              try clear c14
              try clear c14b0
              try clear c15
              try clear c15b0
              try clear c16
              try clear c18
              try clear p18
              try clear q18
              try clear hx18
              try clear c26
              try clear c26b0
              try clear hx182_0
              try clear hx183_0
              try clear hx184_0
              try clear hx185_0
              try clear p182
              try clear p183
              try clear p184
              try clear p185
              try clear p2
              try clear q182
              try clear q183
              try clear q184
              try clear q185
              obtain ⟨kq, x60_22, rfl, HA, HJ22, HO_5, HB⟩ := hcut
              cases kq with
              | zero => exact absurd HA.out (by simp [scarflaw03_RankPuts.j1])
              | succ kj22 =>
                have H := HA.out
                clear HA
                simp only [scarflaw03_RankPuts.j1] at H
                by_cases c27 : x60_22 = true
                · subst c27
                  have H1 : (some false) = some r := by rw [if_pos rfl] at H; exact H
                  clear H
                  have H := H1
                  clear H1
                  obtain rfl := Option.some.inj H
                  go_wp2
                  go_ret
                  exact ⟨by first | rfl | (simp [errW_none, errW_some] <;> rfl) | (simp [*, errW_none, errW_some] <;> rfl), by repeat (first | (with_reducible first | exact HB.out | apply below_alloc | apply pw_below_drewN | apply below_drew1) | exact HB.out)⟩
                · replace c27 := Bool.eq_false_iff.mpr c27
                  subst c27
                  have H1 : ((some (([] : List Int) : List Int)).bind fun y193 => (if 0 ≤ t192 then (if t192 ≤ (x5_1.length : Int) then ((some (x5_1.take (t192 : Int).toNat : List Int)).bind fun y196 => (if y193.length + y196.length < 17592186044416 then ((some (y193 ++ y196 : List Int)).bind fun y200 => ((some (([a1] : List Int) : List Int)).bind fun y203 => (if y200.length + y203.length < 17592186044416 then ((some (y200 ++ y203 : List Int)).bind fun y206 => ((some (x5_1.drop (t192 : Int).toNat : List Int)).bind fun y209 => (if y206.length + y209.length < 17592186044416 then (scarflaw03_RankPuts.l1 kj22 a1 x5_1 t192 (y206 ++ y209) 1) else (none)))) else (none)))) else (none))) else (none)) else (none))) = some r := by rw [if_neg (show ¬ (false = true) by decide)] at H; exact H
                  clear H
                  have H := H1
                  clear H1
                  obtain ⟨y193, hy193⟩ : ∃ y_ : List Int, y_ = (([] : List Int)) := ⟨_, rfl⟩
                  replace H : (if 0 ≤ t192 then (if t192 ≤ (x5_1.length : Int) then ((some (x5_1.take (t192 : Int).toNat : List Int)).bind fun y196 => (if y193.length + y196.length < 17592186044416 then ((some (y193 ++ y196 : List Int)).bind fun y200 => ((some (([a1] : List Int) : List Int)).bind fun y203 => (if y200.length + y203.length < 17592186044416 then ((some (y200 ++ y203 : List Int)).bind fun y206 => ((some (x5_1.drop (t192 : Int).toNat : List Int)).bind fun y209 => (if y206.length + y209.length < 17592186044416 then (scarflaw03_RankPuts.l1 kj22 a1 x5_1 t192 (y206 ++ y209) 1) else (none)))) else (none)))) else (none))) else (none)) else (none)) = some r := by first | (rw [hy193]; with_reducible exact H) | (have H2_ := (Option.bind_some _ _).symm.trans H; rw [hy193]; with_reducible exact H2_) | (have H2_ := (Option.bind_some _ _).symm.trans H; with_reducible exact H2_) | with_reducible exact H | (rw [hy193]; exact H) | exact H
                  have Ny193 := Aside0.mk hy193
                  clear hy193
                  by_cases c28 : 0 ≤ t192
                  · rw [if_pos c28] at H
                    have c28b0 := eq_true c28
                    have c28b1 : decide (0 ≤ t192) = true := decide_eq_true c28
                    clear c28
                    by_cases c29 : t192 ≤ (x5_1.length : Int)
                    · rw [if_pos c29] at H
                      have c29b0 := eq_true c29
                      have c29b1 : decide (t192 ≤ (x5_1.length : Int)) = true := decide_eq_true c29
                      clear c29
                      obtain ⟨y196, hy196⟩ : ∃ y_ : List Int, y_ = (x5_1.take (t192 : Int).toNat) := ⟨_, rfl⟩
                      replace H : (if y193.length + y196.length < 17592186044416 then ((some (y193 ++ y196 : List Int)).bind fun y200 => ((some (([a1] : List Int) : List Int)).bind fun y203 => (if y200.length + y203.length < 17592186044416 then ((some (y200 ++ y203 : List Int)).bind fun y206 => ((some (x5_1.drop (t192 : Int).toNat : List Int)).bind fun y209 => (if y206.length + y209.length < 17592186044416 then (scarflaw03_RankPuts.l1 kj22 a1 x5_1 t192 (y206 ++ y209) 1) else (none)))) else (none)))) else (none)) = some r := by first | (rw [hy196]; with_reducible exact H) | (have H2_ := (Option.bind_some _ _).symm.trans H; rw [hy196]; with_reducible exact H2_) | (have H2_ := (Option.bind_some _ _).symm.trans H; with_reducible exact H2_) | with_reducible exact H | (rw [hy196]; exact H) | exact H
                      have Ny196 := Aside0.mk hy196
                      clear hy196
                      by_cases c30 : y193.length + y196.length < 17592186044416
                      · rw [if_pos c30] at H
                        have LMc30 := Aside0.mk c30
                        clear c30
                        obtain ⟨y200, hy200⟩ : ∃ y_ : List Int, y_ = (y193 ++ y196) := ⟨_, rfl⟩
                        replace H : ((some (([a1] : List Int) : List Int)).bind fun y203 => (if y200.length + y203.length < 17592186044416 then ((some (y200 ++ y203 : List Int)).bind fun y206 => ((some (x5_1.drop (t192 : Int).toNat : List Int)).bind fun y209 => (if y206.length + y209.length < 17592186044416 then (scarflaw03_RankPuts.l1 kj22 a1 x5_1 t192 (y206 ++ y209) 1) else (none)))) else (none))) = some r := by first | (rw [hy200]; with_reducible exact H) | (have H2_ := (Option.bind_some _ _).symm.trans H; rw [hy200]; with_reducible exact H2_) | (have H2_ := (Option.bind_some _ _).symm.trans H; with_reducible exact H2_) | with_reducible exact H | (rw [hy200]; exact H) | exact H
                        have Ny200 := Aside0.mk hy200
                        clear hy200
                        obtain ⟨y203, hy203⟩ : ∃ y_ : List Int, y_ = (([a1] : List Int)) := ⟨_, rfl⟩
                        replace H : (if y200.length + y203.length < 17592186044416 then ((some (y200 ++ y203 : List Int)).bind fun y206 => ((some (x5_1.drop (t192 : Int).toNat : List Int)).bind fun y209 => (if y206.length + y209.length < 17592186044416 then (scarflaw03_RankPuts.l1 kj22 a1 x5_1 t192 (y206 ++ y209) 1) else (none)))) else (none)) = some r := by first | (rw [hy203]; with_reducible exact H) | (have H2_ := (Option.bind_some _ _).symm.trans H; rw [hy203]; with_reducible exact H2_) | (have H2_ := (Option.bind_some _ _).symm.trans H; with_reducible exact H2_) | with_reducible exact H | (rw [hy203]; exact H) | exact H
                        have Ny203 := Aside0.mk hy203
                        clear hy203
                        by_cases c31 : y200.length + y203.length < 17592186044416
                        · rw [if_pos c31] at H
                          have LMc31 := Aside0.mk c31
                          clear c31
                          obtain ⟨y206, hy206⟩ : ∃ y_ : List Int, y_ = (y200 ++ y203) := ⟨_, rfl⟩
                          replace H : ((some (x5_1.drop (t192 : Int).toNat : List Int)).bind fun y209 => (if y206.length + y209.length < 17592186044416 then (scarflaw03_RankPuts.l1 kj22 a1 x5_1 t192 (y206 ++ y209) 1) else (none))) = some r := by first | (rw [hy206]; with_reducible exact H) | (have H2_ := (Option.bind_some _ _).symm.trans H; rw [hy206]; with_reducible exact H2_) | (have H2_ := (Option.bind_some _ _).symm.trans H; with_reducible exact H2_) | with_reducible exact H | (rw [hy206]; exact H) | exact H
                          have Ny206 := Aside0.mk hy206
                          clear hy206
                          have c32b0 := eq_true (of_decide_eq_true (by first | (with_reducible assumption) | assumption) : 0 ≤ t192)
                          have c33b0 := eq_true (of_decide_eq_true (by first | (with_reducible assumption) | assumption) : t192 ≤ (x5_1.length : Int))
                          obtain ⟨y209, hy209⟩ : ∃ y_ : List Int, y_ = (x5_1.drop (t192 : Int).toNat) := ⟨_, rfl⟩
                          replace H : (if y206.length + y209.length < 17592186044416 then (scarflaw03_RankPuts.l1 kj22 a1 x5_1 t192 (y206 ++ y209) 1) else (none)) = some r := by first | (rw [hy209]; with_reducible exact H) | (have H2_ := (Option.bind_some _ _).symm.trans H; rw [hy209]; with_reducible exact H2_) | (have H2_ := (Option.bind_some _ _).symm.trans H; with_reducible exact H2_) | with_reducible exact H | (rw [hy209]; exact H) | exact H
                          have Ny209 := Aside0.mk hy209
                          clear hy209
                          by_cases c34 : y206.length + y209.length < 17592186044416
                          · rw [if_pos c34] at H
                            have LMc34 := Aside0.mk c34
                            clear c34
                            obtain ⟨y213, hy213⟩ : ∃ y_ : List Int, y_ = (y206 ++ y209) := ⟨_, rfl⟩
                            replace H : (scarflaw03_RankPuts.l1 kj22 a1 x5_1 t192 y213 1) = some r := by first | (rw [hy213]; with_reducible exact H) | (have H2_ := (Option.bind_some _ _).symm.trans H; rw [hy213]; with_reducible exact H2_) | (have H2_ := (Option.bind_some _ _).symm.trans H; with_reducible exact H2_) | with_reducible exact H | (rw [hy213]; exact H) | exact H
                            have Ny213 := Aside0.mk hy213
                            clear hy213
                            have H' := Aside0.mk H
                            clear H
                            try go_wp2
                            have n0_ := Aside0.mk (Kd.R_drew HO_5.out)
                            have n1_ := Aside0.mk (below_drew1 HB.out)
                            clear HO_5
                            clear HB
                            have HO_5 := n0_
                            have HB := n1_
                            clear n0_ n1_
                            have q36 : (t192 : Int) ≤ ((x5_1.length : Int) : Int) := of_decide_eq_true (by first | (with_reducible assumption) | assumption)
                            obtain ⟨i036, hi036, _, hsz36, _⟩ := info_parts info3
                            have hroom36 : x5_1.length ≤ co25 := (Kd.R_reads' HO_5.out).2.1
                            have hC36 : Kd.C (Kd.int .i64) _ Ao25 x5_1.length x5_1 := (Kd.R_reads' HO_5.out).2.2
                            have hcut36 := cut_to (P := Try.prog) 22 3 .i64 Try.underlying22 hi036 Ao25 x5_1.length co25 t192 (of_decide_eq_true (by first | (with_reducible assumption) | assumption)) q36 hroom36
                            have hr36 := Kd.C_take (m := (t192 : Int).toNat) hC36 (by omega)
                            have hy36 : y196.length = (t192 : Int).toNat := (by rw [Ny196.out, List.length_take]; omega)
                            rw [← Ny196.out] at hr36
                            rw [← hy36] at hcut36
                            have HR199 := Aside0.mk hr36
                            have HC199 := Aside0.mk (show y196.length ≤ co25 from by omega)
                            clear hr36 hC36 hroom36 hi036 hsz36
                            have KY36 := Aside0.mk hy36
                            clear hy36
                            have KL36 := Aside0.mk (show (t192 : Int).toNat ≤ x5_1.length from by omega)
                            replace q36 := eq_true q36
                            have q37 : (t192 : Int) ≤ ((x5_1.length : Int) : Int) := of_decide_eq_true (by first | (with_reducible assumption) | assumption)
                            obtain ⟨i037, hi037, _, hsz37, _⟩ := info_parts info3
                            have hroom37 : x5_1.length ≤ co25 := (Kd.R_reads' HO_5.out).2.1
                            have hC37 : Kd.C (Kd.int .i64) _ Ao25 x5_1.length x5_1 := (Kd.R_reads' HO_5.out).2.2
                            have q037 : (0 : Int) ≤ (t192 : Int) := of_decide_eq_true (by first | (with_reducible assumption) | assumption)
                            have hcut37 := cut_from (P := Try.prog) 22 3 .i64 Try.underlying22 hi037 1 hsz37 Ao25 x5_1.length co25 t192 q037 q37
                            have hr37 := Kd.C_drop (m := (t192 : Int).toNat) (c := co25) hC37 (by omega) hroom37
                            obtain ⟨A37, hA37⟩ : ∃ A1, A1 = (if co25 = (t192 : Int).toNat then Ao25 else (Ao25 : Option Addr).map (·.add ((t192 : Int).toNat * 1))) := ⟨_, rfl⟩
                            obtain ⟨c37, hc37⟩ : ∃ c1, c1 = co25 - (t192 : Int).toNat := ⟨_, rfl⟩
                            have hy37 : y209.length = x5_1.length - (t192 : Int).toNat := (by rw [Ny209.out, List.length_drop] <;> omega)
                            rw [show (x5_1).drop (t192 : Int).toNat = y209 from Ny209.out.symm] at hr37
                            replace hr37 : Kd.C (Kd.int .i64) _ A37 y209.length y209 := (by rw [hA37]; exact hr37)
                            rw [← hy37, ← hA37, ← hc37] at hcut37
                            have HR212 := Aside0.mk hr37
                            have HC212 := Aside0.mk (show y209.length ≤ c37 from by rw [hy37, hc37]; exact Nat.sub_le_sub_right hroom37 _)
                            clear hr37 hC37 hroom37 hi037 hsz37 hc37
                            have KY37 := Aside0.mk hy37
                            have KA37 := Aside0.mk hA37
                            clear hy37 hA37
                            have KL37 := Aside0.mk (show (t192 : Int).toNat ≤ x5_1.length from by omega)
                            replace q37 := eq_true q37
                            refine start_ (n := 13) (S := fun w' => True) (ds := []) #[false, false, false, false, false, false, false, false, false, false, false, false, false] (by kernel_rfl) rfl rfl trivial (fun hHeld => ?_); refine with_tabW scarflaw03_RankPuts.tab14 scarflaw03_RankPuts.bits14 (fun HT_ HW_ => ?_)
                            generalize wc.drew = w35 at HO_5 HB HR199 HR212 hHeld ⊢
                            refine pure_ (i := 1) (N := some 62) (v := ?_) (a' := ?_) #[false, true, false, false, false, false, false, false, false, false, false, false, false] rfl rfl (any_of HT_.out (by kernel_rfl)) (fun _ _ _ h => h) (Or.inl ⟨by rfl, ?_⟩) ?_ ?_
                            rotate_left
                            · intro w'
                              go_simp
                              with_reducible rfl
                            rotate_left
                            · simp only [Act.put, List.setIfInBounds_toArray, List.set_cons_zero, List.set_cons_succ, i64_w, i32_w]
                              rfl
                            refine pure_ (i := 2) (N := some 63) (v := ?_) (a' := ?_) #[false, true, true, false, false, false, false, false, false, false, false, false, false] rfl rfl (any_of HT_.out (by kernel_rfl)) (fun _ _ _ h => h) (Or.inl ⟨by rfl, ?_⟩) ?_ ?_
                            rotate_left
                            · intro w'
                              go_simp
                              with_reducible rfl
                            rotate_left
                            · simp only [Act.put, List.setIfInBounds_toArray, List.set_cons_zero, List.set_cons_succ, i64_w, i32_w]
                              rfl
                            refine pure_ (i := 3) (N := some 64) (v := ?_) (a' := ?_) #[false, true, true, true, false, false, false, false, false, false, false, false, false] rfl rfl (any_of HT_.out (by kernel_rfl)) (fun _ _ _ h => h) (Or.inl ⟨by rfl, ?_⟩) ?_ ?_
                            rotate_left
                            · intro w'
                              go_simp
                              with_reducible rfl
                            rotate_left
                            · simp only [Act.put, List.setIfInBounds_toArray, List.set_cons_zero, List.set_cons_succ, i64_w, i32_w]
                              rfl
                            refine pure_ (i := 5) (N := some 66) (v := ?_) (a' := ?_) #[false, true, true, true, false, true, false, false, false, false, false, false, false] rfl rfl (any_of HT_.out (by kernel_rfl)) (fun _ _ _ h => h) (Or.inl ⟨by rfl, ?_⟩) ?_ ?_
                            rotate_left
                            · intro w'
                              go_simp
                              with_reducible rfl
                            rotate_left
                            · simp only [Act.put, List.setIfInBounds_toArray, List.set_cons_zero, List.set_cons_succ, i64_w, i32_w]
                              rfl
                            refine pure_ (i := 8) (N := some 69) (v := ?_) (a' := ?_) #[false, true, true, true, false, true, false, false, true, false, false, false, false] rfl rfl (any_of HT_.out (by kernel_rfl)) (fun _ _ _ h => h) (Or.inl ⟨by rfl, ?_⟩) ?_ ?_
                            rotate_left
                            · intro w'
                              go_simp
                              with_reducible rfl
                            rotate_left
                            · simp only [Act.put, List.setIfInBounds_toArray, List.set_cons_zero, List.set_cons_succ, i64_w, i32_w]
                              rfl
                            refine pure_ (i := 9) (N := some 70) (v := ?_) (a' := ?_) #[false, true, true, true, false, true, false, false, true, true, false, false, false] rfl rfl (any_of HT_.out (by kernel_rfl)) (fun _ _ _ h => h) (Or.inl ⟨by rfl, ?_⟩) ?_ ?_
                            rotate_left
                            · intro w'
                              go_simp
                              with_reducible rfl
                            rotate_left
                            · simp only [Act.put, List.setIfInBounds_toArray, List.set_cons_zero, List.set_cons_succ, i64_w, i32_w]
                              rfl
                            refine pure_ (i := 10) (N := some 71) (v := ?_) (a' := ?_) #[false, true, true, true, false, true, false, false, true, true, true, false, false] rfl rfl (any_of HT_.out (by kernel_rfl)) (fun _ _ _ h => h) (Or.inl ⟨by rfl, ?_⟩) ?_ ?_
                            rotate_left
                            · intro w'
                              go_simp
                              with_reducible rfl
                            rotate_left
                            · simp only [Act.put, List.setIfInBounds_toArray, List.set_cons_zero, List.set_cons_succ, i64_w, i32_w]
                              rfl
                            refine join_ (σ := Value × Value × Value) 3 #[true, true, true, true, true, true, true, false, true, true, true, false, false] (fun s_ => [(61, s_.1), (65, s_.2.1), (67, s_.2.2)]) (fun s_ w' => (Kd.R (Kd.int .i64) 3 w' w.heap.size (fun k_ => some k_ ≠ (s_.2.2 : Value).ownBlock ∧ some k_ ≠ (.slice Ao25 x5_1.length co25 : Value).ownBlock) s_.2.1 y200) ∧ (Kd.R (Kd.int .i64) 3 w' w.heap.size (fun k_ => some k_ ≠ (s_.2.1 : Value).ownBlock ∧ some k_ ≠ (.slice Ao25 x5_1.length co25 : Value).ownBlock) s_.2.2 y203) ∧ (Kd.R (Kd.int .i64) 3 w' w.heap.size (fun k_ => some k_ ≠ (s_.2.1 : Value).ownBlock ∧ some k_ ≠ (s_.2.2 : Value).ownBlock) (.slice Ao25 x5_1.length co25) x5_1) ∧ (Below w.heap.size w w')) ?_ ?_
                            rotate_left
                            · intro hCont
                              refine two_ (i := 0) (j := 6) (Ni := some 61) (Nj := some 67) #[true, true, true, true, false, true, false, false, true, true, true, false, false] #[false, true, true, true, false, true, true, false, true, true, true, false, false] rfl rfl rfl rfl (two_of HT_.out (by kernel_rfl)) (by decide) (by decide) (fun K hK => ?_) (fun K hK => ?_)
                              · skip
                                refine Kd.R_lit_step (Kd.int .i64) _ 3 ?hg (N := 61) ?hd (xs := ([] : List Int)) (inner := []) (ok := fun _ => True) (okp := fun _ => True) ?hr ?hp (fun _ hk => hk) trivial (Below.refl _ _) (Nat.le_refl _) (by simp) ?_; (case hd => rfl); (case hg => rfl); (case hr => first | (go_simp; done) | (go_simp; rfl)); (case hp => exact (Reps.none _ _))
                                intro v194 w38 ho39 hb hg_ hnew_
                                clear hg_ hnew_
                                (first | rw [← Ny193.out] at ho39 | (simp only [Int.reduceToNat] at ho39; rw [← Ny193.out] at ho39))
                                have n0_ := Aside0.mk (Kd.R_elder' (by (with_reducible repeat (first | apply Kd.R_alloc | apply Kd.R_drewN | apply Kd.R_drew)); exact HO_5.out) (Kd.R_base ho39) hb)
                                have n1_ := Aside0.mk (Kd.R_lower (Kd.R_new' ho39 (Kd.R_lt (by (with_reducible repeat (first | apply Kd.R_alloc | apply Kd.R_drewN | apply Kd.R_drew)); exact HO_5.out))) (below_size (by repeat (first | (with_reducible first | exact HB.out | apply below_alloc | apply pw_below_drewN | apply below_drew1) | exact HB.out))))
                                have n2_ := Aside0.mk (Kd.C_below (by repeat (first | (with_reducible exact HR199.out) | (with_reducible refine Kd.C_alloc ?_ _) | (with_reducible refine Kd.C_drewN ?_ _) | (with_reducible refine Kd.C_drew ?_) | exact HR199.out)) hb)
                                have n3_ := Aside0.mk (Kd.C_below (by repeat (first | (with_reducible exact HR212.out) | (with_reducible refine Kd.C_alloc ?_ _) | (with_reducible refine Kd.C_drewN ?_ _) | (with_reducible refine Kd.C_drew ?_) | exact HR212.out)) hb)
                                have n4_ := Aside0.mk (below_step (by repeat (first | (with_reducible first | exact HB.out | apply below_alloc | apply pw_below_drewN | apply below_drew1) | exact HB.out)) hb)
                                clear HO_5
                                clear HR199
                                clear HR212
                                clear HB
                                have HO_5 := n0_
                                have HO195 := n1_
                                have HR199 := n2_
                                have HR212 := n3_
                                have HB := n4_
                                clear n0_ n1_ n2_ n3_ n4_
                                clear hb ho39
                                refine hK.out _ _ trivial (fun hHeld => ?_)
                                clear hK K
                                refine norm_ (a' := ?_) ?_ ?_
                                rotate_left
                                · show Act.put _ (some 61) _ = _
                                  simp only [Act.put, List.setIfInBounds_toArray, List.set_cons_zero, List.set_cons_succ, i64_w, i32_w]
                                  rfl
                                refine two_ (i := 4) (j := 6) (Ni := some 65) (Nj := some 67) #[true, true, true, true, true, true, false, false, true, true, true, false, false] #[true, true, true, true, false, true, true, false, true, true, true, false, false] rfl rfl rfl rfl (two_of HT_.out (by kernel_rfl)) (by decide) (by decide) (fun K hK => ?_) (fun K hK => ?_)
                                · skip
                                  refine Kd.R_append_rows_step (Kd.int .i64) (w0 := w) w.heap.size (by rfl) (.tmp 61) (.tmp 64) 22 3 (.int .i64 0) 8 rfl Try.underlying22 info3 rfl (by decide) (by omega) v194 y193 y196 _ _ _ (fun k_ => some k_ ≠ (.slice Ao25 x5_1.length co25 : Value).ownBlock) (fun _ => False) rfl rfl ?aO ?aR (fun _ _ h => h) (fun _ h => h.elim) ?aF ?aB ?aS ?aL ?_
                                  (case aR => repeat (first | exact (by repeat (first | (with_reducible exact HR199.out) | (with_reducible refine Kd.C_alloc ?_ _) | (with_reducible refine Kd.C_drewN ?_ _) | (with_reducible refine Kd.C_drew ?_) | exact HR199.out)) | (with_reducible refine Kd.C_alloc ?_ _) | (with_reducible refine Kd.C_drewN ?_ _) | (with_reducible refine Kd.C_drew ?_)))
                                  (case aB => exact (by repeat (first | (with_reducible first | exact HB.out | apply below_alloc | apply pw_below_drewN | apply below_drew1) | exact HB.out)))
                                  (case aF => exact (fun k_ hk => Kd.fresh' (Kd.R_lt (by (with_reducible repeat (first | apply Kd.R_alloc | apply Kd.R_drewN | apply Kd.R_drew)); exact HO_5.out)) k_ hk))
                                  (case aO => exact (by (with_reducible repeat (first | apply Kd.R_alloc | apply Kd.R_drewN | apply Kd.R_drew)); exact Kd.R_mono HO195.out (fun _ hk => hk.2)))
                                  (case aS => exact (below_size (by repeat (first | (with_reducible first | exact HB.out | apply below_alloc | apply pw_below_drewN | apply below_drew1) | exact HB.out))))
                                  (case aL => have := LMc30.out; omega)
                                  intro v201 w40 ho hb hg hat
                                  rw [← Ny200.out] at ho
                                  have n0_ := Aside0.mk (Kd.R_after (ok := (fun _ => True)) (by (with_reducible repeat (first | apply Kd.R_alloc | apply Kd.R_drewN | apply Kd.R_drew)); exact HO_5.out) hg hat)
                                  have n1_ := Aside0.mk (hb)
                                  have n2_ := Aside0.mk ((show Kd.C (Kd.int .i64) w40 Ao25 y196.length y196 from by rw [Ny196.out]; exact Kd.C_take (m := (t192 : Int).toNat) ((Kd.R_reads' (Kd.R_after (ok := (fun _ => True)) (by (with_reducible repeat (first | apply Kd.R_alloc | apply Kd.R_drewN | apply Kd.R_drew)); exact HO_5.out) hg hat)).2.2) KL36.out))
                                  have n3_ := Aside0.mk ((show Kd.C (Kd.int .i64) w40 A37 y209.length y209 from by rw [Ny209.out, KA37.out]; exact Kd.C_drop (m := (t192 : Int).toNat) (c := co25) ((Kd.R_reads' (Kd.R_after (ok := (fun _ => True)) (by (with_reducible repeat (first | apply Kd.R_alloc | apply Kd.R_drewN | apply Kd.R_drew)); exact HO_5.out) hg hat)).2.2) KL37.out ((Kd.R_reads' (Kd.R_after (ok := (fun _ => True)) (by (with_reducible repeat (first | apply Kd.R_alloc | apply Kd.R_drewN | apply Kd.R_drew)); exact HO_5.out) hg hat)).2.1)))
                                  have n4_ := Aside0.mk (ho)
                                  clear HO_5
                                  clear HB
                                  clear HR199
                                  clear HR212
                                  clear HO195
                                  have HO_5 := n0_
                                  have HB := n1_
                                  have HR199 := n2_
                                  have HR212 := n3_
                                  have HO202 := n4_
                                  clear n0_ n1_ n2_ n3_ n4_
                                  clear ho hb hg hat
                                  refine hK.out _ _ trivial (fun hHeld => ?_)
                                  clear hK K
                                  refine norm_ (a' := ?_) ?_ ?_
                                  rotate_left
                                  · show Act.put _ (some 65) _ = _
                                    simp only [Act.put, List.setIfInBounds_toArray, List.set_cons_zero, List.set_cons_succ, i64_w, i32_w]
                                    rfl
                                  refine one_ (i := 6) (N := some 67) #[true, true, true, true, true, true, true, false, true, true, true, false, false] rfl rfl (one_of HT_.out (by kernel_rfl)) (by decide) (fun K hK => ?_)
                                  refine Kd.R_lit_step (Kd.int .i64) _ 3 ?hg (N := 67) ?hd (xs := ([a1] : List Int)) (inner := [.int .i64 a1]) (ok := fun _ => True) (okp := fun _ => True) ?hr ?hp (fun _ hk => hk) trivial (Below.refl _ _) (Nat.le_refl _) (by simp) ?_; (case hd => rfl); (case hg => rfl); (case hr => first | (go_simp; done) | (go_simp; rfl)); (case hp => exact (Reps.one (show Kd.M (Kd.int .i64) _ _ _ a1 [.int .i64 a1] from rfl) (Reps.none _ _)))
                                  intro v204 w41 ho42 hb hg_ hnew_
                                  clear hg_ hnew_
                                  (first | rw [← Ny203.out] at ho42 | (simp only [Int.reduceToNat] at ho42; rw [← Ny203.out] at ho42))
                                  have n0_ := Aside0.mk (Kd.R_elder' (by (with_reducible repeat (first | apply Kd.R_alloc | apply Kd.R_drewN | apply Kd.R_drew)); exact HO_5.out) (Kd.R_base ho42) hb)
                                  have n1_ := Aside0.mk (Kd.R_elder' (by (with_reducible repeat (first | apply Kd.R_alloc | apply Kd.R_drewN | apply Kd.R_drew)); exact HO202.out) (Kd.R_base ho42) hb)
                                  have n2_ := Aside0.mk (Kd.R_lower (Kd.R_new' (Kd.R_new' ho42 (Kd.R_lt (by (with_reducible repeat (first | apply Kd.R_alloc | apply Kd.R_drewN | apply Kd.R_drew)); exact HO_5.out))) (Kd.R_lt (by (with_reducible repeat (first | apply Kd.R_alloc | apply Kd.R_drewN | apply Kd.R_drew)); exact HO202.out))) (below_size (by repeat (first | (with_reducible first | exact HB.out | apply below_alloc | apply pw_below_drewN | apply below_drew1) | exact HB.out))))
                                  have n3_ := Aside0.mk (Kd.C_below (by repeat (first | (with_reducible exact HR199.out) | (with_reducible refine Kd.C_alloc ?_ _) | (with_reducible refine Kd.C_drewN ?_ _) | (with_reducible refine Kd.C_drew ?_) | exact HR199.out)) hb)
                                  have n4_ := Aside0.mk (Kd.C_below (by repeat (first | (with_reducible exact HR212.out) | (with_reducible refine Kd.C_alloc ?_ _) | (with_reducible refine Kd.C_drewN ?_ _) | (with_reducible refine Kd.C_drew ?_) | exact HR212.out)) hb)
                                  have n5_ := Aside0.mk (below_step (by repeat (first | (with_reducible first | exact HB.out | apply below_alloc | apply pw_below_drewN | apply below_drew1) | exact HB.out)) hb)
                                  clear HO_5
                                  clear HO202
                                  clear HR199
                                  clear HR212
                                  clear HB
                                  have HO_5 := n0_
                                  have HO202 := n1_
                                  have HO205 := n2_
                                  have HR199 := n3_
                                  have HR212 := n4_
                                  have HB := n5_
                                  clear n0_ n1_ n2_ n3_ n4_ n5_
                                  clear hb ho42
                                  refine hK.out _ _ trivial (fun hHeld => ?_)
                                  clear hK K
                                  refine norm_ (a' := ?_) ?_ ?_
                                  rotate_left
                                  · show Act.put _ (some 67) _ = _
                                    simp only [Act.put, List.setIfInBounds_toArray, List.set_cons_zero, List.set_cons_succ, i64_w, i32_w]
                                    rfl
                                  exact norm_ (by simp only [putAll, Act.put, List.setIfInBounds_toArray, List.set_cons_zero, List.set_cons_succ]) (hCont (v194, v201, v204) _ ⟨(by (with_reducible repeat (first | apply Kd.R_alloc | apply Kd.R_drewN | apply Kd.R_drew)); exact Kd.R_mono HO202.out (fun _ hk => ⟨hk.2, hk.1⟩)), (by (with_reducible repeat (first | apply Kd.R_alloc | apply Kd.R_drewN | apply Kd.R_drew)); exact Kd.R_mono HO205.out (fun _ hk => ⟨hk.2, hk.1.2⟩)), (by (with_reducible repeat (first | apply Kd.R_alloc | apply Kd.R_drewN | apply Kd.R_drew)); exact Kd.R_mono HO_5.out (fun _ hk => ⟨hk.1.2, hk.2⟩)), (by repeat (first | (with_reducible first | exact HB.out | apply below_alloc | apply pw_below_drewN | apply below_drew1) | exact HB.out))⟩)
                                · skip
                                  refine Kd.R_lit_step (Kd.int .i64) _ 3 ?hg (N := 67) ?hd (xs := ([a1] : List Int)) (inner := [.int .i64 a1]) (ok := fun _ => True) (okp := fun _ => True) ?hr ?hp (fun _ hk => hk) trivial (Below.refl _ _) (Nat.le_refl _) (by simp) ?_; (case hd => rfl); (case hg => rfl); (case hr => first | (go_simp; done) | (go_simp; rfl)); (case hp => exact (Reps.one (show Kd.M (Kd.int .i64) _ _ _ a1 [.int .i64 a1] from rfl) (Reps.none _ _)))
                                  intro v204 w40 ho41 hb hg_ hnew_
                                  clear hg_ hnew_
                                  (first | rw [← Ny203.out] at ho41 | (simp only [Int.reduceToNat] at ho41; rw [← Ny203.out] at ho41))
                                  have n0_ := Aside0.mk (Kd.R_elder' (by (with_reducible repeat (first | apply Kd.R_alloc | apply Kd.R_drewN | apply Kd.R_drew)); exact HO_5.out) (Kd.R_base ho41) hb)
                                  have n1_ := Aside0.mk (Kd.R_elder' (by (with_reducible repeat (first | apply Kd.R_alloc | apply Kd.R_drewN | apply Kd.R_drew)); exact HO195.out) (Kd.R_base ho41) hb)
                                  have n2_ := Aside0.mk (Kd.R_lower (Kd.R_new' (Kd.R_new' ho41 (Kd.R_lt (by (with_reducible repeat (first | apply Kd.R_alloc | apply Kd.R_drewN | apply Kd.R_drew)); exact HO_5.out))) (Kd.R_lt (by (with_reducible repeat (first | apply Kd.R_alloc | apply Kd.R_drewN | apply Kd.R_drew)); exact HO195.out))) (below_size (by repeat (first | (with_reducible first | exact HB.out | apply below_alloc | apply pw_below_drewN | apply below_drew1) | exact HB.out))))
                                  have n3_ := Aside0.mk (Kd.C_below (by repeat (first | (with_reducible exact HR199.out) | (with_reducible refine Kd.C_alloc ?_ _) | (with_reducible refine Kd.C_drewN ?_ _) | (with_reducible refine Kd.C_drew ?_) | exact HR199.out)) hb)
                                  have n4_ := Aside0.mk (Kd.C_below (by repeat (first | (with_reducible exact HR212.out) | (with_reducible refine Kd.C_alloc ?_ _) | (with_reducible refine Kd.C_drewN ?_ _) | (with_reducible refine Kd.C_drew ?_) | exact HR212.out)) hb)
                                  have n5_ := Aside0.mk (below_step (by repeat (first | (with_reducible first | exact HB.out | apply below_alloc | apply pw_below_drewN | apply below_drew1) | exact HB.out)) hb)
                                  clear HO_5
                                  clear HO195
                                  clear HR199
                                  clear HR212
                                  clear HB
                                  have HO_5 := n0_
                                  have HO195 := n1_
                                  have HO205 := n2_
                                  have HR199 := n3_
                                  have HR212 := n4_
                                  have HB := n5_
                                  clear n0_ n1_ n2_ n3_ n4_ n5_
                                  clear hb ho41
                                  refine hK.out _ _ trivial (fun hHeld => ?_)
                                  clear hK K
                                  refine norm_ (a' := ?_) ?_ ?_
                                  rotate_left
                                  · show Act.put _ (some 67) _ = _
                                    simp only [Act.put, List.setIfInBounds_toArray, List.set_cons_zero, List.set_cons_succ, i64_w, i32_w]
                                    rfl
                                  refine one_ (i := 4) (N := some 65) #[true, true, true, true, true, true, true, false, true, true, true, false, false] rfl rfl (one_of HT_.out (by kernel_rfl)) (by decide) (fun K hK => ?_)
                                  refine Kd.R_append_rows_step (Kd.int .i64) (w0 := w) w.heap.size (by rfl) (.tmp 61) (.tmp 64) 22 3 (.int .i64 0) 8 rfl Try.underlying22 info3 rfl (by decide) (by omega) v194 y193 y196 _ _ _ (fun k_ => some k_ ≠ (.slice Ao25 x5_1.length co25 : Value).ownBlock ∧ some k_ ≠ (v204 : Value).ownBlock) (fun _ => False) rfl rfl ?aO ?aR (fun _ _ h => h) (fun _ h => h.elim) ?aF ?aB ?aS ?aL ?_
                                  (case aR => repeat (first | exact (by repeat (first | (with_reducible exact HR199.out) | (with_reducible refine Kd.C_alloc ?_ _) | (with_reducible refine Kd.C_drewN ?_ _) | (with_reducible refine Kd.C_drew ?_) | exact HR199.out)) | (with_reducible refine Kd.C_alloc ?_ _) | (with_reducible refine Kd.C_drewN ?_ _) | (with_reducible refine Kd.C_drew ?_)))
                                  (case aB => exact (by repeat (first | (with_reducible first | exact HB.out | apply below_alloc | apply pw_below_drewN | apply below_drew1) | exact HB.out)))
                                  (case aF => exact (fun k_ hk => ⟨Kd.fresh' (Kd.R_lt (by (with_reducible repeat (first | apply Kd.R_alloc | apply Kd.R_drewN | apply Kd.R_drew)); exact HO_5.out)) k_ hk, Kd.fresh' (Kd.R_lt (by (with_reducible repeat (first | apply Kd.R_alloc | apply Kd.R_drewN | apply Kd.R_drew)); exact HO205.out)) k_ hk⟩))
                                  (case aO => exact (by (with_reducible repeat (first | apply Kd.R_alloc | apply Kd.R_drewN | apply Kd.R_drew)); exact Kd.R_mono HO195.out (fun _ hk => ⟨hk.1.2, hk.2⟩)))
                                  (case aS => exact (below_size (by repeat (first | (with_reducible first | exact HB.out | apply below_alloc | apply pw_below_drewN | apply below_drew1) | exact HB.out))))
                                  (case aL => have := LMc30.out; omega)
                                  intro v201 w42 ho hb hg hat
                                  rw [← Ny200.out] at ho
                                  have n0_ := Aside0.mk (Kd.R_after (ok := (fun k_ => some k_ ≠ (v204 : Value).ownBlock)) (by (with_reducible repeat (first | apply Kd.R_alloc | apply Kd.R_drewN | apply Kd.R_drew)); exact Kd.R_mono HO_5.out (fun _ hk => ⟨hk.2, hk.1.2⟩)) hg hat)
                                  have n1_ := Aside0.mk (Kd.R_after (ok := (fun k_ => some k_ ≠ (.slice Ao25 x5_1.length co25 : Value).ownBlock)) (by (with_reducible repeat (first | apply Kd.R_alloc | apply Kd.R_drewN | apply Kd.R_drew)); exact Kd.R_mono HO205.out (fun _ hk => ⟨hk.1.2, hk.2⟩)) hg hat)
                                  have n2_ := Aside0.mk (hb)
                                  have n3_ := Aside0.mk ((show Kd.C (Kd.int .i64) w42 Ao25 y196.length y196 from by rw [Ny196.out]; exact Kd.C_take (m := (t192 : Int).toNat) ((Kd.R_reads' (Kd.R_after (ok := (fun k_ => some k_ ≠ (v204 : Value).ownBlock)) (by (with_reducible repeat (first | apply Kd.R_alloc | apply Kd.R_drewN | apply Kd.R_drew)); exact Kd.R_mono HO_5.out (fun _ hk => ⟨hk.2, hk.1.2⟩)) hg hat)).2.2) KL36.out))
                                  have n4_ := Aside0.mk ((show Kd.C (Kd.int .i64) w42 A37 y209.length y209 from by rw [Ny209.out, KA37.out]; exact Kd.C_drop (m := (t192 : Int).toNat) (c := co25) ((Kd.R_reads' (Kd.R_after (ok := (fun k_ => some k_ ≠ (v204 : Value).ownBlock)) (by (with_reducible repeat (first | apply Kd.R_alloc | apply Kd.R_drewN | apply Kd.R_drew)); exact Kd.R_mono HO_5.out (fun _ hk => ⟨hk.2, hk.1.2⟩)) hg hat)).2.2) KL37.out ((Kd.R_reads' (Kd.R_after (ok := (fun k_ => some k_ ≠ (v204 : Value).ownBlock)) (by (with_reducible repeat (first | apply Kd.R_alloc | apply Kd.R_drewN | apply Kd.R_drew)); exact Kd.R_mono HO_5.out (fun _ hk => ⟨hk.2, hk.1.2⟩)) hg hat)).2.1)))
                                  have n5_ := Aside0.mk (ho)
                                  clear HO_5
                                  clear HO205
                                  clear HB
                                  clear HR199
                                  clear HR212
                                  clear HO195
                                  have HO_5 := n0_
                                  have HO205 := n1_
                                  have HB := n2_
                                  have HR199 := n3_
                                  have HR212 := n4_
                                  have HO202 := n5_
                                  clear n0_ n1_ n2_ n3_ n4_ n5_
                                  clear ho hb hg hat
                                  refine hK.out _ _ trivial (fun hHeld => ?_)
                                  clear hK K
                                  refine norm_ (a' := ?_) ?_ ?_
                                  rotate_left
                                  · show Act.put _ (some 65) _ = _
                                    simp only [Act.put, List.setIfInBounds_toArray, List.set_cons_zero, List.set_cons_succ, i64_w, i32_w]
                                    rfl
                                  exact norm_ (by simp only [putAll, Act.put, List.setIfInBounds_toArray, List.set_cons_zero, List.set_cons_succ]) (hCont (v194, v201, v204) _ ⟨(by (with_reducible repeat (first | apply Kd.R_alloc | apply Kd.R_drewN | apply Kd.R_drew)); exact Kd.R_mono HO202.out (fun _ hk => ⟨hk.2, hk.1⟩)), (by (with_reducible repeat (first | apply Kd.R_alloc | apply Kd.R_drewN | apply Kd.R_drew)); exact Kd.R_mono HO205.out (fun _ hk => ⟨hk.2, hk.1⟩)), (by (with_reducible repeat (first | apply Kd.R_alloc | apply Kd.R_drewN | apply Kd.R_drew)); exact Kd.R_mono HO_5.out (fun _ hk => ⟨hk.2, hk.1⟩)), (by repeat (first | (with_reducible first | exact HB.out | apply below_alloc | apply pw_below_drewN | apply below_drew1) | exact HB.out))⟩)
                              · skip
                                refine Kd.R_lit_step (Kd.int .i64) _ 3 ?hg (N := 67) ?hd (xs := ([a1] : List Int)) (inner := [.int .i64 a1]) (ok := fun _ => True) (okp := fun _ => True) ?hr ?hp (fun _ hk => hk) trivial (Below.refl _ _) (Nat.le_refl _) (by simp) ?_; (case hd => rfl); (case hg => rfl); (case hr => first | (go_simp; done) | (go_simp; rfl)); (case hp => exact (Reps.one (show Kd.M (Kd.int .i64) _ _ _ a1 [.int .i64 a1] from rfl) (Reps.none _ _)))
                                intro v204 w38 ho39 hb hg_ hnew_
                                clear hg_ hnew_
                                (first | rw [← Ny203.out] at ho39 | (simp only [Int.reduceToNat] at ho39; rw [← Ny203.out] at ho39))
                                have n0_ := Aside0.mk (Kd.R_elder' (by (with_reducible repeat (first | apply Kd.R_alloc | apply Kd.R_drewN | apply Kd.R_drew)); exact HO_5.out) (Kd.R_base ho39) hb)
                                have n1_ := Aside0.mk (Kd.R_lower (Kd.R_new' ho39 (Kd.R_lt (by (with_reducible repeat (first | apply Kd.R_alloc | apply Kd.R_drewN | apply Kd.R_drew)); exact HO_5.out))) (below_size (by repeat (first | (with_reducible first | exact HB.out | apply below_alloc | apply pw_below_drewN | apply below_drew1) | exact HB.out))))
                                have n2_ := Aside0.mk (Kd.C_below (by repeat (first | (with_reducible exact HR199.out) | (with_reducible refine Kd.C_alloc ?_ _) | (with_reducible refine Kd.C_drewN ?_ _) | (with_reducible refine Kd.C_drew ?_) | exact HR199.out)) hb)
                                have n3_ := Aside0.mk (Kd.C_below (by repeat (first | (with_reducible exact HR212.out) | (with_reducible refine Kd.C_alloc ?_ _) | (with_reducible refine Kd.C_drewN ?_ _) | (with_reducible refine Kd.C_drew ?_) | exact HR212.out)) hb)
                                have n4_ := Aside0.mk (below_step (by repeat (first | (with_reducible first | exact HB.out | apply below_alloc | apply pw_below_drewN | apply below_drew1) | exact HB.out)) hb)
                                clear HO_5
                                clear HR199
                                clear HR212
                                clear HB
                                have HO_5 := n0_
                                have HO205 := n1_
                                have HR199 := n2_
                                have HR212 := n3_
                                have HB := n4_
                                clear n0_ n1_ n2_ n3_ n4_
                                clear hb ho39
                                refine hK.out _ _ trivial (fun hHeld => ?_)
                                clear hK K
                                refine norm_ (a' := ?_) ?_ ?_
                                rotate_left
                                · show Act.put _ (some 67) _ = _
                                  simp only [Act.put, List.setIfInBounds_toArray, List.set_cons_zero, List.set_cons_succ, i64_w, i32_w]
                                  rfl
                                refine one_ (i := 0) (N := some 61) #[true, true, true, true, false, true, true, false, true, true, true, false, false] rfl rfl (one_of HT_.out (by kernel_rfl)) (by decide) (fun K hK => ?_)
                                refine Kd.R_lit_step (Kd.int .i64) _ 3 ?hg (N := 61) ?hd (xs := ([] : List Int)) (inner := []) (ok := fun _ => True) (okp := fun _ => True) ?hr ?hp (fun _ hk => hk) trivial (Below.refl _ _) (Nat.le_refl _) (by simp) ?_; (case hd => rfl); (case hg => rfl); (case hr => first | (go_simp; done) | (go_simp; rfl)); (case hp => exact (Reps.none _ _))
                                intro v194 w40 ho41 hb hg_ hnew_
                                clear hg_ hnew_
                                (first | rw [← Ny193.out] at ho41 | (simp only [Int.reduceToNat] at ho41; rw [← Ny193.out] at ho41))
                                have n0_ := Aside0.mk (Kd.R_elder' (by (with_reducible repeat (first | apply Kd.R_alloc | apply Kd.R_drewN | apply Kd.R_drew)); exact HO_5.out) (Kd.R_base ho41) hb)
                                have n1_ := Aside0.mk (Kd.R_elder' (by (with_reducible repeat (first | apply Kd.R_alloc | apply Kd.R_drewN | apply Kd.R_drew)); exact HO205.out) (Kd.R_base ho41) hb)
                                have n2_ := Aside0.mk (Kd.R_lower (Kd.R_new' (Kd.R_new' ho41 (Kd.R_lt (by (with_reducible repeat (first | apply Kd.R_alloc | apply Kd.R_drewN | apply Kd.R_drew)); exact HO_5.out))) (Kd.R_lt (by (with_reducible repeat (first | apply Kd.R_alloc | apply Kd.R_drewN | apply Kd.R_drew)); exact HO205.out))) (below_size (by repeat (first | (with_reducible first | exact HB.out | apply below_alloc | apply pw_below_drewN | apply below_drew1) | exact HB.out))))
                                have n3_ := Aside0.mk (Kd.C_below (by repeat (first | (with_reducible exact HR199.out) | (with_reducible refine Kd.C_alloc ?_ _) | (with_reducible refine Kd.C_drewN ?_ _) | (with_reducible refine Kd.C_drew ?_) | exact HR199.out)) hb)
                                have n4_ := Aside0.mk (Kd.C_below (by repeat (first | (with_reducible exact HR212.out) | (with_reducible refine Kd.C_alloc ?_ _) | (with_reducible refine Kd.C_drewN ?_ _) | (with_reducible refine Kd.C_drew ?_) | exact HR212.out)) hb)
                                have n5_ := Aside0.mk (below_step (by repeat (first | (with_reducible first | exact HB.out | apply below_alloc | apply pw_below_drewN | apply below_drew1) | exact HB.out)) hb)
                                clear HO_5
                                clear HO205
                                clear HR199
                                clear HR212
                                clear HB
                                have HO_5 := n0_
                                have HO205 := n1_
                                have HO195 := n2_
                                have HR199 := n3_
                                have HR212 := n4_
                                have HB := n5_
                                clear n0_ n1_ n2_ n3_ n4_ n5_
                                clear hb ho41
                                refine hK.out _ _ trivial (fun hHeld => ?_)
                                clear hK K
                                refine norm_ (a' := ?_) ?_ ?_
                                rotate_left
                                · show Act.put _ (some 61) _ = _
                                  simp only [Act.put, List.setIfInBounds_toArray, List.set_cons_zero, List.set_cons_succ, i64_w, i32_w]
                                  rfl
                                refine one_ (i := 4) (N := some 65) #[true, true, true, true, true, true, true, false, true, true, true, false, false] rfl rfl (one_of HT_.out (by kernel_rfl)) (by decide) (fun K hK => ?_)
                                refine Kd.R_append_rows_step (Kd.int .i64) (w0 := w) w.heap.size (by rfl) (.tmp 61) (.tmp 64) 22 3 (.int .i64 0) 8 rfl Try.underlying22 info3 rfl (by decide) (by omega) v194 y193 y196 _ _ _ (fun k_ => some k_ ≠ (.slice Ao25 x5_1.length co25 : Value).ownBlock ∧ some k_ ≠ (v204 : Value).ownBlock) (fun _ => False) rfl rfl ?aO ?aR (fun _ _ h => h) (fun _ h => h.elim) ?aF ?aB ?aS ?aL ?_
                                (case aR => repeat (first | exact (by repeat (first | (with_reducible exact HR199.out) | (with_reducible refine Kd.C_alloc ?_ _) | (with_reducible refine Kd.C_drewN ?_ _) | (with_reducible refine Kd.C_drew ?_) | exact HR199.out)) | (with_reducible refine Kd.C_alloc ?_ _) | (with_reducible refine Kd.C_drewN ?_ _) | (with_reducible refine Kd.C_drew ?_)))
                                (case aB => exact (by repeat (first | (with_reducible first | exact HB.out | apply below_alloc | apply pw_below_drewN | apply below_drew1) | exact HB.out)))
                                (case aF => exact (fun k_ hk => ⟨Kd.fresh' (Kd.R_lt (by (with_reducible repeat (first | apply Kd.R_alloc | apply Kd.R_drewN | apply Kd.R_drew)); exact HO_5.out)) k_ hk, Kd.fresh' (Kd.R_lt (by (with_reducible repeat (first | apply Kd.R_alloc | apply Kd.R_drewN | apply Kd.R_drew)); exact HO205.out)) k_ hk⟩))
                                (case aO => exact (by (with_reducible repeat (first | apply Kd.R_alloc | apply Kd.R_drewN | apply Kd.R_drew)); exact Kd.R_mono HO195.out (fun _ hk => ⟨hk.1.2, hk.2⟩)))
                                (case aS => exact (below_size (by repeat (first | (with_reducible first | exact HB.out | apply below_alloc | apply pw_below_drewN | apply below_drew1) | exact HB.out))))
                                (case aL => have := LMc30.out; omega)
                                intro v201 w42 ho hb hg hat
                                rw [← Ny200.out] at ho
                                have n0_ := Aside0.mk (Kd.R_after (ok := (fun k_ => some k_ ≠ (v204 : Value).ownBlock)) (by (with_reducible repeat (first | apply Kd.R_alloc | apply Kd.R_drewN | apply Kd.R_drew)); exact Kd.R_mono HO_5.out (fun _ hk => ⟨hk.1.2, hk.2⟩)) hg hat)
                                have n1_ := Aside0.mk (Kd.R_after (ok := (fun k_ => some k_ ≠ (.slice Ao25 x5_1.length co25 : Value).ownBlock)) (by (with_reducible repeat (first | apply Kd.R_alloc | apply Kd.R_drewN | apply Kd.R_drew)); exact Kd.R_mono HO205.out (fun _ hk => ⟨hk.1.2, hk.2⟩)) hg hat)
                                have n2_ := Aside0.mk (hb)
                                have n3_ := Aside0.mk ((show Kd.C (Kd.int .i64) w42 Ao25 y196.length y196 from by rw [Ny196.out]; exact Kd.C_take (m := (t192 : Int).toNat) ((Kd.R_reads' (Kd.R_after (ok := (fun k_ => some k_ ≠ (v204 : Value).ownBlock)) (by (with_reducible repeat (first | apply Kd.R_alloc | apply Kd.R_drewN | apply Kd.R_drew)); exact Kd.R_mono HO_5.out (fun _ hk => ⟨hk.1.2, hk.2⟩)) hg hat)).2.2) KL36.out))
                                have n4_ := Aside0.mk ((show Kd.C (Kd.int .i64) w42 A37 y209.length y209 from by rw [Ny209.out, KA37.out]; exact Kd.C_drop (m := (t192 : Int).toNat) (c := co25) ((Kd.R_reads' (Kd.R_after (ok := (fun k_ => some k_ ≠ (v204 : Value).ownBlock)) (by (with_reducible repeat (first | apply Kd.R_alloc | apply Kd.R_drewN | apply Kd.R_drew)); exact Kd.R_mono HO_5.out (fun _ hk => ⟨hk.1.2, hk.2⟩)) hg hat)).2.2) KL37.out ((Kd.R_reads' (Kd.R_after (ok := (fun k_ => some k_ ≠ (v204 : Value).ownBlock)) (by (with_reducible repeat (first | apply Kd.R_alloc | apply Kd.R_drewN | apply Kd.R_drew)); exact Kd.R_mono HO_5.out (fun _ hk => ⟨hk.1.2, hk.2⟩)) hg hat)).2.1)))
                                have n5_ := Aside0.mk (ho)
                                clear HO_5
                                clear HO205
                                clear HB
                                clear HR199
                                clear HR212
                                clear HO195
                                have HO_5 := n0_
                                have HO205 := n1_
                                have HB := n2_
                                have HR199 := n3_
                                have HR212 := n4_
                                have HO202 := n5_
                                clear n0_ n1_ n2_ n3_ n4_ n5_
                                clear ho hb hg hat
                                refine hK.out _ _ trivial (fun hHeld => ?_)
                                clear hK K
                                refine norm_ (a' := ?_) ?_ ?_
                                rotate_left
                                · show Act.put _ (some 65) _ = _
                                  simp only [Act.put, List.setIfInBounds_toArray, List.set_cons_zero, List.set_cons_succ, i64_w, i32_w]
                                  rfl
                                exact norm_ (by simp only [putAll, Act.put, List.setIfInBounds_toArray, List.set_cons_zero, List.set_cons_succ]) (hCont (v194, v201, v204) _ ⟨(by (with_reducible repeat (first | apply Kd.R_alloc | apply Kd.R_drewN | apply Kd.R_drew)); exact Kd.R_mono HO202.out (fun _ hk => ⟨hk.2, hk.1⟩)), (by (with_reducible repeat (first | apply Kd.R_alloc | apply Kd.R_drewN | apply Kd.R_drew)); exact Kd.R_mono HO205.out (fun _ hk => ⟨hk.2, hk.1⟩)), (by (with_reducible repeat (first | apply Kd.R_alloc | apply Kd.R_drewN | apply Kd.R_drew)); exact Kd.R_mono HO_5.out (fun _ hk => ⟨hk.2, hk.1⟩)), (by repeat (first | (with_reducible first | exact HB.out | apply below_alloc | apply pw_below_drewN | apply below_drew1) | exact HB.out))⟩)
                            rintro ⟨v194, v201, v204⟩ w43 ⟨h0_, h1_, h2_, h3_⟩
                            have n0_ : Aside0 (Kd.R (Kd.int .i64) 3 w43 w.heap.size (fun k_ => some k_ ≠ (v204 : Value).ownBlock ∧ some k_ ≠ (.slice Ao25 x5_1.length co25 : Value).ownBlock) v201 y200) := ⟨h0_⟩
                            have n1_ : Aside0 (Kd.R (Kd.int .i64) 3 w43 w.heap.size (fun k_ => some k_ ≠ (v201 : Value).ownBlock ∧ some k_ ≠ (.slice Ao25 x5_1.length co25 : Value).ownBlock) v204 y203) := ⟨h1_⟩
                            have n2_ : Aside0 (Kd.R (Kd.int .i64) 3 w43 w.heap.size (fun k_ => some k_ ≠ (v201 : Value).ownBlock ∧ some k_ ≠ (v204 : Value).ownBlock) (.slice Ao25 x5_1.length co25) x5_1) := ⟨h2_⟩
                            have n3_ : Aside0 (Below w.heap.size w w43) := ⟨h3_⟩
                            clear HO_5
                            clear HB
                            clear h0_ h1_ h2_ h3_
                            have HO202 := n0_
                            have HO205 := n1_
                            have HO_5 := n2_
                            have HB := n3_
                            clear n0_ n1_ n2_ n3_
                            have hHeld := trivial
                            obtain ⟨Ao45, co45, eo45⟩ := Kd.R_slice HO205.out
                            (first | subst eo45 | (injection eo45 with f1_ f2_ f3_; have f4_ := f1_.symm; have f5_ := f3_.symm; clear f1_ f2_ f3_; subst f4_; subst f5_))
                            refine norm_ (a' := ?_) ?_ ?_
                            rotate_left
                            · simp only [putAll, Act.put, List.setIfInBounds_toArray, List.set_cons_zero, List.set_cons_succ]
                              rfl
                            refine one_ (i := 7) (N := some 68) #[true, true, true, true, true, true, true, true, true, true, true, false, false] rfl rfl (one_of HT_.out (by kernel_rfl)) (by decide) (fun K hK => ?_)
                            refine Kd.R_append_rows_step (Kd.int .i64) (w0 := w) w.heap.size (by rfl) (.tmp 65) (.tmp 67) 22 3 (.int .i64 0) 8 rfl Try.underlying22 info3 rfl (by decide) (by omega) v201 y200 y203 _ _ _ (fun k_ => some k_ ≠ (.slice Ao25 x5_1.length co25 : Value).ownBlock ∧ some k_ ≠ (.slice Ao45 y203.length co45 : Value).ownBlock) (fun _ => False) rfl rfl ?aO ?aR (fun _ _ h => h) (fun _ h => h.elim) ?aF ?aB ?aS ?aL ?_
                            (case aR => repeat (first | exact (Kd.R_reads' HO205.out).2.2 | (with_reducible refine Kd.C_alloc ?_ _) | (with_reducible refine Kd.C_drewN ?_ _) | (with_reducible refine Kd.C_drew ?_)))
                            (case aB => exact (by repeat (first | (with_reducible first | exact HB.out | apply below_alloc | apply pw_below_drewN | apply below_drew1) | exact HB.out)))
                            (case aF => exact (fun k_ hk => ⟨Kd.fresh' (Kd.R_lt (by (with_reducible repeat (first | apply Kd.R_alloc | apply Kd.R_drewN | apply Kd.R_drew)); exact HO_5.out)) k_ hk, Kd.fresh' (Kd.R_lt (by (with_reducible repeat (first | apply Kd.R_alloc | apply Kd.R_drewN | apply Kd.R_drew)); exact HO205.out)) k_ hk⟩))
                            (case aO => exact (by (with_reducible repeat (first | apply Kd.R_alloc | apply Kd.R_drewN | apply Kd.R_drew)); exact Kd.R_mono HO202.out (fun _ hk => ⟨hk.2, hk.1⟩)))
                            (case aS => exact (below_size (by repeat (first | (with_reducible first | exact HB.out | apply below_alloc | apply pw_below_drewN | apply below_drew1) | exact HB.out))))
                            (case aL => have := LMc31.out; omega)
                            intro v207 w44 ho hb hg hat
                            rw [← Ny206.out] at ho
                            have n0_ := Aside0.mk (Kd.R_after (ok := (fun k_ => some k_ ≠ (.slice Ao45 y203.length co45 : Value).ownBlock)) (by (with_reducible repeat (first | apply Kd.R_alloc | apply Kd.R_drewN | apply Kd.R_drew)); exact Kd.R_mono HO_5.out (fun _ hk => ⟨hk.2, hk.1⟩)) hg hat)
                            have n1_ := Aside0.mk (Kd.R_after (ok := (fun k_ => some k_ ≠ (.slice Ao25 x5_1.length co25 : Value).ownBlock)) (by (with_reducible repeat (first | apply Kd.R_alloc | apply Kd.R_drewN | apply Kd.R_drew)); exact Kd.R_mono HO205.out (fun _ hk => ⟨hk.2, hk.1⟩)) hg hat)
                            have n2_ := Aside0.mk (hb)
                            have n3_ := Aside0.mk (ho)
                            clear HO_5
                            clear HO205
                            clear HB
                            clear HO202
                            have HO_5 := n0_
                            have HO205 := n1_
                            have HB := n2_
                            have HO208 := n3_
                            clear n0_ n1_ n2_ n3_
                            clear ho hb hg hat
                            refine hK.out _ _ trivial (fun hHeld => ?_)
                            clear hK K
                            refine norm_ (a' := ?_) ?_ ?_
                            rotate_left
                            · show Act.put _ (some 68) _ = _
                              simp only [Act.put, List.setIfInBounds_toArray, List.set_cons_zero, List.set_cons_succ, i64_w, i32_w]
                              rfl
                            refine one_ (i := 11) (N := some 72) #[true, true, true, true, true, true, true, true, true, true, true, true, false] rfl rfl (one_of HT_.out (by kernel_rfl)) (by decide) (fun K hK => ?_)
                            refine Kd.R_append_rows_step (Kd.int .i64) (w0 := w) w.heap.size (by rfl) (.tmp 68) (.tmp 71) 22 3 (.int .i64 0) 8 rfl Try.underlying22 info3 rfl (by decide) (by omega) v207 y206 y209 _ _ _ (fun k_ => some k_ ≠ (.slice Ao25 x5_1.length co25 : Value).ownBlock ∧ some k_ ≠ (.slice Ao45 y203.length co45 : Value).ownBlock) (fun _ => False) rfl rfl ?aO ?aR (fun _ _ h => h) (fun _ h => h.elim) ?aF ?aB ?aS ?aL ?_
                            (case aR => repeat (first | exact (show Kd.C (Kd.int .i64) _ A37 y209.length y209 from by rw [Ny209.out, KA37.out]; exact Kd.C_drop (m := (t192 : Int).toNat) (c := co25) ((Kd.R_reads' HO_5.out).2.2) KL37.out ((Kd.R_reads' HO_5.out).2.1)) | (with_reducible refine Kd.C_alloc ?_ _) | (with_reducible refine Kd.C_drewN ?_ _) | (with_reducible refine Kd.C_drew ?_)))
                            (case aB => exact (by repeat (first | (with_reducible first | exact HB.out | apply below_alloc | apply pw_below_drewN | apply below_drew1) | exact HB.out)))
                            (case aF => exact (fun k_ hk => ⟨Kd.fresh' (Kd.R_lt (by (with_reducible repeat (first | apply Kd.R_alloc | apply Kd.R_drewN | apply Kd.R_drew)); exact HO_5.out)) k_ hk, Kd.fresh' (Kd.R_lt (by (with_reducible repeat (first | apply Kd.R_alloc | apply Kd.R_drewN | apply Kd.R_drew)); exact HO205.out)) k_ hk⟩))
                            (case aO => exact (by (with_reducible repeat (first | apply Kd.R_alloc | apply Kd.R_drewN | apply Kd.R_drew)); exact HO208.out))
                            (case aS => exact (below_size (by repeat (first | (with_reducible first | exact HB.out | apply below_alloc | apply pw_below_drewN | apply below_drew1) | exact HB.out))))
                            (case aL => have := LMc34.out; omega)
                            intro v214 w46 ho hb hg hat
                            rw [← Ny213.out] at ho
                            have n0_ := Aside0.mk (Kd.R_after (ok := (fun k_ => some k_ ≠ (.slice Ao45 y203.length co45 : Value).ownBlock)) (by (with_reducible repeat (first | apply Kd.R_alloc | apply Kd.R_drewN | apply Kd.R_drew)); exact HO_5.out) hg hat)
                            have n1_ := Aside0.mk (Kd.R_after (ok := (fun k_ => some k_ ≠ (.slice Ao25 x5_1.length co25 : Value).ownBlock)) (by (with_reducible repeat (first | apply Kd.R_alloc | apply Kd.R_drewN | apply Kd.R_drew)); exact HO205.out) hg hat)
                            have n2_ := Aside0.mk (hb)
                            have n3_ := Aside0.mk (ho)
                            clear HO_5
                            clear HO205
                            clear HB
                            clear HO208
                            have HO_5 := n0_
                            have HO205 := n1_
                            have HB := n2_
                            have HO215 := n3_
                            clear n0_ n1_ n2_ n3_
                            clear ho hb hg hat
                            refine hK.out _ _ trivial (fun hHeld => ?_)
                            clear hK K
                            refine norm_ (a' := ?_) ?_ ?_
                            rotate_left
                            · show Act.put _ (some 72) _ = _
                              simp only [Act.put, List.setIfInBounds_toArray, List.set_cons_zero, List.set_cons_succ, i64_w, i32_w]
                              rfl
                            refine pure_ (i := 12) (N := some 9) (v := ?_) (a' := ?_) #[true, true, true, true, true, true, true, true, true, true, true, true, true] rfl rfl (any_of HT_.out (by kernel_rfl)) (fun _ _ _ h => h) (Or.inl ⟨by rfl, ?_⟩) ?_ ?_
                            rotate_left
                            · intro w'
                              go_simp
                              with_reducible rfl
                            rotate_left
                            · simp only [Act.put, List.setIfInBounds_toArray, List.set_cons_zero, List.set_cons_succ, i64_w, i32_w]
                              rfl
                            refine done_ (done_of HT_.out (by kernel_rfl)) ?_
                            try go_wp2
                            go_loopg [10] kj22 (fun kq v10 w' => ∃ (x10_3 : Int), v10 = .int .i64 x10_3 ∧ Aside0 (scarflaw03_RankPuts.l1 kq a1 x5_1 t192 y213 x10_3 = some r) ∧ Aside0 (kq ≤ kj22) ∧ Aside0 (Kd.R (Kd.int .i64) 3 w' w.heap.size (fun k_ => some k_ ≠ (v214 : Value).ownBlock) (.slice Ao25 x5_1.length co25) x5_1) ∧ Aside0 (Kd.R (Kd.int .i64) 3 w' w.heap.size (fun k_ => some k_ ≠ ((.slice Ao25 x5_1.length co25) : Value).ownBlock) v214 y213) ∧ Aside0 (Below w.heap.size w w'))
                            case atStart => exact ⟨(1), (by first | rfl | (simp; done) | (simp [*]; done)), H', ⟨Nat.le_refl _⟩, ⟨by (with_reducible repeat (first | apply Kd.R_alloc | apply Kd.R_drewN | apply Kd.R_drew)); exact Kd.R_mono HO_5.out (fun _ hk => hk.2)⟩, ⟨by (with_reducible repeat (first | apply Kd.R_alloc | apply Kd.R_drewN | apply Kd.R_drew)); exact Kd.R_mono HO215.out (fun _ hk => hk.1)⟩, ⟨by repeat (first | (with_reducible first | exact HB.out | apply below_alloc | apply pw_below_drewN | apply below_drew1) | exact HB.out)⟩⟩
                            case round =>
                              clear H'
                              try clear c1
                              try clear p1
                              try clear q1
                              try clear hx1
                              try clear c2
                              try clear p2
                              try clear c3
                              try clear c3b0
                              try clear c3b1
                              try clear q3
                              try clear c4
                              try clear c4b0
                              try clear c4b1
                              try clear p6
                              try clear c7
                              try clear c8
                              try clear c8b0
                              try clear c9
                              try clear c9b0
                              try clear c10
                              try clear c10b0
                              try clear c11
                              try clear c12
                              try clear c12b0
                              try clear c14
                              try clear c14b0
                              try clear c15
                              try clear c15b0
                              try clear c16
                              try clear c18
                              try clear p18
                              try clear q18
                              try clear hx18
                              try clear c26
                              try clear c26b0
                              try clear c27
                              try clear c28
                              try clear c28b0
                              try clear c28b1
                              try clear c29
                              try clear c29b0
                              try clear c29b1
                              try clear c30
                              try clear c31
                              try clear c32
                              try clear c32b0
                              try clear c33
                              try clear c33b0
                              try clear c34
                              try clear q36
                              try clear c37
                              try clear q37
                              try clear hx182_0
                              try clear hx183_0
                              try clear hx184_0
                              try clear hx185_0
                              try clear p1
                              try clear p18
                              try clear p182
                              try clear p183
                              try clear p184
                              try clear p185
                              try clear p2
                              try clear p6
                              try clear q037
                              try clear q1
                              try clear q18
                              try clear q182
                              try clear q183
                              try clear q184
                              try clear q185
                              try clear q36
                              try clear q37
                              obtain ⟨x10_3, rfl, HA, HK3, HO_5, HO_9, HB⟩ := hrel
                              cases gk with
                              | zero => exact absurd HA.out (by simp [scarflaw03_RankPuts.l1])
                              | succ k3 =>
                                have H := HA.out
                                clear HA
                                simp only [scarflaw03_RankPuts.l1] at H
                                by_cases c47 : x10_3 < (y213.length : Int)
                                · rw [if_pos c47] at H
                                  have c47b0 : decide (x10_3 < (y213.length : Int)) = true := decide_eq_true c47
                                  clear c47
                                  obtain ⟨ji48, hji48⟩ : ∃ j_ : Int, (wrap64 (x10_3 - 1)) = j_ := ⟨_, rfl⟩
                                  replace H : (if 0 ≤ (ji48) then (if (ji48) < (y213.length : Int) then (if 0 ≤ x10_3 then (if (rd y213 (ji48)) > (rd y213 x10_3) then (some false) else (scarflaw03_RankPuts.l1 k3 a1 x5_1 t192 y213 (wrap64 (x10_3 + 1)))) else (none)) else (none)) else (none)) = some r := by first | (rw [hji48] at H; exact H) | (simp only [hji48] at H ⊢; exact H)
                                  have hji48w : (IntKind.i64.wrap (x10_3 - 1)) = ji48 := (i64_w _).trans hji48
                                  by_cases c49 : 0 ≤ (ji48)
                                  · rw [if_pos c49] at H
                                    have c49b0 : decide (0 ≤ (ji48)) = true := decide_eq_true c49
                                    clear c49
                                    by_cases c50 : (ji48) < (y213.length : Int)
                                    · rw [if_pos c50] at H
                                      have c50b0 : decide ((ji48) < (y213.length : Int)) = true := decide_eq_true c50
                                      clear c50
                                      by_cases c51 : 0 ≤ x10_3
                                      · rw [if_pos c51] at H
                                        have c51b0 : decide (0 ≤ x10_3) = true := decide_eq_true c51
                                        clear c51
                                        by_cases c52 : (rd y213 (ji48)) > (rd y213 x10_3)
                                        · rw [if_pos c52] at H
                                          have c52b0 : decide ((rd y213 x10_3) < (rd y213 (ji48))) = true := decide_eq_true c52
                                          clear c52
                                          obtain rfl := Option.some.inj H
                                          obtain ⟨Ao53, co53, eo53⟩ := Kd.R_slice HO_9.out
                                          subst eo53
                                          try go_wp2
                                          have n0_ := Aside0.mk (Kd.R_drew HO_5.out)
                                          have n1_ := Aside0.mk (Kd.R_drew HO_9.out)
                                          have n2_ := Aside0.mk (below_drew1 HB.out)
                                          clear HO_5
                                          clear HO_9
                                          clear HB
                                          have HO_5 := n0_
                                          have HO_9 := n1_
                                          have HB := n2_
                                          clear n0_ n1_ n2_
                                          have p216 : 0 ≤ ((ji48) : Int) := of_decide_eq_true (by first | (with_reducible assumption) | assumption)
                                          have q216 : (ji48) < (y213.length : Int) := of_decide_eq_true (by first | (with_reducible assumption) | assumption)
                                          obtain ⟨ad216, e216, hx216_0⟩ := Kd.at_int (Kd.R_reads' HO_9.out).2.2 (ji48) p216 q216
                                          cases e216
                                          replace p216 := eq_true p216
                                          replace q216 := eq_true q216
                                          have p217 : 0 ≤ (x10_3 : Int) := of_decide_eq_true (by first | (with_reducible assumption) | assumption)
                                          have q217 : x10_3 < (y213.length : Int) := of_decide_eq_true (by first | (with_reducible assumption) | assumption)
                                          obtain ⟨ad217, e217, hx217_0⟩ := Kd.at_int (Kd.R_reads' HO_9.out).2.2 x10_3 p217 q217
                                          obtain rfl : ad216 = ad217 := (by injection e217)
                                          replace p217 := eq_true p217
                                          replace q217 := eq_true q217
                                          refine start_ (n := 10) (S := fun w' => w'.cell? (ad216.add ((ji48)).toNat) = some (.int .i64 (rd y213 (ji48))) ∧ w'.cell? (ad216.add (x10_3).toNat) = some (.int .i64 (rd y213 x10_3))) (ds := []) #[false, false, false, false, false, false, false, false, false, false] (by kernel_rfl) rfl rfl ⟨hx216_0, hx217_0⟩ (fun hHeld => ?_); refine with_tabW scarflaw03_RankPuts.tab18 scarflaw03_RankPuts.bits18 (fun HT_ HW_ => ?_)
                                          generalize wr.drew = w54 at HO_5 HO_9 HB hx216_0 hx217_0 hHeld ⊢
                                          refine pure_ (i := 0) (N := some 79) (v := ?_) (a' := ?_) #[true, false, false, false, false, false, false, false, false, false] rfl rfl (any_of HT_.out (by kernel_rfl)) (fun _ _ _ h => h) (Or.inl ⟨by rfl, ?_⟩) ?_ ?_
                                          rotate_left
                                          · intro w'
                                            go_simp
                                            with_reducible rfl
                                          rotate_left
                                          · simp only [Act.put, List.setIfInBounds_toArray, List.set_cons_zero, List.set_cons_succ, i64_w, i32_w]
                                            rfl
                                          refine pure_ (i := 1) (N := some 80) (v := ?_) (a' := ?_) #[true, true, false, false, false, false, false, false, false, false] rfl rfl (any_of HT_.out (by kernel_rfl)) (fun _ _ _ h => h) (Or.inl ⟨by rfl, ?_⟩) ?_ ?_
                                          rotate_left
                                          · intro w'
                                            go_simp
                                            with_reducible rfl
                                          rotate_left
                                          · simp only [Act.put, List.setIfInBounds_toArray, List.set_cons_zero, List.set_cons_succ, i64_w, i32_w]
                                            rfl
                                          refine pure_ (i := 2) (N := some 81) (v := ?_) (a' := ?_) #[true, true, true, false, false, false, false, false, false, false] rfl rfl (any_of HT_.out (by kernel_rfl)) (fun _ _ _ h => h) (Or.inl ⟨by rfl, ?_⟩) ?_ ?_
                                          rotate_left
                                          · intro w'
                                            go_simp
                                            with_reducible rfl
                                          rotate_left
                                          · simp only [Act.put, List.setIfInBounds_toArray, List.set_cons_zero, List.set_cons_succ, i64_w, i32_w]
                                            rfl
                                          refine pure_ (i := 3) (N := some 82) (v := ?_) (a' := ?_) #[true, true, true, true, false, false, false, false, false, false] rfl rfl (any_of HT_.out (by kernel_rfl)) (fun _ _ _ h => h) (Or.inl ⟨by rfl, ?_⟩) ?_ ?_
                                          rotate_left
                                          · intro w'
                                            go_simp
                                            with_reducible rfl
                                          rotate_left
                                          · simp only [Act.put, List.setIfInBounds_toArray, List.set_cons_zero, List.set_cons_succ, i64_w, i32_w]
                                            rfl
                                          refine pure_ (i := 5) (N := some 84) (v := ?_) (a' := ?_) #[true, true, true, true, false, true, false, false, false, false] rfl rfl (any_of HT_.out (by kernel_rfl)) (fun _ _ _ h => h) (Or.inl ⟨by rfl, ?_⟩) ?_ ?_
                                          rotate_left
                                          · intro w'
                                            go_simp
                                            with_reducible rfl
                                          rotate_left
                                          · simp only [Act.put, List.setIfInBounds_toArray, List.set_cons_zero, List.set_cons_succ, i64_w, i32_w]
                                            rfl
                                          refine pure_ (i := 6) (N := some 85) (v := ?_) (a' := ?_) #[true, true, true, true, false, true, true, false, false, false] rfl rfl (any_of HT_.out (by kernel_rfl)) (fun _ _ _ h => h) (Or.inl ⟨by rfl, ?_⟩) ?_ ?_
                                          rotate_left
                                          · intro w'
                                            go_simp
                                            with_reducible rfl
                                          rotate_left
                                          · simp only [Act.put, List.setIfInBounds_toArray, List.set_cons_zero, List.set_cons_succ, i64_w, i32_w]
                                            rfl
                                          refine pure_ (i := 7) (N := some 86) (v := ?_) (a' := ?_) #[true, true, true, true, false, true, true, true, false, false] rfl rfl (any_of HT_.out (by kernel_rfl)) (fun _ _ _ h => h) (Or.inl ⟨by rfl, ?_⟩) ?_ ?_
                                          rotate_left
                                          · intro w'
                                            go_simp
                                            with_reducible rfl
                                          rotate_left
                                          · simp only [Act.put, List.setIfInBounds_toArray, List.set_cons_zero, List.set_cons_succ, i64_w, i32_w]
                                            rfl
                                          refine take_ (i := 4) (N := some 83) (v := ?_) (a' := ?_) #[true, true, true, true, true, true, true, true, false, false] rfl rfl (take_ofW HT_.out HW_.out (by kernel_rfl)) (fun _ _ _ h => h) (Or.inl ⟨by rfl, ?_⟩) hHeld ?_ ?_
                                          rotate_left
                                          · rintro w' ⟨s0, s1⟩
                                            go_simp
                                            with_reducible rfl
                                          rotate_left
                                          · simp only [Act.put, List.setIfInBounds_toArray, List.set_cons_zero, List.set_cons_succ, i64_w, i32_w]
                                            rfl
                                          refine take_ (i := 8) (N := some 87) (v := ?_) (a' := ?_) #[true, true, true, true, true, true, true, true, true, false] rfl rfl (take_ofW HT_.out HW_.out (by kernel_rfl)) (fun _ _ _ h => h) (Or.inl ⟨by rfl, ?_⟩) hHeld ?_ ?_
                                          rotate_left
                                          · rintro w' ⟨s0, s1⟩
                                            go_simp
                                            with_reducible rfl
                                          rotate_left
                                          · simp only [Act.put, List.setIfInBounds_toArray, List.set_cons_zero, List.set_cons_succ, i64_w, i32_w]
                                            rfl
                                          refine pure_ (i := 9) (N := some 88) (v := ?_) (a' := ?_) #[true, true, true, true, true, true, true, true, true, true] rfl rfl (any_of HT_.out (by kernel_rfl)) (fun _ _ _ h => h) (Or.inl ⟨by rfl, ?_⟩) ?_ ?_
                                          rotate_left
                                          · intro w'
                                            go_simp
                                            with_reducible rfl
                                          rotate_left
                                          · simp only [Act.put, List.setIfInBounds_toArray, List.set_cons_zero, List.set_cons_succ, i64_w, i32_w]
                                            rfl
                                          refine done_ (done_of HT_.out (by kernel_rfl)) ?_
                                          try go_wp2
                                          go_ret
                                          exact ⟨by first | rfl | (simp [errW_none, errW_some] <;> rfl) | (simp only [← hji48]; first | rfl | (simp [errW_none, errW_some] <;> rfl)) | (simp [*, errW_none, errW_some] <;> rfl), by repeat (first | (with_reducible first | exact HB.out | apply below_alloc | apply pw_below_drewN | apply below_drew1) | exact HB.out)⟩
                                        · rw [if_neg c52] at H
                                          have c52b0 : decide ((rd y213 x10_3) < (rd y213 (ji48))) = false := decide_eq_false c52
                                          clear c52
                                          have H' := Aside0.mk H
                                          clear H
                                          obtain ⟨Ao55, co55, eo55⟩ := Kd.R_slice HO_9.out
                                          subst eo55
                                          try go_wp2
                                          have n0_ := Aside0.mk (Kd.R_drew HO_5.out)
                                          have n1_ := Aside0.mk (Kd.R_drew HO_9.out)
                                          have n2_ := Aside0.mk (below_drew1 HB.out)
                                          clear HO_5
                                          clear HO_9
                                          clear HB
                                          have HO_5 := n0_
                                          have HO_9 := n1_
                                          have HB := n2_
                                          clear n0_ n1_ n2_
                                          have p216 : 0 ≤ ((ji48) : Int) := of_decide_eq_true (by first | (with_reducible assumption) | assumption)
                                          have q216 : (ji48) < (y213.length : Int) := of_decide_eq_true (by first | (with_reducible assumption) | assumption)
                                          obtain ⟨ad216, e216, hx216_0⟩ := Kd.at_int (Kd.R_reads' HO_9.out).2.2 (ji48) p216 q216
                                          cases e216
                                          replace p216 := eq_true p216
                                          replace q216 := eq_true q216
                                          have p217 : 0 ≤ (x10_3 : Int) := of_decide_eq_true (by first | (with_reducible assumption) | assumption)
                                          have q217 : x10_3 < (y213.length : Int) := of_decide_eq_true (by first | (with_reducible assumption) | assumption)
                                          obtain ⟨ad217, e217, hx217_0⟩ := Kd.at_int (Kd.R_reads' HO_9.out).2.2 x10_3 p217 q217
                                          obtain rfl : ad216 = ad217 := (by injection e217)
                                          replace p217 := eq_true p217
                                          replace q217 := eq_true q217
                                          refine start_ (n := 10) (S := fun w' => w'.cell? (ad216.add ((ji48)).toNat) = some (.int .i64 (rd y213 (ji48))) ∧ w'.cell? (ad216.add (x10_3).toNat) = some (.int .i64 (rd y213 x10_3))) (ds := []) #[false, false, false, false, false, false, false, false, false, false] (by kernel_rfl) rfl rfl ⟨hx216_0, hx217_0⟩ (fun hHeld => ?_); refine with_tabW scarflaw03_RankPuts.tab18 scarflaw03_RankPuts.bits18 (fun HT_ HW_ => ?_)
                                          generalize wr.drew = w56 at HO_5 HO_9 HB hx216_0 hx217_0 hHeld ⊢
                                          refine pure_ (i := 0) (N := some 79) (v := ?_) (a' := ?_) #[true, false, false, false, false, false, false, false, false, false] rfl rfl (any_of HT_.out (by kernel_rfl)) (fun _ _ _ h => h) (Or.inl ⟨by rfl, ?_⟩) ?_ ?_
                                          rotate_left
                                          · intro w'
                                            go_simp
                                            with_reducible rfl
                                          rotate_left
                                          · simp only [Act.put, List.setIfInBounds_toArray, List.set_cons_zero, List.set_cons_succ, i64_w, i32_w]
                                            rfl
                                          refine pure_ (i := 1) (N := some 80) (v := ?_) (a' := ?_) #[true, true, false, false, false, false, false, false, false, false] rfl rfl (any_of HT_.out (by kernel_rfl)) (fun _ _ _ h => h) (Or.inl ⟨by rfl, ?_⟩) ?_ ?_
                                          rotate_left
                                          · intro w'
                                            go_simp
                                            with_reducible rfl
                                          rotate_left
                                          · simp only [Act.put, List.setIfInBounds_toArray, List.set_cons_zero, List.set_cons_succ, i64_w, i32_w]
                                            rfl
                                          refine pure_ (i := 2) (N := some 81) (v := ?_) (a' := ?_) #[true, true, true, false, false, false, false, false, false, false] rfl rfl (any_of HT_.out (by kernel_rfl)) (fun _ _ _ h => h) (Or.inl ⟨by rfl, ?_⟩) ?_ ?_
                                          rotate_left
                                          · intro w'
                                            go_simp
                                            with_reducible rfl
                                          rotate_left
                                          · simp only [Act.put, List.setIfInBounds_toArray, List.set_cons_zero, List.set_cons_succ, i64_w, i32_w]
                                            rfl
                                          refine pure_ (i := 3) (N := some 82) (v := ?_) (a' := ?_) #[true, true, true, true, false, false, false, false, false, false] rfl rfl (any_of HT_.out (by kernel_rfl)) (fun _ _ _ h => h) (Or.inl ⟨by rfl, ?_⟩) ?_ ?_
                                          rotate_left
                                          · intro w'
                                            go_simp
                                            with_reducible rfl
                                          rotate_left
                                          · simp only [Act.put, List.setIfInBounds_toArray, List.set_cons_zero, List.set_cons_succ, i64_w, i32_w]
                                            rfl
                                          refine pure_ (i := 5) (N := some 84) (v := ?_) (a' := ?_) #[true, true, true, true, false, true, false, false, false, false] rfl rfl (any_of HT_.out (by kernel_rfl)) (fun _ _ _ h => h) (Or.inl ⟨by rfl, ?_⟩) ?_ ?_
                                          rotate_left
                                          · intro w'
                                            go_simp
                                            with_reducible rfl
                                          rotate_left
                                          · simp only [Act.put, List.setIfInBounds_toArray, List.set_cons_zero, List.set_cons_succ, i64_w, i32_w]
                                            rfl
                                          refine pure_ (i := 6) (N := some 85) (v := ?_) (a' := ?_) #[true, true, true, true, false, true, true, false, false, false] rfl rfl (any_of HT_.out (by kernel_rfl)) (fun _ _ _ h => h) (Or.inl ⟨by rfl, ?_⟩) ?_ ?_
                                          rotate_left
                                          · intro w'
                                            go_simp
                                            with_reducible rfl
                                          rotate_left
                                          · simp only [Act.put, List.setIfInBounds_toArray, List.set_cons_zero, List.set_cons_succ, i64_w, i32_w]
                                            rfl
                                          refine pure_ (i := 7) (N := some 86) (v := ?_) (a' := ?_) #[true, true, true, true, false, true, true, true, false, false] rfl rfl (any_of HT_.out (by kernel_rfl)) (fun _ _ _ h => h) (Or.inl ⟨by rfl, ?_⟩) ?_ ?_
                                          rotate_left
                                          · intro w'
                                            go_simp
                                            with_reducible rfl
                                          rotate_left
                                          · simp only [Act.put, List.setIfInBounds_toArray, List.set_cons_zero, List.set_cons_succ, i64_w, i32_w]
                                            rfl
                                          refine take_ (i := 4) (N := some 83) (v := ?_) (a' := ?_) #[true, true, true, true, true, true, true, true, false, false] rfl rfl (take_ofW HT_.out HW_.out (by kernel_rfl)) (fun _ _ _ h => h) (Or.inl ⟨by rfl, ?_⟩) hHeld ?_ ?_
                                          rotate_left
                                          · rintro w' ⟨s0, s1⟩
                                            go_simp
                                            with_reducible rfl
                                          rotate_left
                                          · simp only [Act.put, List.setIfInBounds_toArray, List.set_cons_zero, List.set_cons_succ, i64_w, i32_w]
                                            rfl
                                          refine take_ (i := 8) (N := some 87) (v := ?_) (a' := ?_) #[true, true, true, true, true, true, true, true, true, false] rfl rfl (take_ofW HT_.out HW_.out (by kernel_rfl)) (fun _ _ _ h => h) (Or.inl ⟨by rfl, ?_⟩) hHeld ?_ ?_
                                          rotate_left
                                          · rintro w' ⟨s0, s1⟩
                                            go_simp
                                            with_reducible rfl
                                          rotate_left
                                          · simp only [Act.put, List.setIfInBounds_toArray, List.set_cons_zero, List.set_cons_succ, i64_w, i32_w]
                                            rfl
                                          refine pure_ (i := 9) (N := some 88) (v := ?_) (a' := ?_) #[true, true, true, true, true, true, true, true, true, true] rfl rfl (any_of HT_.out (by kernel_rfl)) (fun _ _ _ h => h) (Or.inl ⟨by rfl, ?_⟩) ?_ ?_
                                          rotate_left
                                          · intro w'
                                            go_simp
                                            with_reducible rfl
                                          rotate_left
                                          · simp only [Act.put, List.setIfInBounds_toArray, List.set_cons_zero, List.set_cons_succ, i64_w, i32_w]
                                            rfl
                                          refine done_ (done_of HT_.out (by kernel_rfl)) ?_
                                          try go_wp2
                                          go_roundg k3
                                          case measure => have := HK1.out; have := HJ22.out; have := HK3.out; omega
                                          case rel => exact ⟨(wrap64 (x10_3 + 1)), (by first | rfl | (simp; done) | (simp [*]; done)), H', ⟨by have := HK1.out; have := HJ22.out; have := HK3.out; omega⟩, ⟨by (with_reducible repeat (first | apply Kd.R_alloc | apply Kd.R_drewN | apply Kd.R_drew)); exact HO_5.out⟩, ⟨by (with_reducible repeat (first | apply Kd.R_alloc | apply Kd.R_drewN | apply Kd.R_drew)); exact HO_9.out⟩, ⟨by repeat (first | (with_reducible first | exact HB.out | apply below_alloc | apply pw_below_drewN | apply below_drew1) | exact HB.out)⟩⟩
                                      · rw [if_neg c51] at H
                                        exact absurd H (by simp)
                                    · rw [if_neg c50] at H
                                      exact absurd H (by simp)
                                  · rw [if_neg c49] at H
                                    exact absurd H (by simp)
                                · rw [if_neg c47] at H
                                  have c47b0 : decide (x10_3 < (y213.length : Int)) = false := decide_eq_false c47
                                  clear c47
                                  replace H := Option.bind_eq_some_iff.mp H
                                  obtain ⟨t218, A570, H⟩ := H
                                  replace H : (scarflaw03_RankPuts.l2 k3 a1 x5_1 t192 t218 0) = some r := H
                                  have A57 := Aside0.mk A570
                                  clear A570
                                  have H' := Aside0.mk H
                                  clear H
                                  obtain ⟨Ao58, co58, eo58⟩ := Kd.R_slice HO_9.out
                                  subst eo58
                                  go_wp2_with (first | ((with_reducible refine gate_callee (f := 11) rfl ?_); refine goesL_ (some 90) rfl rfl Try.func11 (by kernel_rfl) rfl #[.slice Ao25 x5_1.length co25] rfl (by (try simp only [List.map_toArray, List.map_cons, List.map_nil]); first | done | rfl | (simp only [List.length_drop, List.length_take]; rfl)) ?_; (with_reducible refine (rank_Ints.calls k3 _ _ x5_1 t218 _ ?side1 ?side2 A57.out).mono ?_); (case side1 => repeat (first | exact (Kd.R_reads' HO_5.out).2.2 | (with_reducible refine Kd.C_alloc ?_ _) | (with_reducible refine Kd.C_drewN ?_ _) | (with_reducible refine Kd.C_drew ?_))); (case side2 => exact (Kd.R_reads' HO_5.out).2.1); rintro e w59 ⟨v219, rfl, ho0, hb⟩; refine ⟨_, rfl, ?_⟩; have n0_ := Aside0.mk (Kd.R_elder' (by (with_reducible repeat (first | apply Kd.R_alloc | apply Kd.R_drewN | apply Kd.R_drew)); exact HO_5.out) (Kd.R_base ho0) hb); have n1_ := Aside0.mk (Kd.R_elder' (by (with_reducible repeat (first | apply Kd.R_alloc | apply Kd.R_drewN | apply Kd.R_drew)); exact HO_9.out) (Kd.R_base ho0) hb); have n2_ := Aside0.mk (Kd.R_lower (Kd.R_new' (Kd.R_new' ho0 (Kd.R_lt (by (with_reducible repeat (first | apply Kd.R_alloc | apply Kd.R_drewN | apply Kd.R_drew)); exact HO_5.out))) (Kd.R_lt (by (with_reducible repeat (first | apply Kd.R_alloc | apply Kd.R_drewN | apply Kd.R_drew)); exact HO_9.out))) (below_size (by repeat (first | (with_reducible first | exact HB.out | apply below_alloc | apply pw_below_drewN | apply below_drew1) | exact HB.out)))); have n3_ := Aside0.mk (below_step (by repeat (first | (with_reducible first | exact HB.out | apply below_alloc | apply pw_below_drewN | apply below_drew1) | exact HB.out)) hb); clear HO_5; clear HO_9; clear HB; have HO_5 := n0_; have HO_9 := n1_; have HO220 := n2_; have HB := n3_; clear n0_ n1_ n2_ n3_; (try clear hb); (try clear hb2); (try clear hk); (try clear hi); (try clear ho0)))
                                  go_loopg [12] k3 (fun kq v12 w' => ∃ (x12_4 : Int), v12 = .int .i64 x12_4 ∧ Aside0 (scarflaw03_RankPuts.l2 kq a1 x5_1 t192 t218 x12_4 = some r) ∧ Aside0 (kq ≤ k3) ∧ Aside0 (Kd.R (Kd.int .i64) 3 w' w.heap.size (fun k_ => some k_ ≠ (v219 : Value).ownBlock) (.slice Ao25 x5_1.length co25) x5_1) ∧ Aside0 (Kd.R (Kd.int .i64) 3 w' w.heap.size (fun k_ => some k_ ≠ ((.slice Ao25 x5_1.length co25) : Value).ownBlock) v219 t218) ∧ Aside0 (Below w.heap.size w w'))
                                  case atStart => exact ⟨(0), (by first | rfl | (simp; done) | (simp [*]; done)), H', ⟨Nat.le_refl _⟩, ⟨by (with_reducible repeat (first | apply Kd.R_alloc | apply Kd.R_drewN | apply Kd.R_drew)); exact Kd.R_mono HO_5.out (fun _ hk => hk.2)⟩, ⟨by (with_reducible repeat (first | apply Kd.R_alloc | apply Kd.R_drewN | apply Kd.R_drew)); exact Kd.R_mono HO220.out (fun _ hk => hk.1.2)⟩, ⟨by repeat (first | (with_reducible first | exact HB.out | apply below_alloc | apply pw_below_drewN | apply below_drew1) | exact HB.out)⟩⟩
                                  case round =>
                                    clear H'
                                    try clear c1
                                    try clear p1
                                    try clear q1
                                    try clear hx1
                                    try clear c2
                                    try clear p2
                                    try clear q2
                                    try clear hx2
                                    try clear c3
                                    try clear c3b0
                                    try clear c3b1
                                    try clear q3
                                    try clear c4
                                    try clear c4b0
                                    try clear c4b1
                                    try clear c5
                                    try clear p6
                                    try clear c7
                                    try clear c8
                                    try clear c8b0
                                    try clear c9
                                    try clear c9b0
                                    try clear c10
                                    try clear c10b0
                                    try clear c11
                                    try clear c12
                                    try clear c12b0
                                    try clear c14
                                    try clear c14b0
                                    try clear c15
                                    try clear c15b0
                                    try clear c16
                                    try clear c18
                                    try clear p18
                                    try clear q18
                                    try clear hx18
                                    try clear p21
                                    try clear q21
                                    try clear hx21
                                    try clear c26
                                    try clear c26b0
                                    try clear c27
                                    try clear c28
                                    try clear c28b0
                                    try clear c28b1
                                    try clear c29
                                    try clear c29b0
                                    try clear c29b1
                                    try clear c30
                                    try clear c31
                                    try clear c32
                                    try clear c32b0
                                    try clear c33
                                    try clear c33b0
                                    try clear c34
                                    try clear q36
                                    try clear c37
                                    try clear q37
                                    try clear c47
                                    try clear c47b0
                                    try clear c49
                                    try clear c49b0
                                    try clear c50
                                    try clear c50b0
                                    try clear c51
                                    try clear c51b0
                                    try clear c52
                                    try clear c52b0
                                    try clear hx182_0
                                    try clear hx183_0
                                    try clear hx184_0
                                    try clear hx185_0
                                    try clear hx216_0
                                    try clear hx217_0
                                    try clear p1
                                    try clear p18
                                    try clear p182
                                    try clear p183
                                    try clear p184
                                    try clear p185
                                    try clear p2
                                    try clear p216
                                    try clear p217
                                    try clear p6
                                    try clear q037
                                    try clear q1
                                    try clear q18
                                    try clear q182
                                    try clear q183
                                    try clear q184
                                    try clear q185
                                    try clear q216
                                    try clear q217
                                    try clear q3
                                    try clear q36
                                    try clear q37
                                    obtain ⟨x12_4, rfl, HA, HK4, HO_5, HO_11, HB⟩ := hrel
                                    cases gk with
                                    | zero => exact absurd HA.out (by simp [scarflaw03_RankPuts.l2])
                                    | succ k4 =>
                                      have H := HA.out
                                      clear HA
                                      simp only [scarflaw03_RankPuts.l2] at H
                                      by_cases c60 : x12_4 < (t218.length : Int)
                                      · rw [if_pos c60] at H
                                        have c60b0 : decide (x12_4 < (t218.length : Int)) = true := decide_eq_true c60
                                        clear c60
                                        by_cases c61 : 0 ≤ x12_4
                                        · rw [if_pos c61] at H
                                          have c61b0 : decide (0 ≤ x12_4) = true := decide_eq_true c61
                                          clear c61
                                          by_cases c62 : (rd t218 x12_4) = x12_4
                                          · rw [if_pos c62] at H
                                            have c62b0 : ((rd t218 x12_4) == x12_4) = true := beq_iff_eq.mpr c62
                                            have c62b1 : ((rd t218 x12_4) != x12_4) = false := bne_eq_false_iff_eq.mpr c62
                                            clear c62
                                            have H' := Aside0.mk H
                                            clear H
                                            obtain ⟨Ao63, co63, eo63⟩ := Kd.R_slice HO_11.out
                                            subst eo63
                                            have p221 : 0 ≤ (x12_4 : Int) := of_decide_eq_true (by first | (with_reducible assumption) | assumption)
                                            have q221 : x12_4 < (t218.length : Int) := of_decide_eq_true (by first | (with_reducible assumption) | assumption)
                                            obtain ⟨ad221, e221, hx221_0⟩ := Kd.at_int (Kd.R_reads' HO_11.out).2.2 x12_4 p221 q221
                                            cases e221
                                            replace p221 := eq_true p221
                                            replace q221 := eq_true q221
                                            go_wp2
                                            go_roundg k4
                                            case measure => have := HK1.out; have := HJ22.out; have := HK3.out; have := HK4.out; omega
                                            case rel => exact ⟨(wrap64 (x12_4 + 1)), (by first | rfl | (simp; done) | (simp [*]; done)), H', ⟨by have := HK1.out; have := HJ22.out; have := HK3.out; have := HK4.out; omega⟩, ⟨by (with_reducible repeat (first | apply Kd.R_alloc | apply Kd.R_drewN | apply Kd.R_drew)); exact HO_5.out⟩, ⟨by (with_reducible repeat (first | apply Kd.R_alloc | apply Kd.R_drewN | apply Kd.R_drew)); exact HO_11.out⟩, ⟨by repeat (first | (with_reducible first | exact HB.out | apply below_alloc | apply pw_below_drewN | apply below_drew1) | exact HB.out)⟩⟩
                                          · rw [if_neg c62] at H
                                            have c62b0 : ((rd t218 x12_4) == x12_4) = false := beq_eq_false_iff_ne.mpr c62
                                            have c62b1 : ((rd t218 x12_4) != x12_4) = true := bne_iff_ne.mpr c62
                                            obtain rfl := Option.some.inj H
                                            obtain ⟨Ao64, co64, eo64⟩ := Kd.R_slice HO_11.out
                                            subst eo64
                                            have p221 : 0 ≤ (x12_4 : Int) := of_decide_eq_true (by first | (with_reducible assumption) | assumption)
                                            have q221 : x12_4 < (t218.length : Int) := of_decide_eq_true (by first | (with_reducible assumption) | assumption)
                                            obtain ⟨ad221, e221, hx221_0⟩ := Kd.at_int (Kd.R_reads' HO_11.out).2.2 x12_4 p221 q221
                                            cases e221
                                            replace p221 := eq_true p221
                                            replace q221 := eq_true q221
                                            go_wp2
                                            go_ret
                                            exact ⟨by first | rfl | (simp [errW_none, errW_some] <;> rfl) | (simp [*, errW_none, errW_some] <;> rfl), by repeat (first | (with_reducible first | exact HB.out | apply below_alloc | apply pw_below_drewN | apply below_drew1) | exact HB.out)⟩
                                        · rw [if_neg c61] at H
                                          exact absurd H (by simp)
                                      · rw [if_neg c60] at H
                                        have c60b0 : decide (x12_4 < (t218.length : Int)) = false := decide_eq_false c60
                                        clear c60
                                        replace H := Option.bind_eq_some_iff.mp H
                                        obtain ⟨t222, A650, H⟩ := H
                                        replace H : (if t222 = true then (if t192 = (x5_1.length : Int) then (if t192 = 0 then (some true) else (if 0 ≤ (wrap64 (t192 - 1)) then (if (wrap64 (t192 - 1)) < (x5_1.length : Int) then (some (decide ((rd x5_1 (wrap64 (t192 - 1))) < a1))) else (none)) else (none))) else (if 0 ≤ t192 then (if t192 < (x5_1.length : Int) then (if (rd x5_1 t192) ≥ a1 then (if t192 = 0 then (some true) else (if 0 ≤ (wrap64 (t192 - 1)) then (if (wrap64 (t192 - 1)) < (x5_1.length : Int) then (some (decide ((rd x5_1 (wrap64 (t192 - 1))) < a1))) else (none)) else (none))) else (some false)) else (none)) else (none))) else (some false)) = some r := H
                                        have A65 := Aside0.mk A650
                                        clear A650
                                        by_cases c66 : t222 = true
                                        · subst c66
                                          have H1 : (if t192 = (x5_1.length : Int) then (if t192 = 0 then (some true) else (if 0 ≤ (wrap64 (t192 - 1)) then (if (wrap64 (t192 - 1)) < (x5_1.length : Int) then (some (decide ((rd x5_1 (wrap64 (t192 - 1))) < a1))) else (none)) else (none))) else (if 0 ≤ t192 then (if t192 < (x5_1.length : Int) then (if (rd x5_1 t192) ≥ a1 then (if t192 = 0 then (some true) else (if 0 ≤ (wrap64 (t192 - 1)) then (if (wrap64 (t192 - 1)) < (x5_1.length : Int) then (some (decide ((rd x5_1 (wrap64 (t192 - 1))) < a1))) else (none)) else (none))) else (some false)) else (none)) else (none))) = some r := by rw [if_pos rfl] at H; exact H
                                          clear H
                                          have H := H1
                                          clear H1
                                          by_cases c67 : t192 = (x5_1.length : Int)
                                          · rw [if_pos c67] at H
                                            have c67b0 : (t192 == (x5_1.length : Int)) = true := beq_iff_eq.mpr c67
                                            have c67b1 : (t192 != (x5_1.length : Int)) = false := bne_eq_false_iff_eq.mpr c67
                                            clear c67
                                            by_cases c68 : t192 = 0
                                            · rw [if_pos c68] at H
                                              have c68b0 : (t192 == 0) = true := beq_iff_eq.mpr c68
                                              have c68b1 : (t192 != 0) = false := bne_eq_false_iff_eq.mpr c68
                                              clear c68
                                              obtain rfl := Option.some.inj H
                                              obtain ⟨Ao69, co69, eo69⟩ := Kd.R_slice HO_11.out
                                              subst eo69
                                              go_wp2_with (first | ((with_reducible refine gate_callee (f := 9) rfl ?_); refine goesL_ (some 103) rfl rfl Try.func9 (by kernel_rfl) rfl #[] rfl (by (try simp only [List.map_toArray, List.map_cons, List.map_nil]); first | done | rfl | (simp only [List.length_drop, List.length_take]; rfl)) ?_; (with_reducible refine (scarflaw03_known.calls k4  true _ A65.out).mono ?_); rintro e w70 ⟨rfl, hb⟩; refine ⟨_, rfl, ?_⟩; have n0_ := Aside0.mk (Kd.R_below (by (with_reducible repeat (first | apply Kd.R_alloc | apply Kd.R_drewN | apply Kd.R_drew)); exact HO_5.out) hb); have n1_ := Aside0.mk (Kd.R_below (by (with_reducible repeat (first | apply Kd.R_alloc | apply Kd.R_drewN | apply Kd.R_drew)); exact HO_11.out) hb); have n2_ := Aside0.mk (below_step (by repeat (first | (with_reducible first | exact HB.out | apply below_alloc | apply pw_below_drewN | apply below_drew1) | exact HB.out)) hb); clear HO_5; clear HO_11; clear HB; have HO_5 := n0_; have HO_11 := n1_; have HB := n2_; clear n0_ n1_ n2_; (try clear hb); (try clear hb2); (try clear hk); (try clear hi)))
                                              go_ret
                                              exact ⟨by first | rfl | (simp [errW_none, errW_some] <;> rfl) | (simp [*, errW_none, errW_some] <;> rfl), by repeat (first | (with_reducible first | exact HB.out | apply below_alloc | apply pw_below_drewN | apply below_drew1) | exact HB.out)⟩
                                            · rw [if_neg c68] at H
                                              have c68b0 : (t192 == 0) = false := beq_eq_false_iff_ne.mpr c68
                                              have c68b1 : (t192 != 0) = true := bne_iff_ne.mpr c68
                                              obtain ⟨ji71, hji71⟩ : ∃ j_ : Int, (wrap64 (t192 - 1)) = j_ := ⟨_, rfl⟩
                                              replace H : (if 0 ≤ (ji71) then (if (ji71) < (x5_1.length : Int) then (some (decide ((rd x5_1 (ji71)) < a1))) else (none)) else (none)) = some r := by first | (rw [hji71] at H; exact H) | (simp only [hji71] at H ⊢; exact H)
                                              (try rw [hji71] at A65)
                                              have hji71w : (IntKind.i64.wrap (t192 - 1)) = ji71 := (i64_w _).trans hji71
                                              by_cases c72 : 0 ≤ (ji71)
                                              · rw [if_pos c72] at H
                                                have c72b0 : decide (0 ≤ (ji71)) = true := decide_eq_true c72
                                                clear c72
                                                by_cases c73 : (ji71) < (x5_1.length : Int)
                                                · rw [if_pos c73] at H
                                                  have c73b0 : decide ((ji71) < (x5_1.length : Int)) = true := decide_eq_true c73
                                                  clear c73
                                                  obtain rfl := Option.some.inj H
                                                  obtain ⟨Ao74, co74, eo74⟩ := Kd.R_slice HO_11.out
                                                  subst eo74
                                                  go_wp2_with (first | ((with_reducible refine gate_callee (f := 9) rfl ?_); refine goesL_ (some 103) rfl rfl Try.func9 (by kernel_rfl) rfl #[] rfl (by (try simp only [List.map_toArray, List.map_cons, List.map_nil]); first | done | rfl | (simp only [List.length_drop, List.length_take]; rfl)) ?_; (with_reducible refine (scarflaw03_known.calls k4  true _ A65.out).mono ?_); rintro e w75 ⟨rfl, hb⟩; refine ⟨_, rfl, ?_⟩; have n0_ := Aside0.mk (Kd.R_below (by (with_reducible repeat (first | apply Kd.R_alloc | apply Kd.R_drewN | apply Kd.R_drew)); exact HO_5.out) hb); have n1_ := Aside0.mk (Kd.R_below (by (with_reducible repeat (first | apply Kd.R_alloc | apply Kd.R_drewN | apply Kd.R_drew)); exact HO_11.out) hb); have n2_ := Aside0.mk (below_step (by repeat (first | (with_reducible first | exact HB.out | apply below_alloc | apply pw_below_drewN | apply below_drew1) | exact HB.out)) hb); clear HO_5; clear HO_11; clear HB; have HO_5 := n0_; have HO_11 := n1_; have HB := n2_; clear n0_ n1_ n2_; (try clear hb); (try clear hb2); (try clear hk); (try clear hi); have p223 : 0 ≤ ((ji71) : Int) := of_decide_eq_true (by first | (with_reducible assumption) | assumption); have q223 : (ji71) < (x5_1.length : Int) := of_decide_eq_true (by first | (with_reducible assumption) | assumption); obtain ⟨ad223, e223, hx223_0⟩ := Kd.at_int (Kd.R_reads' HO_5.out).2.2 (ji71) p223 q223; cases e223; replace p223 := eq_true p223; replace q223 := eq_true q223))
                                                  go_ret
                                                  exact ⟨by first | rfl | (simp [errW_none, errW_some] <;> rfl) | (simp only [← hji71]; first | rfl | (simp [errW_none, errW_some] <;> rfl)) | (simp [*, errW_none, errW_some] <;> rfl), by repeat (first | (with_reducible first | exact HB.out | apply below_alloc | apply pw_below_drewN | apply below_drew1) | exact HB.out)⟩
                                                · rw [if_neg c73] at H
                                                  exact absurd H (by simp)
                                              · rw [if_neg c72] at H
                                                exact absurd H (by simp)
                                          · rw [if_neg c67] at H
                                            have c67b0 : (t192 == (x5_1.length : Int)) = false := beq_eq_false_iff_ne.mpr c67
                                            have c67b1 : (t192 != (x5_1.length : Int)) = true := bne_iff_ne.mpr c67
                                            by_cases c76 : 0 ≤ t192
                                            · rw [if_pos c76] at H
                                              have c76b0 : decide (0 ≤ t192) = true := decide_eq_true c76
                                              clear c76
                                              by_cases c77 : t192 < (x5_1.length : Int)
                                              · rw [if_pos c77] at H
                                                have c77b0 : decide (t192 < (x5_1.length : Int)) = true := decide_eq_true c77
                                                clear c77
                                                by_cases c78 : (rd x5_1 t192) ≥ a1
                                                · rw [if_pos c78] at H
                                                  have c78b0 : decide (a1 ≤ (rd x5_1 t192)) = true := decide_eq_true c78
                                                  clear c78
                                                  by_cases c79 : t192 = 0
                                                  · rw [if_pos c79] at H
                                                    have c79b0 : (t192 == 0) = true := beq_iff_eq.mpr c79
                                                    have c79b1 : (t192 != 0) = false := bne_eq_false_iff_eq.mpr c79
                                                    clear c79
                                                    obtain rfl := Option.some.inj H
                                                    obtain ⟨Ao80, co80, eo80⟩ := Kd.R_slice HO_11.out
                                                    subst eo80
                                                    go_wp2_with (first | ((with_reducible refine gate_callee (f := 9) rfl ?_); refine goesL_ (some 103) rfl rfl Try.func9 (by kernel_rfl) rfl #[] rfl (by (try simp only [List.map_toArray, List.map_cons, List.map_nil]); first | done | rfl | (simp only [List.length_drop, List.length_take]; rfl)) ?_; (with_reducible refine (scarflaw03_known.calls k4  true _ A65.out).mono ?_); rintro e w81 ⟨rfl, hb⟩; refine ⟨_, rfl, ?_⟩; have n0_ := Aside0.mk (Kd.R_below (by (with_reducible repeat (first | apply Kd.R_alloc | apply Kd.R_drewN | apply Kd.R_drew)); exact HO_5.out) hb); have n1_ := Aside0.mk (Kd.R_below (by (with_reducible repeat (first | apply Kd.R_alloc | apply Kd.R_drewN | apply Kd.R_drew)); exact HO_11.out) hb); have n2_ := Aside0.mk (below_step (by repeat (first | (with_reducible first | exact HB.out | apply below_alloc | apply pw_below_drewN | apply below_drew1) | exact HB.out)) hb); clear HO_5; clear HO_11; clear HB; have HO_5 := n0_; have HO_11 := n1_; have HB := n2_; clear n0_ n1_ n2_; (try clear hb); (try clear hb2); (try clear hk); (try clear hi); have p224 : 0 ≤ (t192 : Int) := of_decide_eq_true (by first | (with_reducible assumption) | assumption); have q224 : t192 < (x5_1.length : Int) := of_decide_eq_true (by first | (with_reducible assumption) | assumption); obtain ⟨ad224, e224, hx224_0⟩ := Kd.at_int (Kd.R_reads' HO_5.out).2.2 t192 p224 q224; cases e224; replace p224 := eq_true p224; replace q224 := eq_true q224))
                                                    go_ret
                                                    exact ⟨by first | rfl | (simp [errW_none, errW_some] <;> rfl) | (simp [*, errW_none, errW_some] <;> rfl), by repeat (first | (with_reducible first | exact HB.out | apply below_alloc | apply pw_below_drewN | apply below_drew1) | exact HB.out)⟩
                                                  · rw [if_neg c79] at H
                                                    have c79b0 : (t192 == 0) = false := beq_eq_false_iff_ne.mpr c79
                                                    have c79b1 : (t192 != 0) = true := bne_iff_ne.mpr c79
                                                    obtain ⟨ji82, hji82⟩ : ∃ j_ : Int, (wrap64 (t192 - 1)) = j_ := ⟨_, rfl⟩
                                                    replace H : (if 0 ≤ (ji82) then (if (ji82) < (x5_1.length : Int) then (some (decide ((rd x5_1 (ji82)) < a1))) else (none)) else (none)) = some r := by first | (rw [hji82] at H; exact H) | (simp only [hji82] at H ⊢; exact H)
                                                    (try rw [hji82] at A65)
                                                    have hji82w : (IntKind.i64.wrap (t192 - 1)) = ji82 := (i64_w _).trans hji82
                                                    by_cases c83 : 0 ≤ (ji82)
                                                    · rw [if_pos c83] at H
                                                      have c83b0 : decide (0 ≤ (ji82)) = true := decide_eq_true c83
                                                      clear c83
                                                      by_cases c84 : (ji82) < (x5_1.length : Int)
                                                      · rw [if_pos c84] at H
                                                        have c84b0 : decide ((ji82) < (x5_1.length : Int)) = true := decide_eq_true c84
                                                        clear c84
                                                        obtain rfl := Option.some.inj H
                                                        obtain ⟨Ao85, co85, eo85⟩ := Kd.R_slice HO_11.out
                                                        subst eo85
                                                        go_wp2_with (first | ((with_reducible refine gate_callee (f := 9) rfl ?_); refine goesL_ (some 103) rfl rfl Try.func9 (by kernel_rfl) rfl #[] rfl (by (try simp only [List.map_toArray, List.map_cons, List.map_nil]); first | done | rfl | (simp only [List.length_drop, List.length_take]; rfl)) ?_; (with_reducible refine (scarflaw03_known.calls k4  true _ A65.out).mono ?_); rintro e w86 ⟨rfl, hb⟩; refine ⟨_, rfl, ?_⟩; have n0_ := Aside0.mk (Kd.R_below (by (with_reducible repeat (first | apply Kd.R_alloc | apply Kd.R_drewN | apply Kd.R_drew)); exact HO_5.out) hb); have n1_ := Aside0.mk (Kd.R_below (by (with_reducible repeat (first | apply Kd.R_alloc | apply Kd.R_drewN | apply Kd.R_drew)); exact HO_11.out) hb); have n2_ := Aside0.mk (below_step (by repeat (first | (with_reducible first | exact HB.out | apply below_alloc | apply pw_below_drewN | apply below_drew1) | exact HB.out)) hb); clear HO_5; clear HO_11; clear HB; have HO_5 := n0_; have HO_11 := n1_; have HB := n2_; clear n0_ n1_ n2_; (try clear hb); (try clear hb2); (try clear hk); (try clear hi); have p224 : 0 ≤ (t192 : Int) := of_decide_eq_true (by first | (with_reducible assumption) | assumption); have q224 : t192 < (x5_1.length : Int) := of_decide_eq_true (by first | (with_reducible assumption) | assumption); obtain ⟨ad224, e224, hx224_0⟩ := Kd.at_int (Kd.R_reads' HO_5.out).2.2 t192 p224 q224; cases e224; replace p224 := eq_true p224; replace q224 := eq_true q224; have p225 : 0 ≤ ((ji82) : Int) := of_decide_eq_true (by first | (with_reducible assumption) | assumption); have q225 : (ji82) < (x5_1.length : Int) := of_decide_eq_true (by first | (with_reducible assumption) | assumption); obtain ⟨ad225, e225, hx225_0⟩ := Kd.at_int (Kd.R_reads' HO_5.out).2.2 (ji82) p225 q225; obtain rfl : ad224 = ad225 := (by injection e225); replace p225 := eq_true p225; replace q225 := eq_true q225))
                                                        go_ret
                                                        exact ⟨by first | rfl | (simp [errW_none, errW_some] <;> rfl) | (simp only [← hji82]; first | rfl | (simp [errW_none, errW_some] <;> rfl)) | (simp [*, errW_none, errW_some] <;> rfl), by repeat (first | (with_reducible first | exact HB.out | apply below_alloc | apply pw_below_drewN | apply below_drew1) | exact HB.out)⟩
                                                      · rw [if_neg c84] at H
                                                        exact absurd H (by simp)
                                                    · rw [if_neg c83] at H
                                                      exact absurd H (by simp)
                                                · rw [if_neg c78] at H
                                                  have c78b0 : decide (a1 ≤ (rd x5_1 t192)) = false := decide_eq_false c78
                                                  clear c78
                                                  obtain rfl := Option.some.inj H
                                                  obtain ⟨Ao87, co87, eo87⟩ := Kd.R_slice HO_11.out
                                                  subst eo87
                                                  go_wp2_with (first | ((with_reducible refine gate_callee (f := 9) rfl ?_); refine goesL_ (some 103) rfl rfl Try.func9 (by kernel_rfl) rfl #[] rfl (by (try simp only [List.map_toArray, List.map_cons, List.map_nil]); first | done | rfl | (simp only [List.length_drop, List.length_take]; rfl)) ?_; (with_reducible refine (scarflaw03_known.calls k4  true _ A65.out).mono ?_); rintro e w88 ⟨rfl, hb⟩; refine ⟨_, rfl, ?_⟩; have n0_ := Aside0.mk (Kd.R_below (by (with_reducible repeat (first | apply Kd.R_alloc | apply Kd.R_drewN | apply Kd.R_drew)); exact HO_5.out) hb); have n1_ := Aside0.mk (Kd.R_below (by (with_reducible repeat (first | apply Kd.R_alloc | apply Kd.R_drewN | apply Kd.R_drew)); exact HO_11.out) hb); have n2_ := Aside0.mk (below_step (by repeat (first | (with_reducible first | exact HB.out | apply below_alloc | apply pw_below_drewN | apply below_drew1) | exact HB.out)) hb); clear HO_5; clear HO_11; clear HB; have HO_5 := n0_; have HO_11 := n1_; have HB := n2_; clear n0_ n1_ n2_; (try clear hb); (try clear hb2); (try clear hk); (try clear hi); have p224 : 0 ≤ (t192 : Int) := of_decide_eq_true (by first | (with_reducible assumption) | assumption); have q224 : t192 < (x5_1.length : Int) := of_decide_eq_true (by first | (with_reducible assumption) | assumption); obtain ⟨ad224, e224, hx224_0⟩ := Kd.at_int (Kd.R_reads' HO_5.out).2.2 t192 p224 q224; cases e224; replace p224 := eq_true p224; replace q224 := eq_true q224))
                                                  go_ret
                                                  exact ⟨by first | rfl | (simp [errW_none, errW_some] <;> rfl) | (simp [*, errW_none, errW_some] <;> rfl), by repeat (first | (with_reducible first | exact HB.out | apply below_alloc | apply pw_below_drewN | apply below_drew1) | exact HB.out)⟩
                                              · rw [if_neg c77] at H
                                                exact absurd H (by simp)
                                            · rw [if_neg c76] at H
                                              exact absurd H (by simp)
                                        · replace c66 := Bool.eq_false_iff.mpr c66
                                          subst c66
                                          have H1 : (some false) = some r := by rw [if_neg (show ¬ (false = true) by decide)] at H; exact H
                                          clear H
                                          have H := H1
                                          clear H1
                                          obtain rfl := Option.some.inj H
                                          obtain ⟨Ao89, co89, eo89⟩ := Kd.R_slice HO_11.out
                                          subst eo89
                                          go_wp2_with (first | ((with_reducible refine gate_callee (f := 9) rfl ?_); refine goesL_ (some 103) rfl rfl Try.func9 (by kernel_rfl) rfl #[] rfl (by (try simp only [List.map_toArray, List.map_cons, List.map_nil]); first | done | rfl | (simp only [List.length_drop, List.length_take]; rfl)) ?_; (with_reducible refine (scarflaw03_known.calls k4  false _ A65.out).mono ?_); rintro e w90 ⟨rfl, hb⟩; refine ⟨_, rfl, ?_⟩; have n0_ := Aside0.mk (Kd.R_below (by (with_reducible repeat (first | apply Kd.R_alloc | apply Kd.R_drewN | apply Kd.R_drew)); exact HO_5.out) hb); have n1_ := Aside0.mk (Kd.R_below (by (with_reducible repeat (first | apply Kd.R_alloc | apply Kd.R_drewN | apply Kd.R_drew)); exact HO_11.out) hb); have n2_ := Aside0.mk (below_step (by repeat (first | (with_reducible first | exact HB.out | apply below_alloc | apply pw_below_drewN | apply below_drew1) | exact HB.out)) hb); clear HO_5; clear HO_11; clear HB; have HO_5 := n0_; have HO_11 := n1_; have HB := n2_; clear n0_ n1_ n2_; (try clear hb); (try clear hb2); (try clear hk); (try clear hi)))
                                          go_ret
                                          exact ⟨by first | rfl | (simp [errW_none, errW_some] <;> rfl) | (simp [*, errW_none, errW_some] <;> rfl), by repeat (first | (with_reducible first | exact HB.out | apply below_alloc | apply pw_below_drewN | apply below_drew1) | exact HB.out)⟩
                          · rw [if_neg c34] at H
                            exact absurd H (by simp)
                        · rw [if_neg c31] at H
                          exact absurd H (by simp)
                      · rw [if_neg c30] at H
                        exact absurd H (by simp)
                    · rw [if_neg c29] at H
                      exact absurd H (by simp)
                  · rw [if_neg c28] at H
                    exact absurd H (by simp)
    · rw [if_neg c4] at H
      exact absurd H (by simp)
  · exact absurd kp0.out c3
end Go.Proofs.Ytlpopkknamigoaa.Q
