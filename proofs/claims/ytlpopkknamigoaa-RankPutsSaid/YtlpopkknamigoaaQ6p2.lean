-- Written by this repo's pp.py (the kit's print program with additions).
import Derived.Test.YtlpopkknamigoaaQ0
import Derived.Test.YtlpopkknamigoaaQ3
import Derived.Test.YtlpopkknamigoaaQ5
import Derived.Test.YtlpopkknamigoaaQ6d
namespace Go.Proofs.Ytlpopkknamigoaa.Q
open Go.RowKit Go.Proofs.YtlpopkknamigoaaW.PrintWords Go.Proofs.YtlpopkknamigoaaW.PrintLast Go.Proofs.YtlpopkknamigoaaW.PrintMore
attribute [local go_sem] max2_int min2_int max_two min_two max_three min_three max_four min_four   -- for this text's walks alone
set_option linter.unusedVariables false
set_option linter.unusedSimpArgs false

set_option maxHeartbeats 8000000 in
set_option maxRecDepth 100000 in
theorem scarflaw03_RankPuts.calls_p2 (k : Nat) (A0 : Option Addr) (c0 : Nat) (l0 : List Int) (a1 : Int) (r : Bool) (w : World) (hr0 : Kd.C (Kd.int .i64) w A0 l0.length l0) (hc0 : l0.length ≤ c0) (h : scarflaw03_RankPuts.f k l0 a1 = some r) (kp0 : Aside0 (¬ ((l0.length : Int) > 300))) :
    Calls Try.prog 7 #[.slice A0 l0.length c0, .int .i64 a1] w fun e w' => e = .returned (.bool r) ∧ Below w.heap.size w w' := by
  have HR0 := Aside0.mk hr0
  have HC0 := Aside0.mk hc0
  clear hr0 hc0
  have HB := Aside0.mk (Below.refl w.heap.size w)
  have H : (if (l0.length : Int) > 300 then (if 300 ≤ (l0.length : Int) then ((rank_Ints.f k (l0.take 300)).bind fun t179 => (scarflaw03_RankPuts.l0 k (l0.take 300) a1 ([] : List Int) t179 0)) else (none)) else ((rank_Ints.f k l0).bind fun t226 => (scarflaw03_RankPuts.l3 k l0 a1 ([] : List Int) t226 0))) = some r := h
  clear h
  by_cases c3 : (l0.length : Int) > 300
  · exact absurd c3 kp0.out
  · rw [if_neg c3] at H
    have c3b0 : decide (300 < (l0.length : Int)) = false := decide_eq_false c3
    have c3b1 : decide (300 < l0.length) = false := decide_eq_false (by omega)
    clear c3
    replace H := Option.bind_eq_some_iff.mp H
    obtain ⟨t226, A910, H⟩ := H
    replace H : (scarflaw03_RankPuts.l3 k l0 a1 ([] : List Int) t226 0) = some r := H
    have A91 := Aside0.mk A910
    clear A910
    have H' := Aside0.mk H
    clear H
    go_enter Try.func7, Try.ntmps7
    go_wp2_with (first | ((with_reducible refine gate_callee (f := 11) rfl ?_); refine goesL_ (some 19) rfl rfl Try.func11 (by kernel_rfl) rfl #[.slice A0 l0.length c0] rfl (by (try simp only [List.map_toArray, List.map_cons, List.map_nil]); first | done | rfl | (simp only [List.length_drop, List.length_take]; rfl)) ?_; (with_reducible refine (rank_Ints.calls k _ _ l0 t226 _ ?side1 ?side2 A91.out).mono ?_); (case side1 => repeat (first | exact HR0.out | (with_reducible refine Kd.C_alloc ?_ _) | (with_reducible refine Kd.C_drewN ?_ _) | (with_reducible refine Kd.C_drew ?_))); (case side2 => exact HC0.out); rintro e w92 ⟨v227, rfl, ho0, hb⟩; refine ⟨_, rfl, ?_⟩; have n0_ := Aside0.mk (Kd.R_lower ho0 (below_size (by repeat (first | (with_reducible first | exact HB.out | apply below_alloc | apply pw_below_drewN | apply below_drew1) | exact HB.out)))); have n1_ := Aside0.mk (below_step (by repeat (first | (with_reducible first | exact HB.out | apply below_alloc | apply pw_below_drewN | apply below_drew1) | exact HB.out)) hb); clear HB; have HO228 := n0_; have HB := n1_; clear n0_ n1_; (try clear hb); (try clear hb2); (try clear hk); (try clear hi); (try clear ho0)))
    go_loopg [5, 7] k (fun kq v5 v7 w' => ∃ (x5_1 : List Int) (x7_1 : Int), v7 = .int .i64 x7_1 ∧ Aside0 (scarflaw03_RankPuts.l3 kq l0 a1 x5_1 t226 x7_1 = some r) ∧ Aside0 (kq ≤ k) ∧ Aside0 (Kd.R (Kd.int .i64) 3 w' w.heap.size (fun k_ => some k_ ≠ (v227 : Value).ownBlock) v5 x5_1) ∧ Aside0 (Kd.R (Kd.int .i64) 3 w' w.heap.size (fun k_ => some k_ ≠ (v5 : Value).ownBlock) v227 t226) ∧ Aside0 (Below w.heap.size w w'))
    case atStart => exact ⟨(([] : List Int)), (0), (by first | rfl | (simp; done) | (simp [*]; done)), H', ⟨Nat.le_refl _⟩, ⟨by first | exact Kd.R_nil _ _ _ _ _ | exact Kd.N_nil _ _ _ _ _ | exact Kd.V_nil _ _ _ _ _ | exact Kd.Q_nil _ _ _ _ _ | exact Kd.S_nil _ _ _ _ _⟩, ⟨by (with_reducible repeat (first | apply Kd.R_alloc | apply Kd.R_drewN | apply Kd.R_drew)); exact Kd.R_mono HO228.out (fun _ hk => (by simp [Value.ownBlock]))⟩, ⟨by repeat (first | (with_reducible first | exact HB.out | apply below_alloc | apply pw_below_drewN | apply below_drew1) | exact HB.out)⟩⟩
    case round =>
      clear H'
      try clear c1
      try clear p1
      try clear q1
      try clear hx1
      try clear c2
      try clear p2
      try clear q2
      try clear hx2
      try clear c3
      try clear c3b0
      try clear c3b1
      try clear q3
      try clear c4
      try clear c4b0
      try clear c4b1
      try clear c5
      try clear c6
      try clear p6
      try clear c7
      try clear c8
      try clear c8b0
      try clear c9
      try clear c9b0
      try clear c10
      try clear c10b0
      try clear c11
      try clear c12
      try clear c12b0
      try clear c14
      try clear c14b0
      try clear c15
      try clear c15b0
      try clear c16
      try clear c18
      try clear p18
      try clear q18
      try clear hx18
      try clear p21
      try clear q21
      try clear hx21
      try clear p22
      try clear q22
      try clear hx22
      try clear c26
      try clear c26b0
      try clear c27
      try clear c28
      try clear c28b0
      try clear c28b1
      try clear c29
      try clear c29b0
      try clear c29b1
      try clear c30
      try clear c31
      try clear c32
      try clear c32b0
      try clear c33
      try clear c33b0
      try clear c34
      try clear q36
      try clear c37
      try clear q37
      try clear c47
      try clear c47b0
      try clear c49
      try clear c49b0
      try clear c50
      try clear c50b0
      try clear c51
      try clear c51b0
      try clear c52
      try clear c52b0
      try clear c60
      try clear c60b0
      try clear c61
      try clear c61b0
      try clear c62
      try clear c62b0
      try clear c62b1
      try clear p64
      try clear c66
      try clear c67
      try clear c67b0
      try clear c67b1
      try clear c68
      try clear c68b0
      try clear c68b1
      try clear c72
      try clear c72b0
      try clear c73
      try clear c73b0
      try clear c76
      try clear c76b0
      try clear c77
      try clear c77b0
      try clear c78
      try clear c78b0
      try clear c79
      try clear c79b0
      try clear c79b1
      try clear c83
      try clear c83b0
      try clear c84
      try clear c84b0
      try clear hx182_0
      try clear hx183_0
      try clear hx184_0
      try clear hx185_0
      try clear hx216_0
      try clear hx217_0
      try clear hx221_0
      try clear hx223_0
      try clear hx224_0
      try clear hx225_0
      try clear p1
      try clear p18
      try clear p182
      try clear p183
      try clear p184
      try clear p185
      try clear p2
      try clear p21
      try clear p216
      try clear p217
      try clear p221
      try clear p223
      try clear p224
      try clear p225
      try clear p6
      try clear q037
      try clear q1
      try clear q18
      try clear q182
      try clear q183
      try clear q184
      try clear q185
      try clear q2
      try clear q21
      try clear q216
      try clear q217
      try clear q221
      try clear q223
      try clear q224
      try clear q225
      try clear q3
      try clear q36
      try clear q37
      obtain ⟨x5_1, x7_1, rfl, HA, HK1, HO_5, HO_6, HB⟩ := hrel
      cases gk with
      | zero => exact absurd HA.out (by simp [scarflaw03_RankPuts.l3])
      | succ k1 =>
        have H := HA.out
        clear HA
        simp only [scarflaw03_RankPuts.l3] at H
        by_cases c93 : x7_1 < (t226.length : Int)
        · rw [if_pos c93] at H
          have c93b0 : decide (x7_1 < (t226.length : Int)) = true := decide_eq_true c93
          clear c93
          by_cases c94 : 0 ≤ x7_1
          · rw [if_pos c94] at H
            have c94b0 : decide (0 ≤ x7_1) = true := decide_eq_true c94
            clear c94
            by_cases c95 : (rd t226 x7_1) < 0
            · rw [if_pos c95] at H
              have c95b0 : decide ((rd t226 x7_1) < 0) = true := decide_eq_true c95
              clear c95
              obtain rfl := Option.some.inj H
              obtain ⟨Ao96, co96, eo96⟩ := Kd.R_slice HO_6.out
              subst eo96
              have p229 : 0 ≤ (x7_1 : Int) := of_decide_eq_true (by first | (with_reducible assumption) | assumption)
              have q229 : x7_1 < (t226.length : Int) := of_decide_eq_true (by first | (with_reducible assumption) | assumption)
              obtain ⟨ad229, e229, hx229_0⟩ := Kd.at_int (Kd.R_reads' HO_6.out).2.2 x7_1 p229 q229
              cases e229
              replace p229 := eq_true p229
              replace q229 := eq_true q229
              go_wp2
              go_ret
              exact ⟨by first | rfl | (simp [errW_none, errW_some] <;> rfl) | (simp [*, errW_none, errW_some] <;> rfl), by repeat (first | (with_reducible first | exact HB.out | apply below_alloc | apply pw_below_drewN | apply below_drew1) | exact HB.out)⟩
            · rw [if_neg c95] at H
              have c95b0 : decide ((rd t226 x7_1) < 0) = false := decide_eq_false c95
              clear c95
              by_cases c97 : (rd t226 x7_1) ≥ (l0.length : Int)
              · rw [if_pos c97] at H
                have c97b0 : decide ((l0.length : Int) ≤ (rd t226 x7_1)) = true := decide_eq_true c97
                clear c97
                obtain rfl := Option.some.inj H
                obtain ⟨Ao98, co98, eo98⟩ := Kd.R_slice HO_6.out
                subst eo98
                have p229 : 0 ≤ (x7_1 : Int) := of_decide_eq_true (by first | (with_reducible assumption) | assumption)
                have q229 : x7_1 < (t226.length : Int) := of_decide_eq_true (by first | (with_reducible assumption) | assumption)
                obtain ⟨ad229, e229, hx229_0⟩ := Kd.at_int (Kd.R_reads' HO_6.out).2.2 x7_1 p229 q229
                cases e229
                replace p229 := eq_true p229
                replace q229 := eq_true q229
                have p230 : 0 ≤ (x7_1 : Int) := of_decide_eq_true (by first | (with_reducible assumption) | assumption)
                have q230 : x7_1 < (t226.length : Int) := of_decide_eq_true (by first | (with_reducible assumption) | assumption)
                obtain ⟨ad230, e230, hx230_0⟩ := Kd.at_int (Kd.R_reads' HO_6.out).2.2 x7_1 p230 q230
                obtain rfl : ad229 = ad230 := (by injection e230)
                replace p230 := eq_true p230
                replace q230 := eq_true q230
                go_wp2
                go_ret
                exact ⟨by first | rfl | (simp [errW_none, errW_some] <;> rfl) | (simp [*, errW_none, errW_some] <;> rfl), by repeat (first | (with_reducible first | exact HB.out | apply below_alloc | apply pw_below_drewN | apply below_drew1) | exact HB.out)⟩
              · rw [if_neg c97] at H
                have c97b0 : decide ((l0.length : Int) ≤ (rd t226 x7_1)) = false := decide_eq_false c97
                clear c97
                by_cases c99 : 0 ≤ (rd t226 x7_1)
                · rw [if_pos c99] at H
                  have c99b0 : decide (0 ≤ (rd t226 x7_1)) = true := decide_eq_true c99
                  clear c99
                  by_cases c100 : (rd t226 x7_1) < (l0.length : Int)
                  · rw [if_pos c100] at H
                    have c100b0 : decide ((rd t226 x7_1) < (l0.length : Int)) = true := decide_eq_true c100
                    clear c100
                    obtain ⟨y233, hy233⟩ : ∃ y_ : List Int, y_ = (([rd l0 (rd t226 x7_1)] : List Int)) := ⟨_, rfl⟩
                    replace H : (if x5_1.length + y233.length < 17592186044416 then (scarflaw03_RankPuts.l3 k1 l0 a1 (x5_1 ++ y233) t226 (wrap64 (x7_1 + 1))) else (none)) = some r := by first | (rw [hy233]; with_reducible exact H) | (have H2_ := (Option.bind_some _ _).symm.trans H; rw [hy233]; with_reducible exact H2_) | (have H2_ := (Option.bind_some _ _).symm.trans H; with_reducible exact H2_) | with_reducible exact H | (rw [hy233]; exact H) | exact H
                    have Ny233 := Aside0.mk hy233
                    clear hy233
                    by_cases c101 : x5_1.length + y233.length < 17592186044416
                    · rw [if_pos c101] at H
                      have LMc101 := Aside0.mk c101
                      clear c101
                      obtain ⟨y236, hy236⟩ : ∃ y_ : List Int, y_ = (x5_1 ++ y233) := ⟨_, rfl⟩
                      replace H : (scarflaw03_RankPuts.l3 k1 l0 a1 y236 t226 (wrap64 (x7_1 + 1))) = some r := by first | (rw [hy236]; with_reducible exact H) | (have H2_ := (Option.bind_some _ _).symm.trans H; rw [hy236]; with_reducible exact H2_) | (have H2_ := (Option.bind_some _ _).symm.trans H; with_reducible exact H2_) | with_reducible exact H | (rw [hy236]; exact H) | exact H
                      have Ny236 := Aside0.mk hy236
                      clear hy236
                      have H' := Aside0.mk H
                      clear H
                      obtain ⟨Ao102, co102, eo102⟩ := Kd.R_slice HO_6.out
                      subst eo102
                      have p229 : 0 ≤ (x7_1 : Int) := of_decide_eq_true (by first | (with_reducible assumption) | assumption)
                      have q229 : x7_1 < (t226.length : Int) := of_decide_eq_true (by first | (with_reducible assumption) | assumption)
                      obtain ⟨ad229, e229, hx229_0⟩ := Kd.at_int (Kd.R_reads' HO_6.out).2.2 x7_1 p229 q229
                      cases e229
                      replace p229 := eq_true p229
                      replace q229 := eq_true q229
                      have p230 : 0 ≤ (x7_1 : Int) := of_decide_eq_true (by first | (with_reducible assumption) | assumption)
                      have q230 : x7_1 < (t226.length : Int) := of_decide_eq_true (by first | (with_reducible assumption) | assumption)
                      obtain ⟨ad230, e230, hx230_0⟩ := Kd.at_int (Kd.R_reads' HO_6.out).2.2 x7_1 p230 q230
                      obtain rfl : ad229 = ad230 := (by injection e230)
                      replace p230 := eq_true p230
                      replace q230 := eq_true q230
                      have p231 : 0 ≤ (x7_1 : Int) := of_decide_eq_true (by first | (with_reducible assumption) | assumption)
                      have q231 : x7_1 < (t226.length : Int) := of_decide_eq_true (by first | (with_reducible assumption) | assumption)
                      obtain ⟨ad231, e231, hx231_0⟩ := Kd.at_int (Kd.R_reads' HO_6.out).2.2 x7_1 p231 q231
                      obtain rfl : ad229 = ad231 := (by injection e231)
                      replace p231 := eq_true p231
                      replace q231 := eq_true q231
                      have p232 : 0 ≤ ((rd t226 x7_1) : Int) := of_decide_eq_true (by first | (with_reducible assumption) | assumption)
                      have q232 : (rd t226 x7_1) < (l0.length : Int) := of_decide_eq_true (by first | (with_reducible assumption) | assumption)
                      obtain ⟨ad232, e232, hx232_0⟩ := Kd.at_int HR0.out (rd t226 x7_1) p232 q232
                      cases e232
                      replace hx232_0 := (HB.out.cell (World.block_lt_of_cell? w _ hx232_0)).trans hx232_0
                      replace p232 := eq_true p232
                      replace q232 := eq_true q232
                      go_wp2_with (first | ((with_reducible refine gate_dst (N := 48) rfl ?_); (try (refine gate_guard (by rfl) ?_; dsimp only)); refine Kd.R_lit (Kd.int .i64) _ 3 ?hg (N := 48) ?hd (xs := ([rd l0 (rd t226 x7_1)] : List Int)) (inner := [.int .i64 (rd l0 (rd t226 x7_1))]) (ok := fun _ => True) (okp := fun _ => True) ?hr ?hp (fun _ hk => hk) trivial (Below.refl _ _) (Nat.le_refl _) (by simp) ?_; (case hd => rfl); (case hg => rfl); (case hr => first | (go_simp; done) | (go_simp; rfl)); (case hp => exact (Reps.one (show Kd.M (Kd.int .i64) _ _ _ (rd l0 (rd t226 x7_1)) [.int .i64 (rd l0 (rd t226 x7_1))] from rfl) (Reps.none _ _))); intro v234 w103 ho104 hb hg_ hnew_; clear hg_ hnew_; (first | rw [← Ny233.out] at ho104 | (simp only [Int.reduceToNat] at ho104; rw [← Ny233.out] at ho104)); have n0_ := Aside0.mk (Kd.R_elder' (by (with_reducible repeat (first | apply Kd.R_alloc | apply Kd.R_drewN | apply Kd.R_drew)); exact HO_5.out) (Kd.R_base ho104) hb); have n1_ := Aside0.mk (Kd.R_elder' (by (with_reducible repeat (first | apply Kd.R_alloc | apply Kd.R_drewN | apply Kd.R_drew)); exact HO_6.out) (Kd.R_base ho104) hb); have n2_ := Aside0.mk (Kd.R_lower (Kd.R_new' (Kd.R_new' ho104 (Kd.R_lt (by (with_reducible repeat (first | apply Kd.R_alloc | apply Kd.R_drewN | apply Kd.R_drew)); exact HO_5.out))) (Kd.R_lt (by (with_reducible repeat (first | apply Kd.R_alloc | apply Kd.R_drewN | apply Kd.R_drew)); exact HO_6.out))) (below_size (by repeat (first | (with_reducible first | exact HB.out | apply below_alloc | apply pw_below_drewN | apply below_drew1) | exact HB.out)))); have n3_ := Aside0.mk (below_step (by repeat (first | (with_reducible first | exact HB.out | apply below_alloc | apply pw_below_drewN | apply below_drew1) | exact HB.out)) hb); clear HO_5; clear HO_6; clear HB; have HO_5 := n0_; have HO_6 := n1_; have HO235 := n2_; have HB := n3_; clear n0_ n1_ n2_ n3_; clear hb ho104; obtain ⟨Ao106, co106, eo106⟩ := Kd.R_slice HO235.out; subst eo106) | ((with_reducible refine gate_builtin (b := .append) (xs := #[.tmp 40, .tmp 48]) rfl ?_); (try (refine gate_guard (by rfl) ?_; dsimp only)); at_builtin; refine Kd.R_append_rows (Kd.int .i64) (w0 := w) w.heap.size rfl (.tmp 40) (.tmp 48) 22 3 (.int .i64 0) 8 rfl Try.underlying22 info3 rfl (by decide) (by omega) u5 x5_1 y233 _ _ _ (fun k_ => some k_ ≠ (.slice (some ad229) t226.length co102 : Value).ownBlock ∧ some k_ ≠ (.slice Ao106 y233.length co106 : Value).ownBlock) (fun _ => False) rfl rfl ?aO ?aR (fun _ _ h => h) (fun _ h => h.elim) ?aF ?aB ?aS ?aL ?_; (case aR => repeat (first | exact (Kd.R_reads' HO235.out).2.2 | (with_reducible refine Kd.C_alloc ?_ _) | (with_reducible refine Kd.C_drewN ?_ _) | (with_reducible refine Kd.C_drew ?_))); (case aB => exact (by repeat (first | (with_reducible first | exact HB.out | apply below_alloc | apply pw_below_drewN | apply below_drew1) | exact HB.out))); (case aF => exact (fun k_ hk => ⟨Kd.fresh' (Kd.R_lt (by (with_reducible repeat (first | apply Kd.R_alloc | apply Kd.R_drewN | apply Kd.R_drew)); exact HO_6.out)) k_ hk, Kd.fresh' (Kd.R_lt (by (with_reducible repeat (first | apply Kd.R_alloc | apply Kd.R_drewN | apply Kd.R_drew)); exact HO235.out)) k_ hk⟩)); (case aO => exact (by (with_reducible repeat (first | apply Kd.R_alloc | apply Kd.R_drewN | apply Kd.R_drew)); exact HO_5.out)); (case aS => exact (below_size (by repeat (first | (with_reducible first | exact HB.out | apply below_alloc | apply pw_below_drewN | apply below_drew1) | exact HB.out)))); (case aL => have := LMc101.out; omega); intro v237 w105 ho hb hg hat; rw [← Ny236.out] at ho; have n0_ := Aside0.mk (Kd.R_after (ok := (fun k_ => some k_ ≠ (.slice Ao106 y233.length co106 : Value).ownBlock)) (by (with_reducible repeat (first | apply Kd.R_alloc | apply Kd.R_drewN | apply Kd.R_drew)); exact Kd.R_mono HO_6.out (fun _ hk => ⟨hk.2, hk.1⟩)) hg hat); have n1_ := Aside0.mk (Kd.R_after (ok := (fun k_ => some k_ ≠ (.slice (some ad229) t226.length co102 : Value).ownBlock)) (by (with_reducible repeat (first | apply Kd.R_alloc | apply Kd.R_drewN | apply Kd.R_drew)); exact Kd.R_mono HO235.out (fun _ hk => ⟨hk.2, hk.1.2⟩)) hg hat); have n2_ := Aside0.mk (hb); have n3_ := Aside0.mk (ho); clear HO_6; clear HO235; clear HB; clear HO_5; have HO_6 := n0_; have HO235 := n1_; have HB := n2_; have HO238 := n3_; clear n0_ n1_ n2_ n3_; clear ho hb hg hat))
                      go_roundg k1
                      case measure => have := HK1.out; omega
                      case rel => exact ⟨(y236), (wrap64 (x7_1 + 1)), (by first | rfl | (simp; done) | (simp [*]; done)), H', ⟨by have := HK1.out; omega⟩, ⟨by (with_reducible repeat (first | apply Kd.R_alloc | apply Kd.R_drewN | apply Kd.R_drew)); exact Kd.R_mono HO238.out (fun _ hk => hk.1)⟩, ⟨by (with_reducible repeat (first | apply Kd.R_alloc | apply Kd.R_drewN | apply Kd.R_drew)); exact Kd.R_mono HO_6.out (fun _ hk => hk.2)⟩, ⟨by repeat (first | (with_reducible first | exact HB.out | apply below_alloc | apply pw_below_drewN | apply below_drew1) | exact HB.out)⟩⟩
                    · rw [if_neg c101] at H
                      exact absurd H (by simp)
                  · rw [if_neg c100] at H
                    exact absurd H (by simp)
                · rw [if_neg c99] at H
                  exact absurd H (by simp)
          · rw [if_neg c94] at H
            exact absurd H (by simp)
        · rw [if_neg c93] at H
          have c93b0 : decide (x7_1 < (t226.length : Int)) = false := decide_eq_false c93
          clear c93
          replace H := Option.bind_eq_some_iff.mp H
          obtain ⟨t239, A1070, H⟩ := H
          replace H : (if t239 < 0 then (scarflaw03_RankPuts.j5 k1 a1 x5_1 t239 true) else (scarflaw03_RankPuts.j5 k1 a1 x5_1 t239 (decide (t239 > (x5_1.length : Int))))) = some r := H
          have A107 := Aside0.mk A1070
          clear A1070
          have HC108 := Aside0.mk H
          clear H
          obtain ⟨Ao109, co109, eo109⟩ := Kd.R_slice HO_6.out
          subst eo109
          obtain ⟨Ao110, co110, eo110⟩ := Kd.R_slice HO_5.out
          subst eo110
          go_upto_region 12 with (first | ((with_reducible refine gate_callee (f := 18) rfl ?_); refine goesL_ (some 52) rfl rfl Try.func18 (by kernel_rfl) rfl #[.slice Ao110 x5_1.length co110, .int .i64 a1] rfl (by (try simp only [List.map_toArray, List.map_cons, List.map_nil]); first | done | rfl | (simp only [List.length_drop, List.length_take]; rfl)) ?_; (with_reducible refine (rank_Place.calls k1 _ _ x5_1 a1 t239 _ ?side1 ?side2 A107.out).mono ?_); (case side1 => repeat (first | exact (Kd.R_reads' HO_5.out).2.2 | (with_reducible refine Kd.C_alloc ?_ _) | (with_reducible refine Kd.C_drewN ?_ _) | (with_reducible refine Kd.C_drew ?_))); (case side2 => exact (Kd.R_reads' HO_5.out).2.1); rintro e w' ⟨rfl, ⟨nd, rfl⟩⟩; refine ⟨_, rfl, ?_⟩))
          (try simp only [Act.put, List.setIfInBounds_toArray, List.set_cons_zero, List.set_cons_succ])
          go_cut [60] (fun v60 wc => ∃ (kq : Nat) (x60_107 : Bool), v60 = .bool x60_107 ∧ Aside0 (scarflaw03_RankPuts.j5 kq a1 x5_1 t239 x60_107 = some r) ∧ Aside0 (kq ≤ k1) ∧ Aside0 (Kd.R (Kd.int .i64) 3 wc w.heap.size (fun _ => True) (.slice Ao110 x5_1.length co110) x5_1) ∧ Aside0 (Below w.heap.size w wc))
          case first =>
            have H := HC108.out
            clear HC108
            by_cases c111 : t239 < 0
            · rw [if_pos c111] at H
              have c111b0 : decide (t239 < 0) = true := decide_eq_true c111
              clear c111
              (first | rw [c111b0] | (simp only [i64_w, i32_w]; rw [c111b0]) | skip)
              have H' := Aside0.mk H
              clear H
              go_wp2
              go_meet
              case rel => exact ⟨_, (true), (by first | rfl | (simp; done) | (simp [*]; done)), H', ⟨by have := HK1.out; first | omega | exact Nat.le_refl _⟩, ⟨by (with_reducible repeat (first | apply Kd.R_alloc | apply Kd.R_drewN | apply Kd.R_drew)); exact Kd.R_mono HO_5.out (fun _ hk => trivial)⟩, ⟨by repeat (first | (with_reducible first | exact HB.out | apply below_alloc | apply pw_below_drewN | apply below_drew1) | exact HB.out)⟩⟩
            · rw [if_neg c111] at H
              have c111b0 : decide (t239 < 0) = false := decide_eq_false c111
              clear c111
              (first | rw [c111b0] | (simp only [i64_w, i32_w]; rw [c111b0]) | skip)
              have H' := Aside0.mk H
              clear H
              go_wp2
              go_meet
              case rel => exact ⟨_, (decide (t239 > (x5_1.length : Int))), (by first | rfl | (simp; done) | (simp [*]; done)), H', ⟨by have := HK1.out; first | omega | exact Nat.le_refl _⟩, ⟨by (with_reducible repeat (first | apply Kd.R_alloc | apply Kd.R_drewN | apply Kd.R_drew)); exact Kd.R_mono HO_5.out (fun _ hk => trivial)⟩, ⟨by repeat (first | (with_reducible first | exact HB.out | apply below_alloc | apply pw_below_drewN | apply below_drew1) | exact HB.out)⟩⟩
          case rest =>
            clear HC108
            try clear c1
            try clear p1
            try clear q1
            try clear hx1
            try clear c2
            try clear p2
            try clear q2
            try clear hx2
            try clear c3
            try clear c3b0
            try clear c3b1
            try clear q3
            try clear c4
            try clear c4b0
            try clear c4b1
            try clear c5
            try clear c6
            try clear p6
            try clear c7
            try clear c8
            try clear c8b0
            try clear c9
            try clear c9b0
            try clear c10
            try clear c10b0
            try clear c11
            try clear c12
            try clear c12b0
            try clear c14
            try clear c14b0
            try clear c15
            try clear c15b0
            try clear c16
            try clear c18
            try clear p18
            try clear q18
            try clear hx18
            try clear p21
            try clear q21
            try clear hx21
            try clear p22
            try clear q22
            try clear hx22
            try clear p23
            try clear q23
            try clear hx23
            try clear c26
            try clear c26b0
            try clear c27
            try clear c28
            try clear c28b0
            try clear c28b1
            try clear c29
            try clear c29b0
            try clear c29b1
            try clear c30
            try clear c31
            try clear c32
            try clear c32b0
            try clear c33
            try clear c33b0
            try clear c34
            try clear q36
            try clear c37
            try clear q37
            try clear c47
            try clear c47b0
            try clear c49
            try clear c49b0
            try clear c50
            try clear c50b0
            try clear c51
            try clear c51b0
            try clear c52
            try clear c52b0
            try clear c60
            try clear c60b0
            try clear c61
            try clear c61b0
            try clear c62
            try clear c62b0
            try clear c62b1
            try clear p64
            try clear c66
            try clear c67
            try clear c67b0
            try clear c67b1
            try clear c68
            try clear c68b0
            try clear c68b1
            try clear c72
            try clear c72b0
            try clear c73
            try clear c73b0
            try clear c76
            try clear c76b0
            try clear c77
            try clear c77b0
            try clear c78
            try clear c78b0
            try clear c79
            try clear c79b0
            try clear c79b1
            try clear c83
            try clear c83b0
            try clear c84
            try clear c84b0
            try clear c93
            try clear c93b0
            try clear c94
            try clear c94b0
            try clear c95
            try clear c95b0
            try clear c97
            try clear c97b0
            try clear c99
            try clear c99b0
            try clear c100
            try clear c100b0
            try clear c101
            try clear c111
            try clear c111b0
            try clear hx182_0
            try clear hx183_0
            try clear hx184_0
            try clear hx185_0
            try clear hx216_0
            try clear hx217_0
            try clear hx221_0
            try clear hx223_0
            try clear hx224_0
            try clear hx225_0
            try clear hx229_0
            try clear hx230_0
            try clear hx231_0
            try clear hx232_0
            try clear p1
            try clear p18
            try clear p182
            try clear p183
            try clear p184
            try clear p185
            try clear p2
            try clear p21
            try clear p216
            try clear p217
            try clear p22
            try clear p221
            try clear p223
            try clear p224
            try clear p225
            try clear p229
            try clear p230
            try clear p231
            try clear p232
            try clear p6
            try clear p64
            try clear q037
            try clear q1
            try clear q18
            try clear q182
            try clear q183
            try clear q184
            try clear q185
            try clear q2
            try clear q21
            try clear q216
            try clear q217
            try clear q22
            try clear q221
            try clear q223
            try clear q224
            try clear q225
            try clear q229
            try clear q230
            try clear q231
            try clear q232
            try clear q3
            try clear q36
            try clear q37
            obtain ⟨kq, x60_107, rfl, HA, HJ107, HO_5, HB⟩ := hcut
            cases kq with
            | zero => exact absurd HA.out (by simp [scarflaw03_RankPuts.j5])
            | succ kj107 =>
              have H := HA.out
              clear HA
              simp only [scarflaw03_RankPuts.j5] at H
              by_cases c112 : x60_107 = true
              · subst c112
                have H1 : (some false) = some r := by rw [if_pos rfl] at H; exact H
                clear H
                have H := H1
                clear H1
                obtain rfl := Option.some.inj H
                go_wp2
                go_ret
                exact ⟨by first | rfl | (simp [errW_none, errW_some] <;> rfl) | (simp [*, errW_none, errW_some] <;> rfl), by repeat (first | (with_reducible first | exact HB.out | apply below_alloc | apply pw_below_drewN | apply below_drew1) | exact HB.out)⟩
              · replace c112 := Bool.eq_false_iff.mpr c112
                subst c112
                have H1 : ((some (([] : List Int) : List Int)).bind fun y240 => (if 0 ≤ t239 then (if t239 ≤ (x5_1.length : Int) then ((some (x5_1.take (t239 : Int).toNat : List Int)).bind fun y243 => (if y240.length + y243.length < 17592186044416 then ((some (y240 ++ y243 : List Int)).bind fun y247 => ((some (([a1] : List Int) : List Int)).bind fun y250 => (if y247.length + y250.length < 17592186044416 then ((some (y247 ++ y250 : List Int)).bind fun y253 => ((some (x5_1.drop (t239 : Int).toNat : List Int)).bind fun y256 => (if y253.length + y256.length < 17592186044416 then (scarflaw03_RankPuts.l4 kj107 a1 x5_1 t239 (y253 ++ y256) 1) else (none)))) else (none)))) else (none))) else (none)) else (none))) = some r := by rw [if_neg (show ¬ (false = true) by decide)] at H; exact H
                clear H
                have H := H1
                clear H1
                obtain ⟨y240, hy240⟩ : ∃ y_ : List Int, y_ = (([] : List Int)) := ⟨_, rfl⟩
                replace H : (if 0 ≤ t239 then (if t239 ≤ (x5_1.length : Int) then ((some (x5_1.take (t239 : Int).toNat : List Int)).bind fun y243 => (if y240.length + y243.length < 17592186044416 then ((some (y240 ++ y243 : List Int)).bind fun y247 => ((some (([a1] : List Int) : List Int)).bind fun y250 => (if y247.length + y250.length < 17592186044416 then ((some (y247 ++ y250 : List Int)).bind fun y253 => ((some (x5_1.drop (t239 : Int).toNat : List Int)).bind fun y256 => (if y253.length + y256.length < 17592186044416 then (scarflaw03_RankPuts.l4 kj107 a1 x5_1 t239 (y253 ++ y256) 1) else (none)))) else (none)))) else (none))) else (none)) else (none)) = some r := by first | (rw [hy240]; with_reducible exact H) | (have H2_ := (Option.bind_some _ _).symm.trans H; rw [hy240]; with_reducible exact H2_) | (have H2_ := (Option.bind_some _ _).symm.trans H; with_reducible exact H2_) | with_reducible exact H | (rw [hy240]; exact H) | exact H
                have Ny240 := Aside0.mk hy240
                clear hy240
                by_cases c113 : 0 ≤ t239
                · rw [if_pos c113] at H
                  have c113b0 := eq_true c113
                  have c113b1 : decide (0 ≤ t239) = true := decide_eq_true c113
                  clear c113
                  by_cases c114 : t239 ≤ (x5_1.length : Int)
                  · rw [if_pos c114] at H
                    have c114b0 := eq_true c114
                    have c114b1 : decide (t239 ≤ (x5_1.length : Int)) = true := decide_eq_true c114
                    clear c114
                    obtain ⟨y243, hy243⟩ : ∃ y_ : List Int, y_ = (x5_1.take (t239 : Int).toNat) := ⟨_, rfl⟩
                    replace H : (if y240.length + y243.length < 17592186044416 then ((some (y240 ++ y243 : List Int)).bind fun y247 => ((some (([a1] : List Int) : List Int)).bind fun y250 => (if y247.length + y250.length < 17592186044416 then ((some (y247 ++ y250 : List Int)).bind fun y253 => ((some (x5_1.drop (t239 : Int).toNat : List Int)).bind fun y256 => (if y253.length + y256.length < 17592186044416 then (scarflaw03_RankPuts.l4 kj107 a1 x5_1 t239 (y253 ++ y256) 1) else (none)))) else (none)))) else (none)) = some r := by first | (rw [hy243]; with_reducible exact H) | (have H2_ := (Option.bind_some _ _).symm.trans H; rw [hy243]; with_reducible exact H2_) | (have H2_ := (Option.bind_some _ _).symm.trans H; with_reducible exact H2_) | with_reducible exact H | (rw [hy243]; exact H) | exact H
                    have Ny243 := Aside0.mk hy243
                    clear hy243
                    by_cases c115 : y240.length + y243.length < 17592186044416
                    · rw [if_pos c115] at H
                      have LMc115 := Aside0.mk c115
                      clear c115
                      obtain ⟨y247, hy247⟩ : ∃ y_ : List Int, y_ = (y240 ++ y243) := ⟨_, rfl⟩
                      replace H : ((some (([a1] : List Int) : List Int)).bind fun y250 => (if y247.length + y250.length < 17592186044416 then ((some (y247 ++ y250 : List Int)).bind fun y253 => ((some (x5_1.drop (t239 : Int).toNat : List Int)).bind fun y256 => (if y253.length + y256.length < 17592186044416 then (scarflaw03_RankPuts.l4 kj107 a1 x5_1 t239 (y253 ++ y256) 1) else (none)))) else (none))) = some r := by first | (rw [hy247]; with_reducible exact H) | (have H2_ := (Option.bind_some _ _).symm.trans H; rw [hy247]; with_reducible exact H2_) | (have H2_ := (Option.bind_some _ _).symm.trans H; with_reducible exact H2_) | with_reducible exact H | (rw [hy247]; exact H) | exact H
                      have Ny247 := Aside0.mk hy247
                      clear hy247
                      obtain ⟨y250, hy250⟩ : ∃ y_ : List Int, y_ = (([a1] : List Int)) := ⟨_, rfl⟩
                      replace H : (if y247.length + y250.length < 17592186044416 then ((some (y247 ++ y250 : List Int)).bind fun y253 => ((some (x5_1.drop (t239 : Int).toNat : List Int)).bind fun y256 => (if y253.length + y256.length < 17592186044416 then (scarflaw03_RankPuts.l4 kj107 a1 x5_1 t239 (y253 ++ y256) 1) else (none)))) else (none)) = some r := by first | (rw [hy250]; with_reducible exact H) | (have H2_ := (Option.bind_some _ _).symm.trans H; rw [hy250]; with_reducible exact H2_) | (have H2_ := (Option.bind_some _ _).symm.trans H; with_reducible exact H2_) | with_reducible exact H | (rw [hy250]; exact H) | exact H
                      have Ny250 := Aside0.mk hy250
                      clear hy250
                      by_cases c116 : y247.length + y250.length < 17592186044416
                      · rw [if_pos c116] at H
                        have LMc116 := Aside0.mk c116
                        clear c116
                        obtain ⟨y253, hy253⟩ : ∃ y_ : List Int, y_ = (y247 ++ y250) := ⟨_, rfl⟩
                        replace H : ((some (x5_1.drop (t239 : Int).toNat : List Int)).bind fun y256 => (if y253.length + y256.length < 17592186044416 then (scarflaw03_RankPuts.l4 kj107 a1 x5_1 t239 (y253 ++ y256) 1) else (none))) = some r := by first | (rw [hy253]; with_reducible exact H) | (have H2_ := (Option.bind_some _ _).symm.trans H; rw [hy253]; with_reducible exact H2_) | (have H2_ := (Option.bind_some _ _).symm.trans H; with_reducible exact H2_) | with_reducible exact H | (rw [hy253]; exact H) | exact H
                        have Ny253 := Aside0.mk hy253
                        clear hy253
                        have c117b0 := eq_true (of_decide_eq_true (by first | (with_reducible assumption) | assumption) : 0 ≤ t239)
                        have c118b0 := eq_true (of_decide_eq_true (by first | (with_reducible assumption) | assumption) : t239 ≤ (x5_1.length : Int))
                        obtain ⟨y256, hy256⟩ : ∃ y_ : List Int, y_ = (x5_1.drop (t239 : Int).toNat) := ⟨_, rfl⟩
                        replace H : (if y253.length + y256.length < 17592186044416 then (scarflaw03_RankPuts.l4 kj107 a1 x5_1 t239 (y253 ++ y256) 1) else (none)) = some r := by first | (rw [hy256]; with_reducible exact H) | (have H2_ := (Option.bind_some _ _).symm.trans H; rw [hy256]; with_reducible exact H2_) | (have H2_ := (Option.bind_some _ _).symm.trans H; with_reducible exact H2_) | with_reducible exact H | (rw [hy256]; exact H) | exact H
                        have Ny256 := Aside0.mk hy256
                        clear hy256
                        by_cases c119 : y253.length + y256.length < 17592186044416
                        · rw [if_pos c119] at H
                          have LMc119 := Aside0.mk c119
                          clear c119
                          obtain ⟨y260, hy260⟩ : ∃ y_ : List Int, y_ = (y253 ++ y256) := ⟨_, rfl⟩
                          replace H : (scarflaw03_RankPuts.l4 kj107 a1 x5_1 t239 y260 1) = some r := by first | (rw [hy260]; with_reducible exact H) | (have H2_ := (Option.bind_some _ _).symm.trans H; rw [hy260]; with_reducible exact H2_) | (have H2_ := (Option.bind_some _ _).symm.trans H; with_reducible exact H2_) | with_reducible exact H | (rw [hy260]; exact H) | exact H
                          have Ny260 := Aside0.mk hy260
                          clear hy260
                          have H' := Aside0.mk H
                          clear H
                          try go_wp2
                          have n0_ := Aside0.mk (Kd.R_drew HO_5.out)
                          have n1_ := Aside0.mk (below_drew1 HB.out)
                          clear HO_5
                          clear HB
                          have HO_5 := n0_
                          have HB := n1_
                          clear n0_ n1_
                          have q121 : (t239 : Int) ≤ ((x5_1.length : Int) : Int) := of_decide_eq_true (by first | (with_reducible assumption) | assumption)
                          obtain ⟨i0121, hi0121, _, hsz121, _⟩ := info_parts info3
                          have hroom121 : x5_1.length ≤ co110 := (Kd.R_reads' HO_5.out).2.1
                          have hC121 : Kd.C (Kd.int .i64) _ Ao110 x5_1.length x5_1 := (Kd.R_reads' HO_5.out).2.2
                          have hcut121 := cut_to (P := Try.prog) 22 3 .i64 Try.underlying22 hi0121 Ao110 x5_1.length co110 t239 (of_decide_eq_true (by first | (with_reducible assumption) | assumption)) q121 hroom121
                          have hr121 := Kd.C_take (m := (t239 : Int).toNat) hC121 (by omega)
                          have hy121 : y243.length = (t239 : Int).toNat := (by rw [Ny243.out, List.length_take]; omega)
                          rw [← Ny243.out] at hr121
                          rw [← hy121] at hcut121
                          have HR246 := Aside0.mk hr121
                          have HC246 := Aside0.mk (show y243.length ≤ co110 from by omega)
                          clear hr121 hC121 hroom121 hi0121 hsz121
                          have KY121 := Aside0.mk hy121
                          clear hy121
                          have KL121 := Aside0.mk (show (t239 : Int).toNat ≤ x5_1.length from by omega)
                          replace q121 := eq_true q121
                          have q122 : (t239 : Int) ≤ ((x5_1.length : Int) : Int) := of_decide_eq_true (by first | (with_reducible assumption) | assumption)
                          obtain ⟨i0122, hi0122, _, hsz122, _⟩ := info_parts info3
                          have hroom122 : x5_1.length ≤ co110 := (Kd.R_reads' HO_5.out).2.1
                          have hC122 : Kd.C (Kd.int .i64) _ Ao110 x5_1.length x5_1 := (Kd.R_reads' HO_5.out).2.2
                          have q0122 : (0 : Int) ≤ (t239 : Int) := of_decide_eq_true (by first | (with_reducible assumption) | assumption)
                          have hcut122 := cut_from (P := Try.prog) 22 3 .i64 Try.underlying22 hi0122 1 hsz122 Ao110 x5_1.length co110 t239 q0122 q122
                          have hr122 := Kd.C_drop (m := (t239 : Int).toNat) (c := co110) hC122 (by omega) hroom122
                          obtain ⟨A122, hA122⟩ : ∃ A1, A1 = (if co110 = (t239 : Int).toNat then Ao110 else (Ao110 : Option Addr).map (·.add ((t239 : Int).toNat * 1))) := ⟨_, rfl⟩
                          obtain ⟨c122, hc122⟩ : ∃ c1, c1 = co110 - (t239 : Int).toNat := ⟨_, rfl⟩
                          have hy122 : y256.length = x5_1.length - (t239 : Int).toNat := (by rw [Ny256.out, List.length_drop] <;> omega)
                          rw [show (x5_1).drop (t239 : Int).toNat = y256 from Ny256.out.symm] at hr122
                          replace hr122 : Kd.C (Kd.int .i64) _ A122 y256.length y256 := (by rw [hA122]; exact hr122)
                          rw [← hy122, ← hA122, ← hc122] at hcut122
                          have HR259 := Aside0.mk hr122
                          have HC259 := Aside0.mk (show y256.length ≤ c122 from by rw [hy122, hc122]; exact Nat.sub_le_sub_right hroom122 _)
                          clear hr122 hC122 hroom122 hi0122 hsz122 hc122
                          have KY122 := Aside0.mk hy122
                          have KA122 := Aside0.mk hA122
                          clear hy122 hA122
                          have KL122 := Aside0.mk (show (t239 : Int).toNat ≤ x5_1.length from by omega)
                          replace q122 := eq_true q122
                          refine start_ (n := 13) (S := fun w' => True) (ds := []) #[false, false, false, false, false, false, false, false, false, false, false, false, false] (by kernel_rfl) rfl rfl trivial (fun hHeld => ?_); refine with_tabW scarflaw03_RankPuts.tab14 scarflaw03_RankPuts.bits14 (fun HT_ HW_ => ?_)
                          generalize wc.drew = w120 at HO_5 HB HR246 HR259 hHeld ⊢
                          refine pure_ (i := 1) (N := some 62) (v := ?_) (a' := ?_) #[false, true, false, false, false, false, false, false, false, false, false, false, false] rfl rfl (any_of HT_.out (by kernel_rfl)) (fun _ _ _ h => h) (Or.inl ⟨by rfl, ?_⟩) ?_ ?_
                          rotate_left
                          · intro w'
                            go_simp
                            with_reducible rfl
                          rotate_left
                          · simp only [Act.put, List.setIfInBounds_toArray, List.set_cons_zero, List.set_cons_succ, i64_w, i32_w]
                            rfl
                          refine pure_ (i := 2) (N := some 63) (v := ?_) (a' := ?_) #[false, true, true, false, false, false, false, false, false, false, false, false, false] rfl rfl (any_of HT_.out (by kernel_rfl)) (fun _ _ _ h => h) (Or.inl ⟨by rfl, ?_⟩) ?_ ?_
                          rotate_left
                          · intro w'
                            go_simp
                            with_reducible rfl
                          rotate_left
                          · simp only [Act.put, List.setIfInBounds_toArray, List.set_cons_zero, List.set_cons_succ, i64_w, i32_w]
                            rfl
                          refine pure_ (i := 3) (N := some 64) (v := ?_) (a' := ?_) #[false, true, true, true, false, false, false, false, false, false, false, false, false] rfl rfl (any_of HT_.out (by kernel_rfl)) (fun _ _ _ h => h) (Or.inl ⟨by rfl, ?_⟩) ?_ ?_
                          rotate_left
                          · intro w'
                            go_simp
                            with_reducible rfl
                          rotate_left
                          · simp only [Act.put, List.setIfInBounds_toArray, List.set_cons_zero, List.set_cons_succ, i64_w, i32_w]
                            rfl
                          refine pure_ (i := 5) (N := some 66) (v := ?_) (a' := ?_) #[false, true, true, true, false, true, false, false, false, false, false, false, false] rfl rfl (any_of HT_.out (by kernel_rfl)) (fun _ _ _ h => h) (Or.inl ⟨by rfl, ?_⟩) ?_ ?_
                          rotate_left
                          · intro w'
                            go_simp
                            with_reducible rfl
                          rotate_left
                          · simp only [Act.put, List.setIfInBounds_toArray, List.set_cons_zero, List.set_cons_succ, i64_w, i32_w]
                            rfl
                          refine pure_ (i := 8) (N := some 69) (v := ?_) (a' := ?_) #[false, true, true, true, false, true, false, false, true, false, false, false, false] rfl rfl (any_of HT_.out (by kernel_rfl)) (fun _ _ _ h => h) (Or.inl ⟨by rfl, ?_⟩) ?_ ?_
                          rotate_left
                          · intro w'
                            go_simp
                            with_reducible rfl
                          rotate_left
                          · simp only [Act.put, List.setIfInBounds_toArray, List.set_cons_zero, List.set_cons_succ, i64_w, i32_w]
                            rfl
                          refine pure_ (i := 9) (N := some 70) (v := ?_) (a' := ?_) #[false, true, true, true, false, true, false, false, true, true, false, false, false] rfl rfl (any_of HT_.out (by kernel_rfl)) (fun _ _ _ h => h) (Or.inl ⟨by rfl, ?_⟩) ?_ ?_
                          rotate_left
                          · intro w'
                            go_simp
                            with_reducible rfl
                          rotate_left
                          · simp only [Act.put, List.setIfInBounds_toArray, List.set_cons_zero, List.set_cons_succ, i64_w, i32_w]
                            rfl
                          refine pure_ (i := 10) (N := some 71) (v := ?_) (a' := ?_) #[false, true, true, true, false, true, false, false, true, true, true, false, false] rfl rfl (any_of HT_.out (by kernel_rfl)) (fun _ _ _ h => h) (Or.inl ⟨by rfl, ?_⟩) ?_ ?_
                          rotate_left
                          · intro w'
                            go_simp
                            with_reducible rfl
                          rotate_left
                          · simp only [Act.put, List.setIfInBounds_toArray, List.set_cons_zero, List.set_cons_succ, i64_w, i32_w]
                            rfl
                          refine join_ (σ := Value × Value × Value) 3 #[true, true, true, true, true, true, true, false, true, true, true, false, false] (fun s_ => [(61, s_.1), (65, s_.2.1), (67, s_.2.2)]) (fun s_ w' => (Kd.R (Kd.int .i64) 3 w' w.heap.size (fun k_ => some k_ ≠ (s_.2.2 : Value).ownBlock ∧ some k_ ≠ (.slice Ao110 x5_1.length co110 : Value).ownBlock) s_.2.1 y247) ∧ (Kd.R (Kd.int .i64) 3 w' w.heap.size (fun k_ => some k_ ≠ (s_.2.1 : Value).ownBlock ∧ some k_ ≠ (.slice Ao110 x5_1.length co110 : Value).ownBlock) s_.2.2 y250) ∧ (Kd.R (Kd.int .i64) 3 w' w.heap.size (fun k_ => some k_ ≠ (s_.2.1 : Value).ownBlock ∧ some k_ ≠ (s_.2.2 : Value).ownBlock) (.slice Ao110 x5_1.length co110) x5_1) ∧ (Below w.heap.size w w')) ?_ ?_
                          rotate_left
                          · intro hCont
                            refine two_ (i := 0) (j := 6) (Ni := some 61) (Nj := some 67) #[true, true, true, true, false, true, false, false, true, true, true, false, false] #[false, true, true, true, false, true, true, false, true, true, true, false, false] rfl rfl rfl rfl (two_of HT_.out (by kernel_rfl)) (by decide) (by decide) (fun K hK => ?_) (fun K hK => ?_)
                            · skip
                              refine Kd.R_lit_step (Kd.int .i64) _ 3 ?hg (N := 61) ?hd (xs := ([] : List Int)) (inner := []) (ok := fun _ => True) (okp := fun _ => True) ?hr ?hp (fun _ hk => hk) trivial (Below.refl _ _) (Nat.le_refl _) (by simp) ?_; (case hd => rfl); (case hg => rfl); (case hr => first | (go_simp; done) | (go_simp; rfl)); (case hp => exact (Reps.none _ _))
                              intro v241 w123 ho124 hb hg_ hnew_
                              clear hg_ hnew_
                              (first | rw [← Ny240.out] at ho124 | (simp only [Int.reduceToNat] at ho124; rw [← Ny240.out] at ho124))
                              have n0_ := Aside0.mk (Kd.R_elder' (by (with_reducible repeat (first | apply Kd.R_alloc | apply Kd.R_drewN | apply Kd.R_drew)); exact HO_5.out) (Kd.R_base ho124) hb)
                              have n1_ := Aside0.mk (Kd.R_lower (Kd.R_new' ho124 (Kd.R_lt (by (with_reducible repeat (first | apply Kd.R_alloc | apply Kd.R_drewN | apply Kd.R_drew)); exact HO_5.out))) (below_size (by repeat (first | (with_reducible first | exact HB.out | apply below_alloc | apply pw_below_drewN | apply below_drew1) | exact HB.out))))
                              have n2_ := Aside0.mk (Kd.C_below (by repeat (first | (with_reducible exact HR246.out) | (with_reducible refine Kd.C_alloc ?_ _) | (with_reducible refine Kd.C_drewN ?_ _) | (with_reducible refine Kd.C_drew ?_) | exact HR246.out)) hb)
                              have n3_ := Aside0.mk (Kd.C_below (by repeat (first | (with_reducible exact HR259.out) | (with_reducible refine Kd.C_alloc ?_ _) | (with_reducible refine Kd.C_drewN ?_ _) | (with_reducible refine Kd.C_drew ?_) | exact HR259.out)) hb)
                              have n4_ := Aside0.mk (below_step (by repeat (first | (with_reducible first | exact HB.out | apply below_alloc | apply pw_below_drewN | apply below_drew1) | exact HB.out)) hb)
                              clear HO_5
                              clear HR246
                              clear HR259
                              clear HB
                              have HO_5 := n0_
                              have HO242 := n1_
                              have HR246 := n2_
                              have HR259 := n3_
                              have HB := n4_
                              clear n0_ n1_ n2_ n3_ n4_
                              clear hb ho124
                              refine hK.out _ _ trivial (fun hHeld => ?_)
                              clear hK K
                              refine norm_ (a' := ?_) ?_ ?_
                              rotate_left
                              · show Act.put _ (some 61) _ = _
                                simp only [Act.put, List.setIfInBounds_toArray, List.set_cons_zero, List.set_cons_succ, i64_w, i32_w]
                                rfl
                              refine two_ (i := 4) (j := 6) (Ni := some 65) (Nj := some 67) #[true, true, true, true, true, true, false, false, true, true, true, false, false] #[true, true, true, true, false, true, true, false, true, true, true, false, false] rfl rfl rfl rfl (two_of HT_.out (by kernel_rfl)) (by decide) (by decide) (fun K hK => ?_) (fun K hK => ?_)
                              · skip
                                refine Kd.R_append_rows_step (Kd.int .i64) (w0 := w) w.heap.size (by rfl) (.tmp 61) (.tmp 64) 22 3 (.int .i64 0) 8 rfl Try.underlying22 info3 rfl (by decide) (by omega) v241 y240 y243 _ _ _ (fun k_ => some k_ ≠ (.slice Ao110 x5_1.length co110 : Value).ownBlock) (fun _ => False) rfl rfl ?aO ?aR (fun _ _ h => h) (fun _ h => h.elim) ?aF ?aB ?aS ?aL ?_
                                (case aR => repeat (first | exact (by repeat (first | (with_reducible exact HR246.out) | (with_reducible refine Kd.C_alloc ?_ _) | (with_reducible refine Kd.C_drewN ?_ _) | (with_reducible refine Kd.C_drew ?_) | exact HR246.out)) | (with_reducible refine Kd.C_alloc ?_ _) | (with_reducible refine Kd.C_drewN ?_ _) | (with_reducible refine Kd.C_drew ?_)))
                                (case aB => exact (by repeat (first | (with_reducible first | exact HB.out | apply below_alloc | apply pw_below_drewN | apply below_drew1) | exact HB.out)))
                                (case aF => exact (fun k_ hk => Kd.fresh' (Kd.R_lt (by (with_reducible repeat (first | apply Kd.R_alloc | apply Kd.R_drewN | apply Kd.R_drew)); exact HO_5.out)) k_ hk))
                                (case aO => exact (by (with_reducible repeat (first | apply Kd.R_alloc | apply Kd.R_drewN | apply Kd.R_drew)); exact Kd.R_mono HO242.out (fun _ hk => hk.2)))
                                (case aS => exact (below_size (by repeat (first | (with_reducible first | exact HB.out | apply below_alloc | apply pw_below_drewN | apply below_drew1) | exact HB.out))))
                                (case aL => have := LMc115.out; omega)
                                intro v248 w125 ho hb hg hat
                                rw [← Ny247.out] at ho
                                have n0_ := Aside0.mk (Kd.R_after (ok := (fun _ => True)) (by (with_reducible repeat (first | apply Kd.R_alloc | apply Kd.R_drewN | apply Kd.R_drew)); exact HO_5.out) hg hat)
                                have n1_ := Aside0.mk (hb)
                                have n2_ := Aside0.mk ((show Kd.C (Kd.int .i64) w125 Ao110 y243.length y243 from by rw [Ny243.out]; exact Kd.C_take (m := (t239 : Int).toNat) ((Kd.R_reads' (Kd.R_after (ok := (fun _ => True)) (by (with_reducible repeat (first | apply Kd.R_alloc | apply Kd.R_drewN | apply Kd.R_drew)); exact HO_5.out) hg hat)).2.2) KL121.out))
                                have n3_ := Aside0.mk ((show Kd.C (Kd.int .i64) w125 A122 y256.length y256 from by rw [Ny256.out, KA122.out]; exact Kd.C_drop (m := (t239 : Int).toNat) (c := co110) ((Kd.R_reads' (Kd.R_after (ok := (fun _ => True)) (by (with_reducible repeat (first | apply Kd.R_alloc | apply Kd.R_drewN | apply Kd.R_drew)); exact HO_5.out) hg hat)).2.2) KL122.out ((Kd.R_reads' (Kd.R_after (ok := (fun _ => True)) (by (with_reducible repeat (first | apply Kd.R_alloc | apply Kd.R_drewN | apply Kd.R_drew)); exact HO_5.out) hg hat)).2.1)))
                                have n4_ := Aside0.mk (ho)
                                clear HO_5
                                clear HB
                                clear HR246
                                clear HR259
                                clear HO242
                                have HO_5 := n0_
                                have HB := n1_
                                have HR246 := n2_
                                have HR259 := n3_
                                have HO249 := n4_
                                clear n0_ n1_ n2_ n3_ n4_
                                clear ho hb hg hat
                                refine hK.out _ _ trivial (fun hHeld => ?_)
                                clear hK K
                                refine norm_ (a' := ?_) ?_ ?_
                                rotate_left
                                · show Act.put _ (some 65) _ = _
                                  simp only [Act.put, List.setIfInBounds_toArray, List.set_cons_zero, List.set_cons_succ, i64_w, i32_w]
                                  rfl
                                refine one_ (i := 6) (N := some 67) #[true, true, true, true, true, true, true, false, true, true, true, false, false] rfl rfl (one_of HT_.out (by kernel_rfl)) (by decide) (fun K hK => ?_)
                                refine Kd.R_lit_step (Kd.int .i64) _ 3 ?hg (N := 67) ?hd (xs := ([a1] : List Int)) (inner := [.int .i64 a1]) (ok := fun _ => True) (okp := fun _ => True) ?hr ?hp (fun _ hk => hk) trivial (Below.refl _ _) (Nat.le_refl _) (by simp) ?_; (case hd => rfl); (case hg => rfl); (case hr => first | (go_simp; done) | (go_simp; rfl)); (case hp => exact (Reps.one (show Kd.M (Kd.int .i64) _ _ _ a1 [.int .i64 a1] from rfl) (Reps.none _ _)))
                                intro v251 w126 ho127 hb hg_ hnew_
                                clear hg_ hnew_
                                (first | rw [← Ny250.out] at ho127 | (simp only [Int.reduceToNat] at ho127; rw [← Ny250.out] at ho127))
                                have n0_ := Aside0.mk (Kd.R_elder' (by (with_reducible repeat (first | apply Kd.R_alloc | apply Kd.R_drewN | apply Kd.R_drew)); exact HO_5.out) (Kd.R_base ho127) hb)
                                have n1_ := Aside0.mk (Kd.R_elder' (by (with_reducible repeat (first | apply Kd.R_alloc | apply Kd.R_drewN | apply Kd.R_drew)); exact HO249.out) (Kd.R_base ho127) hb)
                                have n2_ := Aside0.mk (Kd.R_lower (Kd.R_new' (Kd.R_new' ho127 (Kd.R_lt (by (with_reducible repeat (first | apply Kd.R_alloc | apply Kd.R_drewN | apply Kd.R_drew)); exact HO_5.out))) (Kd.R_lt (by (with_reducible repeat (first | apply Kd.R_alloc | apply Kd.R_drewN | apply Kd.R_drew)); exact HO249.out))) (below_size (by repeat (first | (with_reducible first | exact HB.out | apply below_alloc | apply pw_below_drewN | apply below_drew1) | exact HB.out))))
                                have n3_ := Aside0.mk (Kd.C_below (by repeat (first | (with_reducible exact HR246.out) | (with_reducible refine Kd.C_alloc ?_ _) | (with_reducible refine Kd.C_drewN ?_ _) | (with_reducible refine Kd.C_drew ?_) | exact HR246.out)) hb)
                                have n4_ := Aside0.mk (Kd.C_below (by repeat (first | (with_reducible exact HR259.out) | (with_reducible refine Kd.C_alloc ?_ _) | (with_reducible refine Kd.C_drewN ?_ _) | (with_reducible refine Kd.C_drew ?_) | exact HR259.out)) hb)
                                have n5_ := Aside0.mk (below_step (by repeat (first | (with_reducible first | exact HB.out | apply below_alloc | apply pw_below_drewN | apply below_drew1) | exact HB.out)) hb)
                                clear HO_5
                                clear HO249
                                clear HR246
                                clear HR259
                                clear HB
                                have HO_5 := n0_
                                have HO249 := n1_
                                have HO252 := n2_
                                have HR246 := n3_
                                have HR259 := n4_
                                have HB := n5_
                                clear n0_ n1_ n2_ n3_ n4_ n5_
                                clear hb ho127
                                refine hK.out _ _ trivial (fun hHeld => ?_)
                                clear hK K
                                refine norm_ (a' := ?_) ?_ ?_
                                rotate_left
                                · show Act.put _ (some 67) _ = _
                                  simp only [Act.put, List.setIfInBounds_toArray, List.set_cons_zero, List.set_cons_succ, i64_w, i32_w]
                                  rfl
                                exact norm_ (by simp only [putAll, Act.put, List.setIfInBounds_toArray, List.set_cons_zero, List.set_cons_succ]) (hCont (v241, v248, v251) _ ⟨(by (with_reducible repeat (first | apply Kd.R_alloc | apply Kd.R_drewN | apply Kd.R_drew)); exact Kd.R_mono HO249.out (fun _ hk => ⟨hk.2, hk.1⟩)), (by (with_reducible repeat (first | apply Kd.R_alloc | apply Kd.R_drewN | apply Kd.R_drew)); exact Kd.R_mono HO252.out (fun _ hk => ⟨hk.2, hk.1.2⟩)), (by (with_reducible repeat (first | apply Kd.R_alloc | apply Kd.R_drewN | apply Kd.R_drew)); exact Kd.R_mono HO_5.out (fun _ hk => ⟨hk.1.2, hk.2⟩)), (by repeat (first | (with_reducible first | exact HB.out | apply below_alloc | apply pw_below_drewN | apply below_drew1) | exact HB.out))⟩)
                              · skip
                                refine Kd.R_lit_step (Kd.int .i64) _ 3 ?hg (N := 67) ?hd (xs := ([a1] : List Int)) (inner := [.int .i64 a1]) (ok := fun _ => True) (okp := fun _ => True) ?hr ?hp (fun _ hk => hk) trivial (Below.refl _ _) (Nat.le_refl _) (by simp) ?_; (case hd => rfl); (case hg => rfl); (case hr => first | (go_simp; done) | (go_simp; rfl)); (case hp => exact (Reps.one (show Kd.M (Kd.int .i64) _ _ _ a1 [.int .i64 a1] from rfl) (Reps.none _ _)))
                                intro v251 w125 ho126 hb hg_ hnew_
                                clear hg_ hnew_
                                (first | rw [← Ny250.out] at ho126 | (simp only [Int.reduceToNat] at ho126; rw [← Ny250.out] at ho126))
                                have n0_ := Aside0.mk (Kd.R_elder' (by (with_reducible repeat (first | apply Kd.R_alloc | apply Kd.R_drewN | apply Kd.R_drew)); exact HO_5.out) (Kd.R_base ho126) hb)
                                have n1_ := Aside0.mk (Kd.R_elder' (by (with_reducible repeat (first | apply Kd.R_alloc | apply Kd.R_drewN | apply Kd.R_drew)); exact HO242.out) (Kd.R_base ho126) hb)
                                have n2_ := Aside0.mk (Kd.R_lower (Kd.R_new' (Kd.R_new' ho126 (Kd.R_lt (by (with_reducible repeat (first | apply Kd.R_alloc | apply Kd.R_drewN | apply Kd.R_drew)); exact HO_5.out))) (Kd.R_lt (by (with_reducible repeat (first | apply Kd.R_alloc | apply Kd.R_drewN | apply Kd.R_drew)); exact HO242.out))) (below_size (by repeat (first | (with_reducible first | exact HB.out | apply below_alloc | apply pw_below_drewN | apply below_drew1) | exact HB.out))))
                                have n3_ := Aside0.mk (Kd.C_below (by repeat (first | (with_reducible exact HR246.out) | (with_reducible refine Kd.C_alloc ?_ _) | (with_reducible refine Kd.C_drewN ?_ _) | (with_reducible refine Kd.C_drew ?_) | exact HR246.out)) hb)
                                have n4_ := Aside0.mk (Kd.C_below (by repeat (first | (with_reducible exact HR259.out) | (with_reducible refine Kd.C_alloc ?_ _) | (with_reducible refine Kd.C_drewN ?_ _) | (with_reducible refine Kd.C_drew ?_) | exact HR259.out)) hb)
                                have n5_ := Aside0.mk (below_step (by repeat (first | (with_reducible first | exact HB.out | apply below_alloc | apply pw_below_drewN | apply below_drew1) | exact HB.out)) hb)
                                clear HO_5
                                clear HO242
                                clear HR246
                                clear HR259
                                clear HB
                                have HO_5 := n0_
                                have HO242 := n1_
                                have HO252 := n2_
                                have HR246 := n3_
                                have HR259 := n4_
                                have HB := n5_
                                clear n0_ n1_ n2_ n3_ n4_ n5_
                                clear hb ho126
                                refine hK.out _ _ trivial (fun hHeld => ?_)
                                clear hK K
                                refine norm_ (a' := ?_) ?_ ?_
                                rotate_left
                                · show Act.put _ (some 67) _ = _
                                  simp only [Act.put, List.setIfInBounds_toArray, List.set_cons_zero, List.set_cons_succ, i64_w, i32_w]
                                  rfl
                                refine one_ (i := 4) (N := some 65) #[true, true, true, true, true, true, true, false, true, true, true, false, false] rfl rfl (one_of HT_.out (by kernel_rfl)) (by decide) (fun K hK => ?_)
                                refine Kd.R_append_rows_step (Kd.int .i64) (w0 := w) w.heap.size (by rfl) (.tmp 61) (.tmp 64) 22 3 (.int .i64 0) 8 rfl Try.underlying22 info3 rfl (by decide) (by omega) v241 y240 y243 _ _ _ (fun k_ => some k_ ≠ (.slice Ao110 x5_1.length co110 : Value).ownBlock ∧ some k_ ≠ (v251 : Value).ownBlock) (fun _ => False) rfl rfl ?aO ?aR (fun _ _ h => h) (fun _ h => h.elim) ?aF ?aB ?aS ?aL ?_
                                (case aR => repeat (first | exact (by repeat (first | (with_reducible exact HR246.out) | (with_reducible refine Kd.C_alloc ?_ _) | (with_reducible refine Kd.C_drewN ?_ _) | (with_reducible refine Kd.C_drew ?_) | exact HR246.out)) | (with_reducible refine Kd.C_alloc ?_ _) | (with_reducible refine Kd.C_drewN ?_ _) | (with_reducible refine Kd.C_drew ?_)))
                                (case aB => exact (by repeat (first | (with_reducible first | exact HB.out | apply below_alloc | apply pw_below_drewN | apply below_drew1) | exact HB.out)))
                                (case aF => exact (fun k_ hk => ⟨Kd.fresh' (Kd.R_lt (by (with_reducible repeat (first | apply Kd.R_alloc | apply Kd.R_drewN | apply Kd.R_drew)); exact HO_5.out)) k_ hk, Kd.fresh' (Kd.R_lt (by (with_reducible repeat (first | apply Kd.R_alloc | apply Kd.R_drewN | apply Kd.R_drew)); exact HO252.out)) k_ hk⟩))
                                (case aO => exact (by (with_reducible repeat (first | apply Kd.R_alloc | apply Kd.R_drewN | apply Kd.R_drew)); exact Kd.R_mono HO242.out (fun _ hk => ⟨hk.1.2, hk.2⟩)))
                                (case aS => exact (below_size (by repeat (first | (with_reducible first | exact HB.out | apply below_alloc | apply pw_below_drewN | apply below_drew1) | exact HB.out))))
                                (case aL => have := LMc115.out; omega)
                                intro v248 w127 ho hb hg hat
                                rw [← Ny247.out] at ho
                                have n0_ := Aside0.mk (Kd.R_after (ok := (fun k_ => some k_ ≠ (v251 : Value).ownBlock)) (by (with_reducible repeat (first | apply Kd.R_alloc | apply Kd.R_drewN | apply Kd.R_drew)); exact Kd.R_mono HO_5.out (fun _ hk => ⟨hk.2, hk.1.2⟩)) hg hat)
                                have n1_ := Aside0.mk (Kd.R_after (ok := (fun k_ => some k_ ≠ (.slice Ao110 x5_1.length co110 : Value).ownBlock)) (by (with_reducible repeat (first | apply Kd.R_alloc | apply Kd.R_drewN | apply Kd.R_drew)); exact Kd.R_mono HO252.out (fun _ hk => ⟨hk.1.2, hk.2⟩)) hg hat)
                                have n2_ := Aside0.mk (hb)
                                have n3_ := Aside0.mk ((show Kd.C (Kd.int .i64) w127 Ao110 y243.length y243 from by rw [Ny243.out]; exact Kd.C_take (m := (t239 : Int).toNat) ((Kd.R_reads' (Kd.R_after (ok := (fun k_ => some k_ ≠ (v251 : Value).ownBlock)) (by (with_reducible repeat (first | apply Kd.R_alloc | apply Kd.R_drewN | apply Kd.R_drew)); exact Kd.R_mono HO_5.out (fun _ hk => ⟨hk.2, hk.1.2⟩)) hg hat)).2.2) KL121.out))
                                have n4_ := Aside0.mk ((show Kd.C (Kd.int .i64) w127 A122 y256.length y256 from by rw [Ny256.out, KA122.out]; exact Kd.C_drop (m := (t239 : Int).toNat) (c := co110) ((Kd.R_reads' (Kd.R_after (ok := (fun k_ => some k_ ≠ (v251 : Value).ownBlock)) (by (with_reducible repeat (first | apply Kd.R_alloc | apply Kd.R_drewN | apply Kd.R_drew)); exact Kd.R_mono HO_5.out (fun _ hk => ⟨hk.2, hk.1.2⟩)) hg hat)).2.2) KL122.out ((Kd.R_reads' (Kd.R_after (ok := (fun k_ => some k_ ≠ (v251 : Value).ownBlock)) (by (with_reducible repeat (first | apply Kd.R_alloc | apply Kd.R_drewN | apply Kd.R_drew)); exact Kd.R_mono HO_5.out (fun _ hk => ⟨hk.2, hk.1.2⟩)) hg hat)).2.1)))
                                have n5_ := Aside0.mk (ho)
                                clear HO_5
                                clear HO252
                                clear HB
                                clear HR246
                                clear HR259
                                clear HO242
                                have HO_5 := n0_
                                have HO252 := n1_
                                have HB := n2_
                                have HR246 := n3_
                                have HR259 := n4_
                                have HO249 := n5_
                                clear n0_ n1_ n2_ n3_ n4_ n5_
                                clear ho hb hg hat
                                refine hK.out _ _ trivial (fun hHeld => ?_)
                                clear hK K
                                refine norm_ (a' := ?_) ?_ ?_
                                rotate_left
                                · show Act.put _ (some 65) _ = _
                                  simp only [Act.put, List.setIfInBounds_toArray, List.set_cons_zero, List.set_cons_succ, i64_w, i32_w]
                                  rfl
                                exact norm_ (by simp only [putAll, Act.put, List.setIfInBounds_toArray, List.set_cons_zero, List.set_cons_succ]) (hCont (v241, v248, v251) _ ⟨(by (with_reducible repeat (first | apply Kd.R_alloc | apply Kd.R_drewN | apply Kd.R_drew)); exact Kd.R_mono HO249.out (fun _ hk => ⟨hk.2, hk.1⟩)), (by (with_reducible repeat (first | apply Kd.R_alloc | apply Kd.R_drewN | apply Kd.R_drew)); exact Kd.R_mono HO252.out (fun _ hk => ⟨hk.2, hk.1⟩)), (by (with_reducible repeat (first | apply Kd.R_alloc | apply Kd.R_drewN | apply Kd.R_drew)); exact Kd.R_mono HO_5.out (fun _ hk => ⟨hk.2, hk.1⟩)), (by repeat (first | (with_reducible first | exact HB.out | apply below_alloc | apply pw_below_drewN | apply below_drew1) | exact HB.out))⟩)
                            · skip
                              refine Kd.R_lit_step (Kd.int .i64) _ 3 ?hg (N := 67) ?hd (xs := ([a1] : List Int)) (inner := [.int .i64 a1]) (ok := fun _ => True) (okp := fun _ => True) ?hr ?hp (fun _ hk => hk) trivial (Below.refl _ _) (Nat.le_refl _) (by simp) ?_; (case hd => rfl); (case hg => rfl); (case hr => first | (go_simp; done) | (go_simp; rfl)); (case hp => exact (Reps.one (show Kd.M (Kd.int .i64) _ _ _ a1 [.int .i64 a1] from rfl) (Reps.none _ _)))
                              intro v251 w123 ho124 hb hg_ hnew_
                              clear hg_ hnew_
                              (first | rw [← Ny250.out] at ho124 | (simp only [Int.reduceToNat] at ho124; rw [← Ny250.out] at ho124))
                              have n0_ := Aside0.mk (Kd.R_elder' (by (with_reducible repeat (first | apply Kd.R_alloc | apply Kd.R_drewN | apply Kd.R_drew)); exact HO_5.out) (Kd.R_base ho124) hb)
                              have n1_ := Aside0.mk (Kd.R_lower (Kd.R_new' ho124 (Kd.R_lt (by (with_reducible repeat (first | apply Kd.R_alloc | apply Kd.R_drewN | apply Kd.R_drew)); exact HO_5.out))) (below_size (by repeat (first | (with_reducible first | exact HB.out | apply below_alloc | apply pw_below_drewN | apply below_drew1) | exact HB.out))))
                              have n2_ := Aside0.mk (Kd.C_below (by repeat (first | (with_reducible exact HR246.out) | (with_reducible refine Kd.C_alloc ?_ _) | (with_reducible refine Kd.C_drewN ?_ _) | (with_reducible refine Kd.C_drew ?_) | exact HR246.out)) hb)
                              have n3_ := Aside0.mk (Kd.C_below (by repeat (first | (with_reducible exact HR259.out) | (with_reducible refine Kd.C_alloc ?_ _) | (with_reducible refine Kd.C_drewN ?_ _) | (with_reducible refine Kd.C_drew ?_) | exact HR259.out)) hb)
                              have n4_ := Aside0.mk (below_step (by repeat (first | (with_reducible first | exact HB.out | apply below_alloc | apply pw_below_drewN | apply below_drew1) | exact HB.out)) hb)
                              clear HO_5
                              clear HR246
                              clear HR259
                              clear HB
                              have HO_5 := n0_
                              have HO252 := n1_
                              have HR246 := n2_
                              have HR259 := n3_
                              have HB := n4_
                              clear n0_ n1_ n2_ n3_ n4_
                              clear hb ho124
                              refine hK.out _ _ trivial (fun hHeld => ?_)
                              clear hK K
                              refine norm_ (a' := ?_) ?_ ?_
                              rotate_left
                              · show Act.put _ (some 67) _ = _
                                simp only [Act.put, List.setIfInBounds_toArray, List.set_cons_zero, List.set_cons_succ, i64_w, i32_w]
                                rfl
                              refine one_ (i := 0) (N := some 61) #[true, true, true, true, false, true, true, false, true, true, true, false, false] rfl rfl (one_of HT_.out (by kernel_rfl)) (by decide) (fun K hK => ?_)
                              refine Kd.R_lit_step (Kd.int .i64) _ 3 ?hg (N := 61) ?hd (xs := ([] : List Int)) (inner := []) (ok := fun _ => True) (okp := fun _ => True) ?hr ?hp (fun _ hk => hk) trivial (Below.refl _ _) (Nat.le_refl _) (by simp) ?_; (case hd => rfl); (case hg => rfl); (case hr => first | (go_simp; done) | (go_simp; rfl)); (case hp => exact (Reps.none _ _))
                              intro v241 w125 ho126 hb hg_ hnew_
                              clear hg_ hnew_
                              (first | rw [← Ny240.out] at ho126 | (simp only [Int.reduceToNat] at ho126; rw [← Ny240.out] at ho126))
                              have n0_ := Aside0.mk (Kd.R_elder' (by (with_reducible repeat (first | apply Kd.R_alloc | apply Kd.R_drewN | apply Kd.R_drew)); exact HO_5.out) (Kd.R_base ho126) hb)
                              have n1_ := Aside0.mk (Kd.R_elder' (by (with_reducible repeat (first | apply Kd.R_alloc | apply Kd.R_drewN | apply Kd.R_drew)); exact HO252.out) (Kd.R_base ho126) hb)
                              have n2_ := Aside0.mk (Kd.R_lower (Kd.R_new' (Kd.R_new' ho126 (Kd.R_lt (by (with_reducible repeat (first | apply Kd.R_alloc | apply Kd.R_drewN | apply Kd.R_drew)); exact HO_5.out))) (Kd.R_lt (by (with_reducible repeat (first | apply Kd.R_alloc | apply Kd.R_drewN | apply Kd.R_drew)); exact HO252.out))) (below_size (by repeat (first | (with_reducible first | exact HB.out | apply below_alloc | apply pw_below_drewN | apply below_drew1) | exact HB.out))))
                              have n3_ := Aside0.mk (Kd.C_below (by repeat (first | (with_reducible exact HR246.out) | (with_reducible refine Kd.C_alloc ?_ _) | (with_reducible refine Kd.C_drewN ?_ _) | (with_reducible refine Kd.C_drew ?_) | exact HR246.out)) hb)
                              have n4_ := Aside0.mk (Kd.C_below (by repeat (first | (with_reducible exact HR259.out) | (with_reducible refine Kd.C_alloc ?_ _) | (with_reducible refine Kd.C_drewN ?_ _) | (with_reducible refine Kd.C_drew ?_) | exact HR259.out)) hb)
                              have n5_ := Aside0.mk (below_step (by repeat (first | (with_reducible first | exact HB.out | apply below_alloc | apply pw_below_drewN | apply below_drew1) | exact HB.out)) hb)
                              clear HO_5
                              clear HO252
                              clear HR246
                              clear HR259
                              clear HB
                              have HO_5 := n0_
                              have HO252 := n1_
                              have HO242 := n2_
                              have HR246 := n3_
                              have HR259 := n4_
                              have HB := n5_
                              clear n0_ n1_ n2_ n3_ n4_ n5_
                              clear hb ho126
                              refine hK.out _ _ trivial (fun hHeld => ?_)
                              clear hK K
                              refine norm_ (a' := ?_) ?_ ?_
                              rotate_left
                              · show Act.put _ (some 61) _ = _
                                simp only [Act.put, List.setIfInBounds_toArray, List.set_cons_zero, List.set_cons_succ, i64_w, i32_w]
                                rfl
                              refine one_ (i := 4) (N := some 65) #[true, true, true, true, true, true, true, false, true, true, true, false, false] rfl rfl (one_of HT_.out (by kernel_rfl)) (by decide) (fun K hK => ?_)
                              refine Kd.R_append_rows_step (Kd.int .i64) (w0 := w) w.heap.size (by rfl) (.tmp 61) (.tmp 64) 22 3 (.int .i64 0) 8 rfl Try.underlying22 info3 rfl (by decide) (by omega) v241 y240 y243 _ _ _ (fun k_ => some k_ ≠ (.slice Ao110 x5_1.length co110 : Value).ownBlock ∧ some k_ ≠ (v251 : Value).ownBlock) (fun _ => False) rfl rfl ?aO ?aR (fun _ _ h => h) (fun _ h => h.elim) ?aF ?aB ?aS ?aL ?_
                              (case aR => repeat (first | exact (by repeat (first | (with_reducible exact HR246.out) | (with_reducible refine Kd.C_alloc ?_ _) | (with_reducible refine Kd.C_drewN ?_ _) | (with_reducible refine Kd.C_drew ?_) | exact HR246.out)) | (with_reducible refine Kd.C_alloc ?_ _) | (with_reducible refine Kd.C_drewN ?_ _) | (with_reducible refine Kd.C_drew ?_)))
                              (case aB => exact (by repeat (first | (with_reducible first | exact HB.out | apply below_alloc | apply pw_below_drewN | apply below_drew1) | exact HB.out)))
                              (case aF => exact (fun k_ hk => ⟨Kd.fresh' (Kd.R_lt (by (with_reducible repeat (first | apply Kd.R_alloc | apply Kd.R_drewN | apply Kd.R_drew)); exact HO_5.out)) k_ hk, Kd.fresh' (Kd.R_lt (by (with_reducible repeat (first | apply Kd.R_alloc | apply Kd.R_drewN | apply Kd.R_drew)); exact HO252.out)) k_ hk⟩))
                              (case aO => exact (by (with_reducible repeat (first | apply Kd.R_alloc | apply Kd.R_drewN | apply Kd.R_drew)); exact Kd.R_mono HO242.out (fun _ hk => ⟨hk.1.2, hk.2⟩)))
                              (case aS => exact (below_size (by repeat (first | (with_reducible first | exact HB.out | apply below_alloc | apply pw_below_drewN | apply below_drew1) | exact HB.out))))
                              (case aL => have := LMc115.out; omega)
                              intro v248 w127 ho hb hg hat
                              rw [← Ny247.out] at ho
                              have n0_ := Aside0.mk (Kd.R_after (ok := (fun k_ => some k_ ≠ (v251 : Value).ownBlock)) (by (with_reducible repeat (first | apply Kd.R_alloc | apply Kd.R_drewN | apply Kd.R_drew)); exact Kd.R_mono HO_5.out (fun _ hk => ⟨hk.1.2, hk.2⟩)) hg hat)
                              have n1_ := Aside0.mk (Kd.R_after (ok := (fun k_ => some k_ ≠ (.slice Ao110 x5_1.length co110 : Value).ownBlock)) (by (with_reducible repeat (first | apply Kd.R_alloc | apply Kd.R_drewN | apply Kd.R_drew)); exact Kd.R_mono HO252.out (fun _ hk => ⟨hk.1.2, hk.2⟩)) hg hat)
                              have n2_ := Aside0.mk (hb)
                              have n3_ := Aside0.mk ((show Kd.C (Kd.int .i64) w127 Ao110 y243.length y243 from by rw [Ny243.out]; exact Kd.C_take (m := (t239 : Int).toNat) ((Kd.R_reads' (Kd.R_after (ok := (fun k_ => some k_ ≠ (v251 : Value).ownBlock)) (by (with_reducible repeat (first | apply Kd.R_alloc | apply Kd.R_drewN | apply Kd.R_drew)); exact Kd.R_mono HO_5.out (fun _ hk => ⟨hk.1.2, hk.2⟩)) hg hat)).2.2) KL121.out))
                              have n4_ := Aside0.mk ((show Kd.C (Kd.int .i64) w127 A122 y256.length y256 from by rw [Ny256.out, KA122.out]; exact Kd.C_drop (m := (t239 : Int).toNat) (c := co110) ((Kd.R_reads' (Kd.R_after (ok := (fun k_ => some k_ ≠ (v251 : Value).ownBlock)) (by (with_reducible repeat (first | apply Kd.R_alloc | apply Kd.R_drewN | apply Kd.R_drew)); exact Kd.R_mono HO_5.out (fun _ hk => ⟨hk.1.2, hk.2⟩)) hg hat)).2.2) KL122.out ((Kd.R_reads' (Kd.R_after (ok := (fun k_ => some k_ ≠ (v251 : Value).ownBlock)) (by (with_reducible repeat (first | apply Kd.R_alloc | apply Kd.R_drewN | apply Kd.R_drew)); exact Kd.R_mono HO_5.out (fun _ hk => ⟨hk.1.2, hk.2⟩)) hg hat)).2.1)))
                              have n5_ := Aside0.mk (ho)
                              clear HO_5
                              clear HO252
                              clear HB
                              clear HR246
                              clear HR259
                              clear HO242
                              have HO_5 := n0_
                              have HO252 := n1_
                              have HB := n2_
                              have HR246 := n3_
                              have HR259 := n4_
                              have HO249 := n5_
                              clear n0_ n1_ n2_ n3_ n4_ n5_
                              clear ho hb hg hat
                              refine hK.out _ _ trivial (fun hHeld => ?_)
                              clear hK K
                              refine norm_ (a' := ?_) ?_ ?_
                              rotate_left
                              · show Act.put _ (some 65) _ = _
                                simp only [Act.put, List.setIfInBounds_toArray, List.set_cons_zero, List.set_cons_succ, i64_w, i32_w]
                                rfl
                              exact norm_ (by simp only [putAll, Act.put, List.setIfInBounds_toArray, List.set_cons_zero, List.set_cons_succ]) (hCont (v241, v248, v251) _ ⟨(by (with_reducible repeat (first | apply Kd.R_alloc | apply Kd.R_drewN | apply Kd.R_drew)); exact Kd.R_mono HO249.out (fun _ hk => ⟨hk.2, hk.1⟩)), (by (with_reducible repeat (first | apply Kd.R_alloc | apply Kd.R_drewN | apply Kd.R_drew)); exact Kd.R_mono HO252.out (fun _ hk => ⟨hk.2, hk.1⟩)), (by (with_reducible repeat (first | apply Kd.R_alloc | apply Kd.R_drewN | apply Kd.R_drew)); exact Kd.R_mono HO_5.out (fun _ hk => ⟨hk.2, hk.1⟩)), (by repeat (first | (with_reducible first | exact HB.out | apply below_alloc | apply pw_below_drewN | apply below_drew1) | exact HB.out))⟩)
                          rintro ⟨v241, v248, v251⟩ w128 ⟨h0_, h1_, h2_, h3_⟩
                          have n0_ : Aside0 (Kd.R (Kd.int .i64) 3 w128 w.heap.size (fun k_ => some k_ ≠ (v251 : Value).ownBlock ∧ some k_ ≠ (.slice Ao110 x5_1.length co110 : Value).ownBlock) v248 y247) := ⟨h0_⟩
                          have n1_ : Aside0 (Kd.R (Kd.int .i64) 3 w128 w.heap.size (fun k_ => some k_ ≠ (v248 : Value).ownBlock ∧ some k_ ≠ (.slice Ao110 x5_1.length co110 : Value).ownBlock) v251 y250) := ⟨h1_⟩
                          have n2_ : Aside0 (Kd.R (Kd.int .i64) 3 w128 w.heap.size (fun k_ => some k_ ≠ (v248 : Value).ownBlock ∧ some k_ ≠ (v251 : Value).ownBlock) (.slice Ao110 x5_1.length co110) x5_1) := ⟨h2_⟩
                          have n3_ : Aside0 (Below w.heap.size w w128) := ⟨h3_⟩
                          clear HO_5
                          clear HB
                          clear h0_ h1_ h2_ h3_
                          have HO249 := n0_
                          have HO252 := n1_
                          have HO_5 := n2_
                          have HB := n3_
                          clear n0_ n1_ n2_ n3_
                          have hHeld := trivial
                          obtain ⟨Ao130, co130, eo130⟩ := Kd.R_slice HO252.out
                          (first | subst eo130 | (injection eo130 with f1_ f2_ f3_; have f4_ := f1_.symm; have f5_ := f3_.symm; clear f1_ f2_ f3_; subst f4_; subst f5_))
                          refine norm_ (a' := ?_) ?_ ?_
                          rotate_left
                          · simp only [putAll, Act.put, List.setIfInBounds_toArray, List.set_cons_zero, List.set_cons_succ]
                            rfl
                          refine one_ (i := 7) (N := some 68) #[true, true, true, true, true, true, true, true, true, true, true, false, false] rfl rfl (one_of HT_.out (by kernel_rfl)) (by decide) (fun K hK => ?_)
                          refine Kd.R_append_rows_step (Kd.int .i64) (w0 := w) w.heap.size (by rfl) (.tmp 65) (.tmp 67) 22 3 (.int .i64 0) 8 rfl Try.underlying22 info3 rfl (by decide) (by omega) v248 y247 y250 _ _ _ (fun k_ => some k_ ≠ (.slice Ao110 x5_1.length co110 : Value).ownBlock ∧ some k_ ≠ (.slice Ao130 y250.length co130 : Value).ownBlock) (fun _ => False) rfl rfl ?aO ?aR (fun _ _ h => h) (fun _ h => h.elim) ?aF ?aB ?aS ?aL ?_
                          (case aR => repeat (first | exact (Kd.R_reads' HO252.out).2.2 | (with_reducible refine Kd.C_alloc ?_ _) | (with_reducible refine Kd.C_drewN ?_ _) | (with_reducible refine Kd.C_drew ?_)))
                          (case aB => exact (by repeat (first | (with_reducible first | exact HB.out | apply below_alloc | apply pw_below_drewN | apply below_drew1) | exact HB.out)))
                          (case aF => exact (fun k_ hk => ⟨Kd.fresh' (Kd.R_lt (by (with_reducible repeat (first | apply Kd.R_alloc | apply Kd.R_drewN | apply Kd.R_drew)); exact HO_5.out)) k_ hk, Kd.fresh' (Kd.R_lt (by (with_reducible repeat (first | apply Kd.R_alloc | apply Kd.R_drewN | apply Kd.R_drew)); exact HO252.out)) k_ hk⟩))
                          (case aO => exact (by (with_reducible repeat (first | apply Kd.R_alloc | apply Kd.R_drewN | apply Kd.R_drew)); exact Kd.R_mono HO249.out (fun _ hk => ⟨hk.2, hk.1⟩)))
                          (case aS => exact (below_size (by repeat (first | (with_reducible first | exact HB.out | apply below_alloc | apply pw_below_drewN | apply below_drew1) | exact HB.out))))
                          (case aL => have := LMc116.out; omega)
                          intro v254 w129 ho hb hg hat
                          rw [← Ny253.out] at ho
                          have n0_ := Aside0.mk (Kd.R_after (ok := (fun k_ => some k_ ≠ (.slice Ao130 y250.length co130 : Value).ownBlock)) (by (with_reducible repeat (first | apply Kd.R_alloc | apply Kd.R_drewN | apply Kd.R_drew)); exact Kd.R_mono HO_5.out (fun _ hk => ⟨hk.2, hk.1⟩)) hg hat)
                          have n1_ := Aside0.mk (Kd.R_after (ok := (fun k_ => some k_ ≠ (.slice Ao110 x5_1.length co110 : Value).ownBlock)) (by (with_reducible repeat (first | apply Kd.R_alloc | apply Kd.R_drewN | apply Kd.R_drew)); exact Kd.R_mono HO252.out (fun _ hk => ⟨hk.2, hk.1⟩)) hg hat)
                          have n2_ := Aside0.mk (hb)
                          have n3_ := Aside0.mk (ho)
                          clear HO_5
                          clear HO252
                          clear HB
                          clear HO249
                          have HO_5 := n0_
                          have HO252 := n1_
                          have HB := n2_
                          have HO255 := n3_
                          clear n0_ n1_ n2_ n3_
                          clear ho hb hg hat
                          refine hK.out _ _ trivial (fun hHeld => ?_)
                          clear hK K
                          refine norm_ (a' := ?_) ?_ ?_
                          rotate_left
                          · show Act.put _ (some 68) _ = _
                            simp only [Act.put, List.setIfInBounds_toArray, List.set_cons_zero, List.set_cons_succ, i64_w, i32_w]
                            rfl
                          refine one_ (i := 11) (N := some 72) #[true, true, true, true, true, true, true, true, true, true, true, true, false] rfl rfl (one_of HT_.out (by kernel_rfl)) (by decide) (fun K hK => ?_)
                          refine Kd.R_append_rows_step (Kd.int .i64) (w0 := w) w.heap.size (by rfl) (.tmp 68) (.tmp 71) 22 3 (.int .i64 0) 8 rfl Try.underlying22 info3 rfl (by decide) (by omega) v254 y253 y256 _ _ _ (fun k_ => some k_ ≠ (.slice Ao110 x5_1.length co110 : Value).ownBlock ∧ some k_ ≠ (.slice Ao130 y250.length co130 : Value).ownBlock) (fun _ => False) rfl rfl ?aO ?aR (fun _ _ h => h) (fun _ h => h.elim) ?aF ?aB ?aS ?aL ?_
                          (case aR => repeat (first | exact (show Kd.C (Kd.int .i64) _ A122 y256.length y256 from by rw [Ny256.out, KA122.out]; exact Kd.C_drop (m := (t239 : Int).toNat) (c := co110) ((Kd.R_reads' HO_5.out).2.2) KL122.out ((Kd.R_reads' HO_5.out).2.1)) | (with_reducible refine Kd.C_alloc ?_ _) | (with_reducible refine Kd.C_drewN ?_ _) | (with_reducible refine Kd.C_drew ?_)))
                          (case aB => exact (by repeat (first | (with_reducible first | exact HB.out | apply below_alloc | apply pw_below_drewN | apply below_drew1) | exact HB.out)))
                          (case aF => exact (fun k_ hk => ⟨Kd.fresh' (Kd.R_lt (by (with_reducible repeat (first | apply Kd.R_alloc | apply Kd.R_drewN | apply Kd.R_drew)); exact HO_5.out)) k_ hk, Kd.fresh' (Kd.R_lt (by (with_reducible repeat (first | apply Kd.R_alloc | apply Kd.R_drewN | apply Kd.R_drew)); exact HO252.out)) k_ hk⟩))
                          (case aO => exact (by (with_reducible repeat (first | apply Kd.R_alloc | apply Kd.R_drewN | apply Kd.R_drew)); exact HO255.out))
                          (case aS => exact (below_size (by repeat (first | (with_reducible first | exact HB.out | apply below_alloc | apply pw_below_drewN | apply below_drew1) | exact HB.out))))
                          (case aL => have := LMc119.out; omega)
                          intro v261 w131 ho hb hg hat
                          rw [← Ny260.out] at ho
                          have n0_ := Aside0.mk (Kd.R_after (ok := (fun k_ => some k_ ≠ (.slice Ao130 y250.length co130 : Value).ownBlock)) (by (with_reducible repeat (first | apply Kd.R_alloc | apply Kd.R_drewN | apply Kd.R_drew)); exact HO_5.out) hg hat)
                          have n1_ := Aside0.mk (Kd.R_after (ok := (fun k_ => some k_ ≠ (.slice Ao110 x5_1.length co110 : Value).ownBlock)) (by (with_reducible repeat (first | apply Kd.R_alloc | apply Kd.R_drewN | apply Kd.R_drew)); exact HO252.out) hg hat)
                          have n2_ := Aside0.mk (hb)
                          have n3_ := Aside0.mk (ho)
                          clear HO_5
                          clear HO252
                          clear HB
                          clear HO255
                          have HO_5 := n0_
                          have HO252 := n1_
                          have HB := n2_
                          have HO262 := n3_
                          clear n0_ n1_ n2_ n3_
                          clear ho hb hg hat
                          refine hK.out _ _ trivial (fun hHeld => ?_)
                          clear hK K
                          refine norm_ (a' := ?_) ?_ ?_
                          rotate_left
                          · show Act.put _ (some 72) _ = _
                            simp only [Act.put, List.setIfInBounds_toArray, List.set_cons_zero, List.set_cons_succ, i64_w, i32_w]
                            rfl
                          refine pure_ (i := 12) (N := some 9) (v := ?_) (a' := ?_) #[true, true, true, true, true, true, true, true, true, true, true, true, true] rfl rfl (any_of HT_.out (by kernel_rfl)) (fun _ _ _ h => h) (Or.inl ⟨by rfl, ?_⟩) ?_ ?_
                          rotate_left
                          · intro w'
                            go_simp
                            with_reducible rfl
                          rotate_left
                          · simp only [Act.put, List.setIfInBounds_toArray, List.set_cons_zero, List.set_cons_succ, i64_w, i32_w]
                            rfl
                          refine done_ (done_of HT_.out (by kernel_rfl)) ?_
                          try go_wp2
                          go_loopg [10] kj107 (fun kq v10 w' => ∃ (x10_3 : Int), v10 = .int .i64 x10_3 ∧ Aside0 (scarflaw03_RankPuts.l4 kq a1 x5_1 t239 y260 x10_3 = some r) ∧ Aside0 (kq ≤ kj107) ∧ Aside0 (Kd.R (Kd.int .i64) 3 w' w.heap.size (fun k_ => some k_ ≠ (v261 : Value).ownBlock) (.slice Ao110 x5_1.length co110) x5_1) ∧ Aside0 (Kd.R (Kd.int .i64) 3 w' w.heap.size (fun k_ => some k_ ≠ ((.slice Ao110 x5_1.length co110) : Value).ownBlock) v261 y260) ∧ Aside0 (Below w.heap.size w w'))
                          case atStart => exact ⟨(1), (by first | rfl | (simp; done) | (simp [*]; done)), H', ⟨Nat.le_refl _⟩, ⟨by (with_reducible repeat (first | apply Kd.R_alloc | apply Kd.R_drewN | apply Kd.R_drew)); exact Kd.R_mono HO_5.out (fun _ hk => hk.2)⟩, ⟨by (with_reducible repeat (first | apply Kd.R_alloc | apply Kd.R_drewN | apply Kd.R_drew)); exact Kd.R_mono HO262.out (fun _ hk => hk.1)⟩, ⟨by repeat (first | (with_reducible first | exact HB.out | apply below_alloc | apply pw_below_drewN | apply below_drew1) | exact HB.out)⟩⟩
                          case round =>
                            clear H'
                            try clear c1
                            try clear p1
                            try clear q1
                            try clear hx1
                            try clear p2
                            try clear q2
                            try clear hx2
                            try clear q3
                            try clear p6
                            try clear c11
                            try clear c12
                            try clear q12
                            try clear p18
                            try clear q18
                            try clear hx18
                            try clear p21
                            try clear q21
                            try clear hx21
                            try clear p22
                            try clear q22
                            try clear hx22
                            try clear p23
                            try clear q23
                            try clear hx23
                            try clear q36
                            try clear q37
                            try clear p64
                            try clear c111
                            try clear c111b0
                            try clear c112
                            try clear c113
                            try clear c113b0
                            try clear c113b1
                            try clear c114
                            try clear c114b0
                            try clear c114b1
                            try clear c115
                            try clear c116
                            try clear c117
                            try clear c117b0
                            try clear c118
                            try clear c118b0
                            try clear c119
                            try clear q121
                            try clear c122
                            try clear q122
                            try clear hx182_0
                            try clear hx183_0
                            try clear hx184_0
                            try clear hx185_0
                            try clear hx216_0
                            try clear hx217_0
                            try clear hx221_0
                            try clear hx223_0
                            try clear hx224_0
                            try clear hx225_0
                            try clear hx229_0
                            try clear hx230_0
                            try clear hx231_0
                            try clear hx232_0
                            try clear p1
                            try clear p18
                            try clear p182
                            try clear p183
                            try clear p184
                            try clear p185
                            try clear p2
                            try clear p21
                            try clear p216
                            try clear p217
                            try clear p22
                            try clear p221
                            try clear p223
                            try clear p224
                            try clear p225
                            try clear p229
                            try clear p230
                            try clear p231
                            try clear p232
                            try clear p6
                            try clear p64
                            try clear q0122
                            try clear q037
                            try clear q1
                            try clear q121
                            try clear q122
                            try clear q18
                            try clear q182
                            try clear q183
                            try clear q184
                            try clear q185
                            try clear q2
                            try clear q21
                            try clear q216
                            try clear q217
                            try clear q22
                            try clear q221
                            try clear q223
                            try clear q224
                            try clear q225
                            try clear q229
                            try clear q230
                            try clear q231
                            try clear q232
                            try clear q3
                            try clear q36
                            try clear q37
                            obtain ⟨x10_3, rfl, HA, HK3, HO_5, HO_9, HB⟩ := hrel
                            cases gk with
                            | zero => exact absurd HA.out (by simp [scarflaw03_RankPuts.l4])
                            | succ k3 =>
                              have H := HA.out
                              clear HA
                              simp only [scarflaw03_RankPuts.l4] at H
                              by_cases c132 : x10_3 < (y260.length : Int)
                              · rw [if_pos c132] at H
                                have c132b0 : decide (x10_3 < (y260.length : Int)) = true := decide_eq_true c132
                                clear c132
                                obtain ⟨ji133, hji133⟩ : ∃ j_ : Int, (wrap64 (x10_3 - 1)) = j_ := ⟨_, rfl⟩
                                replace H : (if 0 ≤ (ji133) then (if (ji133) < (y260.length : Int) then (if 0 ≤ x10_3 then (if (rd y260 (ji133)) > (rd y260 x10_3) then (some false) else (scarflaw03_RankPuts.l4 k3 a1 x5_1 t239 y260 (wrap64 (x10_3 + 1)))) else (none)) else (none)) else (none)) = some r := by first | (rw [hji133] at H; exact H) | (simp only [hji133] at H ⊢; exact H)
                                have hji133w : (IntKind.i64.wrap (x10_3 - 1)) = ji133 := (i64_w _).trans hji133
                                by_cases c134 : 0 ≤ (ji133)
                                · rw [if_pos c134] at H
                                  have c134b0 : decide (0 ≤ (ji133)) = true := decide_eq_true c134
                                  clear c134
                                  by_cases c135 : (ji133) < (y260.length : Int)
                                  · rw [if_pos c135] at H
                                    have c135b0 : decide ((ji133) < (y260.length : Int)) = true := decide_eq_true c135
                                    clear c135
                                    by_cases c136 : 0 ≤ x10_3
                                    · rw [if_pos c136] at H
                                      have c136b0 : decide (0 ≤ x10_3) = true := decide_eq_true c136
                                      clear c136
                                      by_cases c137 : (rd y260 (ji133)) > (rd y260 x10_3)
                                      · rw [if_pos c137] at H
                                        have c137b0 : decide ((rd y260 x10_3) < (rd y260 (ji133))) = true := decide_eq_true c137
                                        clear c137
                                        obtain rfl := Option.some.inj H
                                        obtain ⟨Ao138, co138, eo138⟩ := Kd.R_slice HO_9.out
                                        subst eo138
                                        try go_wp2
                                        have n0_ := Aside0.mk (Kd.R_drew HO_5.out)
                                        have n1_ := Aside0.mk (Kd.R_drew HO_9.out)
                                        have n2_ := Aside0.mk (below_drew1 HB.out)
                                        clear HO_5
                                        clear HO_9
                                        clear HB
                                        have HO_5 := n0_
                                        have HO_9 := n1_
                                        have HB := n2_
                                        clear n0_ n1_ n2_
                                        have p263 : 0 ≤ ((ji133) : Int) := of_decide_eq_true (by first | (with_reducible assumption) | assumption)
                                        have q263 : (ji133) < (y260.length : Int) := of_decide_eq_true (by first | (with_reducible assumption) | assumption)
                                        obtain ⟨ad263, e263, hx263_0⟩ := Kd.at_int (Kd.R_reads' HO_9.out).2.2 (ji133) p263 q263
                                        cases e263
                                        replace p263 := eq_true p263
                                        replace q263 := eq_true q263
                                        have p264 : 0 ≤ (x10_3 : Int) := of_decide_eq_true (by first | (with_reducible assumption) | assumption)
                                        have q264 : x10_3 < (y260.length : Int) := of_decide_eq_true (by first | (with_reducible assumption) | assumption)
                                        obtain ⟨ad264, e264, hx264_0⟩ := Kd.at_int (Kd.R_reads' HO_9.out).2.2 x10_3 p264 q264
                                        obtain rfl : ad263 = ad264 := (by injection e264)
                                        replace p264 := eq_true p264
                                        replace q264 := eq_true q264
                                        refine start_ (n := 10) (S := fun w' => w'.cell? (ad263.add ((ji133)).toNat) = some (.int .i64 (rd y260 (ji133))) ∧ w'.cell? (ad263.add (x10_3).toNat) = some (.int .i64 (rd y260 x10_3))) (ds := []) #[false, false, false, false, false, false, false, false, false, false] (by kernel_rfl) rfl rfl ⟨hx263_0, hx264_0⟩ (fun hHeld => ?_); refine with_tabW scarflaw03_RankPuts.tab18 scarflaw03_RankPuts.bits18 (fun HT_ HW_ => ?_)
                                        generalize wr.drew = w139 at HO_5 HO_9 HB hx263_0 hx264_0 hHeld ⊢
                                        refine pure_ (i := 0) (N := some 79) (v := ?_) (a' := ?_) #[true, false, false, false, false, false, false, false, false, false] rfl rfl (any_of HT_.out (by kernel_rfl)) (fun _ _ _ h => h) (Or.inl ⟨by rfl, ?_⟩) ?_ ?_
                                        rotate_left
                                        · intro w'
                                          go_simp
                                          with_reducible rfl
                                        rotate_left
                                        · simp only [Act.put, List.setIfInBounds_toArray, List.set_cons_zero, List.set_cons_succ, i64_w, i32_w]
                                          rfl
                                        refine pure_ (i := 1) (N := some 80) (v := ?_) (a' := ?_) #[true, true, false, false, false, false, false, false, false, false] rfl rfl (any_of HT_.out (by kernel_rfl)) (fun _ _ _ h => h) (Or.inl ⟨by rfl, ?_⟩) ?_ ?_
                                        rotate_left
                                        · intro w'
                                          go_simp
                                          with_reducible rfl
                                        rotate_left
                                        · simp only [Act.put, List.setIfInBounds_toArray, List.set_cons_zero, List.set_cons_succ, i64_w, i32_w]
                                          rfl
                                        refine pure_ (i := 2) (N := some 81) (v := ?_) (a' := ?_) #[true, true, true, false, false, false, false, false, false, false] rfl rfl (any_of HT_.out (by kernel_rfl)) (fun _ _ _ h => h) (Or.inl ⟨by rfl, ?_⟩) ?_ ?_
                                        rotate_left
                                        · intro w'
                                          go_simp
                                          with_reducible rfl
                                        rotate_left
                                        · simp only [Act.put, List.setIfInBounds_toArray, List.set_cons_zero, List.set_cons_succ, i64_w, i32_w]
                                          rfl
                                        refine pure_ (i := 3) (N := some 82) (v := ?_) (a' := ?_) #[true, true, true, true, false, false, false, false, false, false] rfl rfl (any_of HT_.out (by kernel_rfl)) (fun _ _ _ h => h) (Or.inl ⟨by rfl, ?_⟩) ?_ ?_
                                        rotate_left
                                        · intro w'
                                          go_simp
                                          with_reducible rfl
                                        rotate_left
                                        · simp only [Act.put, List.setIfInBounds_toArray, List.set_cons_zero, List.set_cons_succ, i64_w, i32_w]
                                          rfl
                                        refine pure_ (i := 5) (N := some 84) (v := ?_) (a' := ?_) #[true, true, true, true, false, true, false, false, false, false] rfl rfl (any_of HT_.out (by kernel_rfl)) (fun _ _ _ h => h) (Or.inl ⟨by rfl, ?_⟩) ?_ ?_
                                        rotate_left
                                        · intro w'
                                          go_simp
                                          with_reducible rfl
                                        rotate_left
                                        · simp only [Act.put, List.setIfInBounds_toArray, List.set_cons_zero, List.set_cons_succ, i64_w, i32_w]
                                          rfl
                                        refine pure_ (i := 6) (N := some 85) (v := ?_) (a' := ?_) #[true, true, true, true, false, true, true, false, false, false] rfl rfl (any_of HT_.out (by kernel_rfl)) (fun _ _ _ h => h) (Or.inl ⟨by rfl, ?_⟩) ?_ ?_
                                        rotate_left
                                        · intro w'
                                          go_simp
                                          with_reducible rfl
                                        rotate_left
                                        · simp only [Act.put, List.setIfInBounds_toArray, List.set_cons_zero, List.set_cons_succ, i64_w, i32_w]
                                          rfl
                                        refine pure_ (i := 7) (N := some 86) (v := ?_) (a' := ?_) #[true, true, true, true, false, true, true, true, false, false] rfl rfl (any_of HT_.out (by kernel_rfl)) (fun _ _ _ h => h) (Or.inl ⟨by rfl, ?_⟩) ?_ ?_
                                        rotate_left
                                        · intro w'
                                          go_simp
                                          with_reducible rfl
                                        rotate_left
                                        · simp only [Act.put, List.setIfInBounds_toArray, List.set_cons_zero, List.set_cons_succ, i64_w, i32_w]
                                          rfl
                                        refine take_ (i := 4) (N := some 83) (v := ?_) (a' := ?_) #[true, true, true, true, true, true, true, true, false, false] rfl rfl (take_ofW HT_.out HW_.out (by kernel_rfl)) (fun _ _ _ h => h) (Or.inl ⟨by rfl, ?_⟩) hHeld ?_ ?_
                                        rotate_left
                                        · rintro w' ⟨s0, s1⟩
                                          go_simp
                                          with_reducible rfl
                                        rotate_left
                                        · simp only [Act.put, List.setIfInBounds_toArray, List.set_cons_zero, List.set_cons_succ, i64_w, i32_w]
                                          rfl
                                        refine take_ (i := 8) (N := some 87) (v := ?_) (a' := ?_) #[true, true, true, true, true, true, true, true, true, false] rfl rfl (take_ofW HT_.out HW_.out (by kernel_rfl)) (fun _ _ _ h => h) (Or.inl ⟨by rfl, ?_⟩) hHeld ?_ ?_
                                        rotate_left
                                        · rintro w' ⟨s0, s1⟩
                                          go_simp
                                          with_reducible rfl
                                        rotate_left
                                        · simp only [Act.put, List.setIfInBounds_toArray, List.set_cons_zero, List.set_cons_succ, i64_w, i32_w]
                                          rfl
                                        refine pure_ (i := 9) (N := some 88) (v := ?_) (a' := ?_) #[true, true, true, true, true, true, true, true, true, true] rfl rfl (any_of HT_.out (by kernel_rfl)) (fun _ _ _ h => h) (Or.inl ⟨by rfl, ?_⟩) ?_ ?_
                                        rotate_left
                                        · intro w'
                                          go_simp
                                          with_reducible rfl
                                        rotate_left
                                        · simp only [Act.put, List.setIfInBounds_toArray, List.set_cons_zero, List.set_cons_succ, i64_w, i32_w]
                                          rfl
                                        refine done_ (done_of HT_.out (by kernel_rfl)) ?_
                                        try go_wp2
                                        go_ret
                                        exact ⟨by first | rfl | (simp [errW_none, errW_some] <;> rfl) | (simp only [← hji133]; first | rfl | (simp [errW_none, errW_some] <;> rfl)) | (simp [*, errW_none, errW_some] <;> rfl), by repeat (first | (with_reducible first | exact HB.out | apply below_alloc | apply pw_below_drewN | apply below_drew1) | exact HB.out)⟩
                                      · rw [if_neg c137] at H
                                        have c137b0 : decide ((rd y260 x10_3) < (rd y260 (ji133))) = false := decide_eq_false c137
                                        clear c137
                                        have H' := Aside0.mk H
                                        clear H
                                        obtain ⟨Ao140, co140, eo140⟩ := Kd.R_slice HO_9.out
                                        subst eo140
                                        try go_wp2
                                        have n0_ := Aside0.mk (Kd.R_drew HO_5.out)
                                        have n1_ := Aside0.mk (Kd.R_drew HO_9.out)
                                        have n2_ := Aside0.mk (below_drew1 HB.out)
                                        clear HO_5
                                        clear HO_9
                                        clear HB
                                        have HO_5 := n0_
                                        have HO_9 := n1_
                                        have HB := n2_
                                        clear n0_ n1_ n2_
                                        have p263 : 0 ≤ ((ji133) : Int) := of_decide_eq_true (by first | (with_reducible assumption) | assumption)
                                        have q263 : (ji133) < (y260.length : Int) := of_decide_eq_true (by first | (with_reducible assumption) | assumption)
                                        obtain ⟨ad263, e263, hx263_0⟩ := Kd.at_int (Kd.R_reads' HO_9.out).2.2 (ji133) p263 q263
                                        cases e263
                                        replace p263 := eq_true p263
                                        replace q263 := eq_true q263
                                        have p264 : 0 ≤ (x10_3 : Int) := of_decide_eq_true (by first | (with_reducible assumption) | assumption)
                                        have q264 : x10_3 < (y260.length : Int) := of_decide_eq_true (by first | (with_reducible assumption) | assumption)
                                        obtain ⟨ad264, e264, hx264_0⟩ := Kd.at_int (Kd.R_reads' HO_9.out).2.2 x10_3 p264 q264
                                        obtain rfl : ad263 = ad264 := (by injection e264)
                                        replace p264 := eq_true p264
                                        replace q264 := eq_true q264
                                        refine start_ (n := 10) (S := fun w' => w'.cell? (ad263.add ((ji133)).toNat) = some (.int .i64 (rd y260 (ji133))) ∧ w'.cell? (ad263.add (x10_3).toNat) = some (.int .i64 (rd y260 x10_3))) (ds := []) #[false, false, false, false, false, false, false, false, false, false] (by kernel_rfl) rfl rfl ⟨hx263_0, hx264_0⟩ (fun hHeld => ?_); refine with_tabW scarflaw03_RankPuts.tab18 scarflaw03_RankPuts.bits18 (fun HT_ HW_ => ?_)
                                        generalize wr.drew = w141 at HO_5 HO_9 HB hx263_0 hx264_0 hHeld ⊢
                                        refine pure_ (i := 0) (N := some 79) (v := ?_) (a' := ?_) #[true, false, false, false, false, false, false, false, false, false] rfl rfl (any_of HT_.out (by kernel_rfl)) (fun _ _ _ h => h) (Or.inl ⟨by rfl, ?_⟩) ?_ ?_
                                        rotate_left
                                        · intro w'
                                          go_simp
                                          with_reducible rfl
                                        rotate_left
                                        · simp only [Act.put, List.setIfInBounds_toArray, List.set_cons_zero, List.set_cons_succ, i64_w, i32_w]
                                          rfl
                                        refine pure_ (i := 1) (N := some 80) (v := ?_) (a' := ?_) #[true, true, false, false, false, false, false, false, false, false] rfl rfl (any_of HT_.out (by kernel_rfl)) (fun _ _ _ h => h) (Or.inl ⟨by rfl, ?_⟩) ?_ ?_
                                        rotate_left
                                        · intro w'
                                          go_simp
                                          with_reducible rfl
                                        rotate_left
                                        · simp only [Act.put, List.setIfInBounds_toArray, List.set_cons_zero, List.set_cons_succ, i64_w, i32_w]
                                          rfl
                                        refine pure_ (i := 2) (N := some 81) (v := ?_) (a' := ?_) #[true, true, true, false, false, false, false, false, false, false] rfl rfl (any_of HT_.out (by kernel_rfl)) (fun _ _ _ h => h) (Or.inl ⟨by rfl, ?_⟩) ?_ ?_
                                        rotate_left
                                        · intro w'
                                          go_simp
                                          with_reducible rfl
                                        rotate_left
                                        · simp only [Act.put, List.setIfInBounds_toArray, List.set_cons_zero, List.set_cons_succ, i64_w, i32_w]
                                          rfl
                                        refine pure_ (i := 3) (N := some 82) (v := ?_) (a' := ?_) #[true, true, true, true, false, false, false, false, false, false] rfl rfl (any_of HT_.out (by kernel_rfl)) (fun _ _ _ h => h) (Or.inl ⟨by rfl, ?_⟩) ?_ ?_
                                        rotate_left
                                        · intro w'
                                          go_simp
                                          with_reducible rfl
                                        rotate_left
                                        · simp only [Act.put, List.setIfInBounds_toArray, List.set_cons_zero, List.set_cons_succ, i64_w, i32_w]
                                          rfl
                                        refine pure_ (i := 5) (N := some 84) (v := ?_) (a' := ?_) #[true, true, true, true, false, true, false, false, false, false] rfl rfl (any_of HT_.out (by kernel_rfl)) (fun _ _ _ h => h) (Or.inl ⟨by rfl, ?_⟩) ?_ ?_
                                        rotate_left
                                        · intro w'
                                          go_simp
                                          with_reducible rfl
                                        rotate_left
                                        · simp only [Act.put, List.setIfInBounds_toArray, List.set_cons_zero, List.set_cons_succ, i64_w, i32_w]
                                          rfl
                                        refine pure_ (i := 6) (N := some 85) (v := ?_) (a' := ?_) #[true, true, true, true, false, true, true, false, false, false] rfl rfl (any_of HT_.out (by kernel_rfl)) (fun _ _ _ h => h) (Or.inl ⟨by rfl, ?_⟩) ?_ ?_
                                        rotate_left
                                        · intro w'
                                          go_simp
                                          with_reducible rfl
                                        rotate_left
                                        · simp only [Act.put, List.setIfInBounds_toArray, List.set_cons_zero, List.set_cons_succ, i64_w, i32_w]
                                          rfl
                                        refine pure_ (i := 7) (N := some 86) (v := ?_) (a' := ?_) #[true, true, true, true, false, true, true, true, false, false] rfl rfl (any_of HT_.out (by kernel_rfl)) (fun _ _ _ h => h) (Or.inl ⟨by rfl, ?_⟩) ?_ ?_
                                        rotate_left
                                        · intro w'
                                          go_simp
                                          with_reducible rfl
                                        rotate_left
                                        · simp only [Act.put, List.setIfInBounds_toArray, List.set_cons_zero, List.set_cons_succ, i64_w, i32_w]
                                          rfl
                                        refine take_ (i := 4) (N := some 83) (v := ?_) (a' := ?_) #[true, true, true, true, true, true, true, true, false, false] rfl rfl (take_ofW HT_.out HW_.out (by kernel_rfl)) (fun _ _ _ h => h) (Or.inl ⟨by rfl, ?_⟩) hHeld ?_ ?_
                                        rotate_left
                                        · rintro w' ⟨s0, s1⟩
                                          go_simp
                                          with_reducible rfl
                                        rotate_left
                                        · simp only [Act.put, List.setIfInBounds_toArray, List.set_cons_zero, List.set_cons_succ, i64_w, i32_w]
                                          rfl
                                        refine take_ (i := 8) (N := some 87) (v := ?_) (a' := ?_) #[true, true, true, true, true, true, true, true, true, false] rfl rfl (take_ofW HT_.out HW_.out (by kernel_rfl)) (fun _ _ _ h => h) (Or.inl ⟨by rfl, ?_⟩) hHeld ?_ ?_
                                        rotate_left
                                        · rintro w' ⟨s0, s1⟩
                                          go_simp
                                          with_reducible rfl
                                        rotate_left
                                        · simp only [Act.put, List.setIfInBounds_toArray, List.set_cons_zero, List.set_cons_succ, i64_w, i32_w]
                                          rfl
                                        refine pure_ (i := 9) (N := some 88) (v := ?_) (a' := ?_) #[true, true, true, true, true, true, true, true, true, true] rfl rfl (any_of HT_.out (by kernel_rfl)) (fun _ _ _ h => h) (Or.inl ⟨by rfl, ?_⟩) ?_ ?_
                                        rotate_left
                                        · intro w'
                                          go_simp
                                          with_reducible rfl
                                        rotate_left
                                        · simp only [Act.put, List.setIfInBounds_toArray, List.set_cons_zero, List.set_cons_succ, i64_w, i32_w]
                                          rfl
                                        refine done_ (done_of HT_.out (by kernel_rfl)) ?_
                                        try go_wp2
                                        go_roundg k3
                                        case measure => have := HK1.out; have := HJ107.out; have := HK3.out; omega
                                        case rel => exact ⟨(wrap64 (x10_3 + 1)), (by first | rfl | (simp; done) | (simp [*]; done)), H', ⟨by have := HK1.out; have := HJ107.out; have := HK3.out; omega⟩, ⟨by (with_reducible repeat (first | apply Kd.R_alloc | apply Kd.R_drewN | apply Kd.R_drew)); exact HO_5.out⟩, ⟨by (with_reducible repeat (first | apply Kd.R_alloc | apply Kd.R_drewN | apply Kd.R_drew)); exact HO_9.out⟩, ⟨by repeat (first | (with_reducible first | exact HB.out | apply below_alloc | apply pw_below_drewN | apply below_drew1) | exact HB.out)⟩⟩
                                    · rw [if_neg c136] at H
                                      exact absurd H (by simp)
                                  · rw [if_neg c135] at H
                                    exact absurd H (by simp)
                                · rw [if_neg c134] at H
                                  exact absurd H (by simp)
                              · rw [if_neg c132] at H
                                have c132b0 : decide (x10_3 < (y260.length : Int)) = false := decide_eq_false c132
                                clear c132
                                replace H := Option.bind_eq_some_iff.mp H
                                obtain ⟨t265, A1420, H⟩ := H
                                replace H : (scarflaw03_RankPuts.l5 k3 a1 x5_1 t239 t265 0) = some r := H
                                have A142 := Aside0.mk A1420
                                clear A1420
                                have H' := Aside0.mk H
                                clear H
                                obtain ⟨Ao143, co143, eo143⟩ := Kd.R_slice HO_9.out
                                subst eo143
                                go_wp2_with (first | ((with_reducible refine gate_callee (f := 11) rfl ?_); refine goesL_ (some 90) rfl rfl Try.func11 (by kernel_rfl) rfl #[.slice Ao110 x5_1.length co110] rfl (by (try simp only [List.map_toArray, List.map_cons, List.map_nil]); first | done | rfl | (simp only [List.length_drop, List.length_take]; rfl)) ?_; (with_reducible refine (rank_Ints.calls k3 _ _ x5_1 t265 _ ?side1 ?side2 A142.out).mono ?_); (case side1 => repeat (first | exact (Kd.R_reads' HO_5.out).2.2 | (with_reducible refine Kd.C_alloc ?_ _) | (with_reducible refine Kd.C_drewN ?_ _) | (with_reducible refine Kd.C_drew ?_))); (case side2 => exact (Kd.R_reads' HO_5.out).2.1); rintro e w144 ⟨v266, rfl, ho0, hb⟩; refine ⟨_, rfl, ?_⟩; have n0_ := Aside0.mk (Kd.R_elder' (by (with_reducible repeat (first | apply Kd.R_alloc | apply Kd.R_drewN | apply Kd.R_drew)); exact HO_5.out) (Kd.R_base ho0) hb); have n1_ := Aside0.mk (Kd.R_elder' (by (with_reducible repeat (first | apply Kd.R_alloc | apply Kd.R_drewN | apply Kd.R_drew)); exact HO_9.out) (Kd.R_base ho0) hb); have n2_ := Aside0.mk (Kd.R_lower (Kd.R_new' (Kd.R_new' ho0 (Kd.R_lt (by (with_reducible repeat (first | apply Kd.R_alloc | apply Kd.R_drewN | apply Kd.R_drew)); exact HO_5.out))) (Kd.R_lt (by (with_reducible repeat (first | apply Kd.R_alloc | apply Kd.R_drewN | apply Kd.R_drew)); exact HO_9.out))) (below_size (by repeat (first | (with_reducible first | exact HB.out | apply below_alloc | apply pw_below_drewN | apply below_drew1) | exact HB.out)))); have n3_ := Aside0.mk (below_step (by repeat (first | (with_reducible first | exact HB.out | apply below_alloc | apply pw_below_drewN | apply below_drew1) | exact HB.out)) hb); clear HO_5; clear HO_9; clear HB; have HO_5 := n0_; have HO_9 := n1_; have HO267 := n2_; have HB := n3_; clear n0_ n1_ n2_ n3_; (try clear hb); (try clear hb2); (try clear hk); (try clear hi); (try clear ho0)))
                                go_loopg [12] k3 (fun kq v12 w' => ∃ (x12_4 : Int), v12 = .int .i64 x12_4 ∧ Aside0 (scarflaw03_RankPuts.l5 kq a1 x5_1 t239 t265 x12_4 = some r) ∧ Aside0 (kq ≤ k3) ∧ Aside0 (Kd.R (Kd.int .i64) 3 w' w.heap.size (fun k_ => some k_ ≠ (v266 : Value).ownBlock) (.slice Ao110 x5_1.length co110) x5_1) ∧ Aside0 (Kd.R (Kd.int .i64) 3 w' w.heap.size (fun k_ => some k_ ≠ ((.slice Ao110 x5_1.length co110) : Value).ownBlock) v266 t265) ∧ Aside0 (Below w.heap.size w w'))
                                case atStart => exact ⟨(0), (by first | rfl | (simp; done) | (simp [*]; done)), H', ⟨Nat.le_refl _⟩, ⟨by (with_reducible repeat (first | apply Kd.R_alloc | apply Kd.R_drewN | apply Kd.R_drew)); exact Kd.R_mono HO_5.out (fun _ hk => hk.2)⟩, ⟨by (with_reducible repeat (first | apply Kd.R_alloc | apply Kd.R_drewN | apply Kd.R_drew)); exact Kd.R_mono HO267.out (fun _ hk => hk.1.2)⟩, ⟨by repeat (first | (with_reducible first | exact HB.out | apply below_alloc | apply pw_below_drewN | apply below_drew1) | exact HB.out)⟩⟩
                                case round =>
                                  clear H'
                                  try clear c1
                                  try clear p1
                                  try clear q1
                                  try clear hx1
                                  try clear p2
                                  try clear q2
                                  try clear hx2
                                  try clear q3
                                  try clear p6
                                  try clear c11
                                  try clear c12
                                  try clear q12
                                  try clear c13
                                  try clear p18
                                  try clear q18
                                  try clear hx18
                                  try clear p21
                                  try clear q21
                                  try clear hx21
                                  try clear p22
                                  try clear q22
                                  try clear hx22
                                  try clear p23
                                  try clear q23
                                  try clear hx23
                                  try clear p26
                                  try clear q26
                                  try clear hx26
                                  try clear q36
                                  try clear q37
                                  try clear p64
                                  try clear c111
                                  try clear c111b0
                                  try clear c112
                                  try clear c113
                                  try clear c113b0
                                  try clear c113b1
                                  try clear c114
                                  try clear c114b0
                                  try clear c114b1
                                  try clear c115
                                  try clear c116
                                  try clear c117
                                  try clear c117b0
                                  try clear c118
                                  try clear c118b0
                                  try clear c119
                                  try clear q121
                                  try clear c122
                                  try clear q122
                                  try clear c132
                                  try clear c132b0
                                  try clear c134
                                  try clear c134b0
                                  try clear c135
                                  try clear c135b0
                                  try clear c136
                                  try clear c136b0
                                  try clear c137
                                  try clear c137b0
                                  try clear hx182_0
                                  try clear hx183_0
                                  try clear hx184_0
                                  try clear hx185_0
                                  try clear hx216_0
                                  try clear hx217_0
                                  try clear hx221_0
                                  try clear hx223_0
                                  try clear hx224_0
                                  try clear hx225_0
                                  try clear hx229_0
                                  try clear hx230_0
                                  try clear hx231_0
                                  try clear hx232_0
                                  try clear hx263_0
                                  try clear hx264_0
                                  try clear p1
                                  try clear p18
                                  try clear p182
                                  try clear p183
                                  try clear p184
                                  try clear p185
                                  try clear p2
                                  try clear p21
                                  try clear p216
                                  try clear p217
                                  try clear p22
                                  try clear p221
                                  try clear p223
                                  try clear p224
                                  try clear p225
                                  try clear p229
                                  try clear p23
                                  try clear p230
                                  try clear p231
                                  try clear p232
                                  try clear p263
                                  try clear p264
                                  try clear p6
                                  try clear p64
                                  try clear q0122
                                  try clear q037
                                  try clear q1
                                  try clear q12
                                  try clear q121
                                  try clear q122
                                  try clear q18
                                  try clear q182
                                  try clear q183
                                  try clear q184
                                  try clear q185
                                  try clear q2
                                  try clear q21
                                  try clear q216
                                  try clear q217
                                  try clear q22
                                  try clear q221
                                  try clear q223
                                  try clear q224
                                  try clear q225
                                  try clear q229
                                  try clear q23
                                  try clear q230
                                  try clear q231
                                  try clear q232
                                  try clear q263
                                  try clear q264
                                  try clear q3
                                  try clear q36
                                  try clear q37
                                  obtain ⟨x12_4, rfl, HA, HK4, HO_5, HO_11, HB⟩ := hrel
                                  cases gk with
                                  | zero => exact absurd HA.out (by simp [scarflaw03_RankPuts.l5])
                                  | succ k4 =>
                                    have H := HA.out
                                    clear HA
                                    simp only [scarflaw03_RankPuts.l5] at H
                                    by_cases c145 : x12_4 < (t265.length : Int)
                                    · rw [if_pos c145] at H
                                      have c145b0 : decide (x12_4 < (t265.length : Int)) = true := decide_eq_true c145
                                      clear c145
                                      by_cases c146 : 0 ≤ x12_4
                                      · rw [if_pos c146] at H
                                        have c146b0 : decide (0 ≤ x12_4) = true := decide_eq_true c146
                                        clear c146
                                        by_cases c147 : (rd t265 x12_4) = x12_4
                                        · rw [if_pos c147] at H
                                          have c147b0 : ((rd t265 x12_4) == x12_4) = true := beq_iff_eq.mpr c147
                                          have c147b1 : ((rd t265 x12_4) != x12_4) = false := bne_eq_false_iff_eq.mpr c147
                                          clear c147
                                          have H' := Aside0.mk H
                                          clear H
                                          obtain ⟨Ao148, co148, eo148⟩ := Kd.R_slice HO_11.out
                                          subst eo148
                                          have p268 : 0 ≤ (x12_4 : Int) := of_decide_eq_true (by first | (with_reducible assumption) | assumption)
                                          have q268 : x12_4 < (t265.length : Int) := of_decide_eq_true (by first | (with_reducible assumption) | assumption)
                                          obtain ⟨ad268, e268, hx268_0⟩ := Kd.at_int (Kd.R_reads' HO_11.out).2.2 x12_4 p268 q268
                                          cases e268
                                          replace p268 := eq_true p268
                                          replace q268 := eq_true q268
                                          go_wp2
                                          go_roundg k4
                                          case measure => have := HK1.out; have := HJ107.out; have := HK3.out; have := HK4.out; omega
                                          case rel => exact ⟨(wrap64 (x12_4 + 1)), (by first | rfl | (simp; done) | (simp [*]; done)), H', ⟨by have := HK1.out; have := HJ107.out; have := HK3.out; have := HK4.out; omega⟩, ⟨by (with_reducible repeat (first | apply Kd.R_alloc | apply Kd.R_drewN | apply Kd.R_drew)); exact HO_5.out⟩, ⟨by (with_reducible repeat (first | apply Kd.R_alloc | apply Kd.R_drewN | apply Kd.R_drew)); exact HO_11.out⟩, ⟨by repeat (first | (with_reducible first | exact HB.out | apply below_alloc | apply pw_below_drewN | apply below_drew1) | exact HB.out)⟩⟩
                                        · rw [if_neg c147] at H
                                          have c147b0 : ((rd t265 x12_4) == x12_4) = false := beq_eq_false_iff_ne.mpr c147
                                          have c147b1 : ((rd t265 x12_4) != x12_4) = true := bne_iff_ne.mpr c147
                                          obtain rfl := Option.some.inj H
                                          obtain ⟨Ao149, co149, eo149⟩ := Kd.R_slice HO_11.out
                                          subst eo149
                                          have p268 : 0 ≤ (x12_4 : Int) := of_decide_eq_true (by first | (with_reducible assumption) | assumption)
                                          have q268 : x12_4 < (t265.length : Int) := of_decide_eq_true (by first | (with_reducible assumption) | assumption)
                                          obtain ⟨ad268, e268, hx268_0⟩ := Kd.at_int (Kd.R_reads' HO_11.out).2.2 x12_4 p268 q268
                                          cases e268
                                          replace p268 := eq_true p268
                                          replace q268 := eq_true q268
                                          go_wp2
                                          go_ret
                                          exact ⟨by first | rfl | (simp [errW_none, errW_some] <;> rfl) | (simp [*, errW_none, errW_some] <;> rfl), by repeat (first | (with_reducible first | exact HB.out | apply below_alloc | apply pw_below_drewN | apply below_drew1) | exact HB.out)⟩
                                      · rw [if_neg c146] at H
                                        exact absurd H (by simp)
                                    · rw [if_neg c145] at H
                                      have c145b0 : decide (x12_4 < (t265.length : Int)) = false := decide_eq_false c145
                                      clear c145
                                      replace H := Option.bind_eq_some_iff.mp H
                                      obtain ⟨t269, A1500, H⟩ := H
                                      replace H : (if t269 = true then (if t239 = (x5_1.length : Int) then (if t239 = 0 then (some true) else (if 0 ≤ (wrap64 (t239 - 1)) then (if (wrap64 (t239 - 1)) < (x5_1.length : Int) then (some (decide ((rd x5_1 (wrap64 (t239 - 1))) < a1))) else (none)) else (none))) else (if 0 ≤ t239 then (if t239 < (x5_1.length : Int) then (if (rd x5_1 t239) ≥ a1 then (if t239 = 0 then (some true) else (if 0 ≤ (wrap64 (t239 - 1)) then (if (wrap64 (t239 - 1)) < (x5_1.length : Int) then (some (decide ((rd x5_1 (wrap64 (t239 - 1))) < a1))) else (none)) else (none))) else (some false)) else (none)) else (none))) else (some false)) = some r := H
                                      have A150 := Aside0.mk A1500
                                      clear A1500
                                      by_cases c151 : t269 = true
                                      · subst c151
                                        have H1 : (if t239 = (x5_1.length : Int) then (if t239 = 0 then (some true) else (if 0 ≤ (wrap64 (t239 - 1)) then (if (wrap64 (t239 - 1)) < (x5_1.length : Int) then (some (decide ((rd x5_1 (wrap64 (t239 - 1))) < a1))) else (none)) else (none))) else (if 0 ≤ t239 then (if t239 < (x5_1.length : Int) then (if (rd x5_1 t239) ≥ a1 then (if t239 = 0 then (some true) else (if 0 ≤ (wrap64 (t239 - 1)) then (if (wrap64 (t239 - 1)) < (x5_1.length : Int) then (some (decide ((rd x5_1 (wrap64 (t239 - 1))) < a1))) else (none)) else (none))) else (some false)) else (none)) else (none))) = some r := by rw [if_pos rfl] at H; exact H
                                        clear H
                                        have H := H1
                                        clear H1
                                        by_cases c152 : t239 = (x5_1.length : Int)
                                        · rw [if_pos c152] at H
                                          have c152b0 : (t239 == (x5_1.length : Int)) = true := beq_iff_eq.mpr c152
                                          have c152b1 : (t239 != (x5_1.length : Int)) = false := bne_eq_false_iff_eq.mpr c152
                                          clear c152
                                          by_cases c153 : t239 = 0
                                          · rw [if_pos c153] at H
                                            have c153b0 : (t239 == 0) = true := beq_iff_eq.mpr c153
                                            have c153b1 : (t239 != 0) = false := bne_eq_false_iff_eq.mpr c153
                                            clear c153
                                            obtain rfl := Option.some.inj H
                                            obtain ⟨Ao154, co154, eo154⟩ := Kd.R_slice HO_11.out
                                            subst eo154
                                            go_wp2_with (first | ((with_reducible refine gate_callee (f := 9) rfl ?_); refine goesL_ (some 103) rfl rfl Try.func9 (by kernel_rfl) rfl #[] rfl (by (try simp only [List.map_toArray, List.map_cons, List.map_nil]); first | done | rfl | (simp only [List.length_drop, List.length_take]; rfl)) ?_; (with_reducible refine (scarflaw03_known.calls k4  true _ A150.out).mono ?_); rintro e w155 ⟨rfl, hb⟩; refine ⟨_, rfl, ?_⟩; have n0_ := Aside0.mk (Kd.R_below (by (with_reducible repeat (first | apply Kd.R_alloc | apply Kd.R_drewN | apply Kd.R_drew)); exact HO_5.out) hb); have n1_ := Aside0.mk (Kd.R_below (by (with_reducible repeat (first | apply Kd.R_alloc | apply Kd.R_drewN | apply Kd.R_drew)); exact HO_11.out) hb); have n2_ := Aside0.mk (below_step (by repeat (first | (with_reducible first | exact HB.out | apply below_alloc | apply pw_below_drewN | apply below_drew1) | exact HB.out)) hb); clear HO_5; clear HO_11; clear HB; have HO_5 := n0_; have HO_11 := n1_; have HB := n2_; clear n0_ n1_ n2_; (try clear hb); (try clear hb2); (try clear hk); (try clear hi)))
                                            go_ret
                                            exact ⟨by first | rfl | (simp [errW_none, errW_some] <;> rfl) | (simp [*, errW_none, errW_some] <;> rfl), by repeat (first | (with_reducible first | exact HB.out | apply below_alloc | apply pw_below_drewN | apply below_drew1) | exact HB.out)⟩
                                          · rw [if_neg c153] at H
                                            have c153b0 : (t239 == 0) = false := beq_eq_false_iff_ne.mpr c153
                                            have c153b1 : (t239 != 0) = true := bne_iff_ne.mpr c153
                                            obtain ⟨ji156, hji156⟩ : ∃ j_ : Int, (wrap64 (t239 - 1)) = j_ := ⟨_, rfl⟩
                                            replace H : (if 0 ≤ (ji156) then (if (ji156) < (x5_1.length : Int) then (some (decide ((rd x5_1 (ji156)) < a1))) else (none)) else (none)) = some r := by first | (rw [hji156] at H; exact H) | (simp only [hji156] at H ⊢; exact H)
                                            (try rw [hji156] at A150)
                                            have hji156w : (IntKind.i64.wrap (t239 - 1)) = ji156 := (i64_w _).trans hji156
                                            by_cases c157 : 0 ≤ (ji156)
                                            · rw [if_pos c157] at H
                                              have c157b0 : decide (0 ≤ (ji156)) = true := decide_eq_true c157
                                              clear c157
                                              by_cases c158 : (ji156) < (x5_1.length : Int)
                                              · rw [if_pos c158] at H
                                                have c158b0 : decide ((ji156) < (x5_1.length : Int)) = true := decide_eq_true c158
                                                clear c158
                                                obtain rfl := Option.some.inj H
                                                obtain ⟨Ao159, co159, eo159⟩ := Kd.R_slice HO_11.out
                                                subst eo159
                                                go_wp2_with (first | ((with_reducible refine gate_callee (f := 9) rfl ?_); refine goesL_ (some 103) rfl rfl Try.func9 (by kernel_rfl) rfl #[] rfl (by (try simp only [List.map_toArray, List.map_cons, List.map_nil]); first | done | rfl | (simp only [List.length_drop, List.length_take]; rfl)) ?_; (with_reducible refine (scarflaw03_known.calls k4  true _ A150.out).mono ?_); rintro e w160 ⟨rfl, hb⟩; refine ⟨_, rfl, ?_⟩; have n0_ := Aside0.mk (Kd.R_below (by (with_reducible repeat (first | apply Kd.R_alloc | apply Kd.R_drewN | apply Kd.R_drew)); exact HO_5.out) hb); have n1_ := Aside0.mk (Kd.R_below (by (with_reducible repeat (first | apply Kd.R_alloc | apply Kd.R_drewN | apply Kd.R_drew)); exact HO_11.out) hb); have n2_ := Aside0.mk (below_step (by repeat (first | (with_reducible first | exact HB.out | apply below_alloc | apply pw_below_drewN | apply below_drew1) | exact HB.out)) hb); clear HO_5; clear HO_11; clear HB; have HO_5 := n0_; have HO_11 := n1_; have HB := n2_; clear n0_ n1_ n2_; (try clear hb); (try clear hb2); (try clear hk); (try clear hi); have p270 : 0 ≤ ((ji156) : Int) := of_decide_eq_true (by first | (with_reducible assumption) | assumption); have q270 : (ji156) < (x5_1.length : Int) := of_decide_eq_true (by first | (with_reducible assumption) | assumption); obtain ⟨ad270, e270, hx270_0⟩ := Kd.at_int (Kd.R_reads' HO_5.out).2.2 (ji156) p270 q270; cases e270; replace p270 := eq_true p270; replace q270 := eq_true q270))
                                                go_ret
                                                exact ⟨by first | rfl | (simp [errW_none, errW_some] <;> rfl) | (simp only [← hji156]; first | rfl | (simp [errW_none, errW_some] <;> rfl)) | (simp [*, errW_none, errW_some] <;> rfl), by repeat (first | (with_reducible first | exact HB.out | apply below_alloc | apply pw_below_drewN | apply below_drew1) | exact HB.out)⟩
                                              · rw [if_neg c158] at H
                                                exact absurd H (by simp)
                                            · rw [if_neg c157] at H
                                              exact absurd H (by simp)
                                        · rw [if_neg c152] at H
                                          have c152b0 : (t239 == (x5_1.length : Int)) = false := beq_eq_false_iff_ne.mpr c152
                                          have c152b1 : (t239 != (x5_1.length : Int)) = true := bne_iff_ne.mpr c152
                                          by_cases c161 : 0 ≤ t239
                                          · rw [if_pos c161] at H
                                            have c161b0 : decide (0 ≤ t239) = true := decide_eq_true c161
                                            clear c161
                                            by_cases c162 : t239 < (x5_1.length : Int)
                                            · rw [if_pos c162] at H
                                              have c162b0 : decide (t239 < (x5_1.length : Int)) = true := decide_eq_true c162
                                              clear c162
                                              by_cases c163 : (rd x5_1 t239) ≥ a1
                                              · rw [if_pos c163] at H
                                                have c163b0 : decide (a1 ≤ (rd x5_1 t239)) = true := decide_eq_true c163
                                                clear c163
                                                by_cases c164 : t239 = 0
                                                · rw [if_pos c164] at H
                                                  have c164b0 : (t239 == 0) = true := beq_iff_eq.mpr c164
                                                  have c164b1 : (t239 != 0) = false := bne_eq_false_iff_eq.mpr c164
                                                  clear c164
                                                  obtain rfl := Option.some.inj H
                                                  obtain ⟨Ao165, co165, eo165⟩ := Kd.R_slice HO_11.out
                                                  subst eo165
                                                  go_wp2_with (first | ((with_reducible refine gate_callee (f := 9) rfl ?_); refine goesL_ (some 103) rfl rfl Try.func9 (by kernel_rfl) rfl #[] rfl (by (try simp only [List.map_toArray, List.map_cons, List.map_nil]); first | done | rfl | (simp only [List.length_drop, List.length_take]; rfl)) ?_; (with_reducible refine (scarflaw03_known.calls k4  true _ A150.out).mono ?_); rintro e w166 ⟨rfl, hb⟩; refine ⟨_, rfl, ?_⟩; have n0_ := Aside0.mk (Kd.R_below (by (with_reducible repeat (first | apply Kd.R_alloc | apply Kd.R_drewN | apply Kd.R_drew)); exact HO_5.out) hb); have n1_ := Aside0.mk (Kd.R_below (by (with_reducible repeat (first | apply Kd.R_alloc | apply Kd.R_drewN | apply Kd.R_drew)); exact HO_11.out) hb); have n2_ := Aside0.mk (below_step (by repeat (first | (with_reducible first | exact HB.out | apply below_alloc | apply pw_below_drewN | apply below_drew1) | exact HB.out)) hb); clear HO_5; clear HO_11; clear HB; have HO_5 := n0_; have HO_11 := n1_; have HB := n2_; clear n0_ n1_ n2_; (try clear hb); (try clear hb2); (try clear hk); (try clear hi); have p271 : 0 ≤ (t239 : Int) := of_decide_eq_true (by first | (with_reducible assumption) | assumption); have q271 : t239 < (x5_1.length : Int) := of_decide_eq_true (by first | (with_reducible assumption) | assumption); obtain ⟨ad271, e271, hx271_0⟩ := Kd.at_int (Kd.R_reads' HO_5.out).2.2 t239 p271 q271; cases e271; replace p271 := eq_true p271; replace q271 := eq_true q271))
                                                  go_ret
                                                  exact ⟨by first | rfl | (simp [errW_none, errW_some] <;> rfl) | (simp [*, errW_none, errW_some] <;> rfl), by repeat (first | (with_reducible first | exact HB.out | apply below_alloc | apply pw_below_drewN | apply below_drew1) | exact HB.out)⟩
                                                · rw [if_neg c164] at H
                                                  have c164b0 : (t239 == 0) = false := beq_eq_false_iff_ne.mpr c164
                                                  have c164b1 : (t239 != 0) = true := bne_iff_ne.mpr c164
                                                  obtain ⟨ji167, hji167⟩ : ∃ j_ : Int, (wrap64 (t239 - 1)) = j_ := ⟨_, rfl⟩
                                                  replace H : (if 0 ≤ (ji167) then (if (ji167) < (x5_1.length : Int) then (some (decide ((rd x5_1 (ji167)) < a1))) else (none)) else (none)) = some r := by first | (rw [hji167] at H; exact H) | (simp only [hji167] at H ⊢; exact H)
                                                  (try rw [hji167] at A150)
                                                  have hji167w : (IntKind.i64.wrap (t239 - 1)) = ji167 := (i64_w _).trans hji167
                                                  by_cases c168 : 0 ≤ (ji167)
                                                  · rw [if_pos c168] at H
                                                    have c168b0 : decide (0 ≤ (ji167)) = true := decide_eq_true c168
                                                    clear c168
                                                    by_cases c169 : (ji167) < (x5_1.length : Int)
                                                    · rw [if_pos c169] at H
                                                      have c169b0 : decide ((ji167) < (x5_1.length : Int)) = true := decide_eq_true c169
                                                      clear c169
                                                      obtain rfl := Option.some.inj H
                                                      obtain ⟨Ao170, co170, eo170⟩ := Kd.R_slice HO_11.out
                                                      subst eo170
                                                      go_wp2_with (first | ((with_reducible refine gate_callee (f := 9) rfl ?_); refine goesL_ (some 103) rfl rfl Try.func9 (by kernel_rfl) rfl #[] rfl (by (try simp only [List.map_toArray, List.map_cons, List.map_nil]); first | done | rfl | (simp only [List.length_drop, List.length_take]; rfl)) ?_; (with_reducible refine (scarflaw03_known.calls k4  true _ A150.out).mono ?_); rintro e w171 ⟨rfl, hb⟩; refine ⟨_, rfl, ?_⟩; have n0_ := Aside0.mk (Kd.R_below (by (with_reducible repeat (first | apply Kd.R_alloc | apply Kd.R_drewN | apply Kd.R_drew)); exact HO_5.out) hb); have n1_ := Aside0.mk (Kd.R_below (by (with_reducible repeat (first | apply Kd.R_alloc | apply Kd.R_drewN | apply Kd.R_drew)); exact HO_11.out) hb); have n2_ := Aside0.mk (below_step (by repeat (first | (with_reducible first | exact HB.out | apply below_alloc | apply pw_below_drewN | apply below_drew1) | exact HB.out)) hb); clear HO_5; clear HO_11; clear HB; have HO_5 := n0_; have HO_11 := n1_; have HB := n2_; clear n0_ n1_ n2_; (try clear hb); (try clear hb2); (try clear hk); (try clear hi); have p271 : 0 ≤ (t239 : Int) := of_decide_eq_true (by first | (with_reducible assumption) | assumption); have q271 : t239 < (x5_1.length : Int) := of_decide_eq_true (by first | (with_reducible assumption) | assumption); obtain ⟨ad271, e271, hx271_0⟩ := Kd.at_int (Kd.R_reads' HO_5.out).2.2 t239 p271 q271; cases e271; replace p271 := eq_true p271; replace q271 := eq_true q271; have p272 : 0 ≤ ((ji167) : Int) := of_decide_eq_true (by first | (with_reducible assumption) | assumption); have q272 : (ji167) < (x5_1.length : Int) := of_decide_eq_true (by first | (with_reducible assumption) | assumption); obtain ⟨ad272, e272, hx272_0⟩ := Kd.at_int (Kd.R_reads' HO_5.out).2.2 (ji167) p272 q272; obtain rfl : ad271 = ad272 := (by injection e272); replace p272 := eq_true p272; replace q272 := eq_true q272))
                                                      go_ret
                                                      exact ⟨by first | rfl | (simp [errW_none, errW_some] <;> rfl) | (simp only [← hji167]; first | rfl | (simp [errW_none, errW_some] <;> rfl)) | (simp [*, errW_none, errW_some] <;> rfl), by repeat (first | (with_reducible first | exact HB.out | apply below_alloc | apply pw_below_drewN | apply below_drew1) | exact HB.out)⟩
                                                    · rw [if_neg c169] at H
                                                      exact absurd H (by simp)
                                                  · rw [if_neg c168] at H
                                                    exact absurd H (by simp)
                                              · rw [if_neg c163] at H
                                                have c163b0 : decide (a1 ≤ (rd x5_1 t239)) = false := decide_eq_false c163
                                                clear c163
                                                obtain rfl := Option.some.inj H
                                                obtain ⟨Ao172, co172, eo172⟩ := Kd.R_slice HO_11.out
                                                subst eo172
                                                go_wp2_with (first | ((with_reducible refine gate_callee (f := 9) rfl ?_); refine goesL_ (some 103) rfl rfl Try.func9 (by kernel_rfl) rfl #[] rfl (by (try simp only [List.map_toArray, List.map_cons, List.map_nil]); first | done | rfl | (simp only [List.length_drop, List.length_take]; rfl)) ?_; (with_reducible refine (scarflaw03_known.calls k4  true _ A150.out).mono ?_); rintro e w173 ⟨rfl, hb⟩; refine ⟨_, rfl, ?_⟩; have n0_ := Aside0.mk (Kd.R_below (by (with_reducible repeat (first | apply Kd.R_alloc | apply Kd.R_drewN | apply Kd.R_drew)); exact HO_5.out) hb); have n1_ := Aside0.mk (Kd.R_below (by (with_reducible repeat (first | apply Kd.R_alloc | apply Kd.R_drewN | apply Kd.R_drew)); exact HO_11.out) hb); have n2_ := Aside0.mk (below_step (by repeat (first | (with_reducible first | exact HB.out | apply below_alloc | apply pw_below_drewN | apply below_drew1) | exact HB.out)) hb); clear HO_5; clear HO_11; clear HB; have HO_5 := n0_; have HO_11 := n1_; have HB := n2_; clear n0_ n1_ n2_; (try clear hb); (try clear hb2); (try clear hk); (try clear hi); have p271 : 0 ≤ (t239 : Int) := of_decide_eq_true (by first | (with_reducible assumption) | assumption); have q271 : t239 < (x5_1.length : Int) := of_decide_eq_true (by first | (with_reducible assumption) | assumption); obtain ⟨ad271, e271, hx271_0⟩ := Kd.at_int (Kd.R_reads' HO_5.out).2.2 t239 p271 q271; cases e271; replace p271 := eq_true p271; replace q271 := eq_true q271))
                                                go_ret
                                                exact ⟨by first | rfl | (simp [errW_none, errW_some] <;> rfl) | (simp [*, errW_none, errW_some] <;> rfl), by repeat (first | (with_reducible first | exact HB.out | apply below_alloc | apply pw_below_drewN | apply below_drew1) | exact HB.out)⟩
                                            · rw [if_neg c162] at H
                                              exact absurd H (by simp)
                                          · rw [if_neg c161] at H
                                            exact absurd H (by simp)
                                      · replace c151 := Bool.eq_false_iff.mpr c151
                                        subst c151
                                        have H1 : (some false) = some r := by rw [if_neg (show ¬ (false = true) by decide)] at H; exact H
                                        clear H
                                        have H := H1
                                        clear H1
                                        obtain rfl := Option.some.inj H
                                        obtain ⟨Ao174, co174, eo174⟩ := Kd.R_slice HO_11.out
                                        subst eo174
                                        go_wp2_with (first | ((with_reducible refine gate_callee (f := 9) rfl ?_); refine goesL_ (some 103) rfl rfl Try.func9 (by kernel_rfl) rfl #[] rfl (by (try simp only [List.map_toArray, List.map_cons, List.map_nil]); first | done | rfl | (simp only [List.length_drop, List.length_take]; rfl)) ?_; (with_reducible refine (scarflaw03_known.calls k4  false _ A150.out).mono ?_); rintro e w175 ⟨rfl, hb⟩; refine ⟨_, rfl, ?_⟩; have n0_ := Aside0.mk (Kd.R_below (by (with_reducible repeat (first | apply Kd.R_alloc | apply Kd.R_drewN | apply Kd.R_drew)); exact HO_5.out) hb); have n1_ := Aside0.mk (Kd.R_below (by (with_reducible repeat (first | apply Kd.R_alloc | apply Kd.R_drewN | apply Kd.R_drew)); exact HO_11.out) hb); have n2_ := Aside0.mk (below_step (by repeat (first | (with_reducible first | exact HB.out | apply below_alloc | apply pw_below_drewN | apply below_drew1) | exact HB.out)) hb); clear HO_5; clear HO_11; clear HB; have HO_5 := n0_; have HO_11 := n1_; have HB := n2_; clear n0_ n1_ n2_; (try clear hb); (try clear hb2); (try clear hk); (try clear hi)))
                                        go_ret
                                        exact ⟨by first | rfl | (simp [errW_none, errW_some] <;> rfl) | (simp [*, errW_none, errW_some] <;> rfl), by repeat (first | (with_reducible first | exact HB.out | apply below_alloc | apply pw_below_drewN | apply below_drew1) | exact HB.out)⟩
                        · rw [if_neg c119] at H
                          exact absurd H (by simp)
                      · rw [if_neg c116] at H
                        exact absurd H (by simp)
                    · rw [if_neg c115] at H
                      exact absurd H (by simp)
                  · rw [if_neg c114] at H
                    exact absurd H (by simp)
                · rw [if_neg c113] at H
                  exact absurd H (by simp)
end Go.Proofs.Ytlpopkknamigoaa.Q
