-- Written by this repo's pp.py (the kit's print program with additions).
import Derived.Test.YtlpopkknamigoaaQ0
import Derived.Test.YtlpopkknamigoaaQ5
import Derived.Test.YtlpopkknamigoaaQ7
import Derived.Test.YtlpopkknamigoaaQ9
import Derived.Test.YtlpopkknamigoaaQ10d
namespace Go.Proofs.Ytlpopkknamigoaa.Q
open Go.RowKit Go.Proofs.YtlpopkknamigoaaW.PrintWords Go.Proofs.YtlpopkknamigoaaW.PrintLast Go.Proofs.YtlpopkknamigoaaW.PrintMore
attribute [local go_sem] max2_int min2_int max_two min_two max_three min_three max_four min_four   -- for this text's walks alone
set_option linter.unusedVariables false
set_option linter.unusedSimpArgs false

set_option maxHeartbeats 8000000 in
set_option maxRecDepth 100000 in
theorem scarflaw03_RankBy.calls (k : Nat) (A0 : Option Addr) (c0 : Nat) (m0 : List Int) (a1 : Int) (r : Bool) (w : World) (hr0 : Kd.C (Kd.int .i64) w A0 m0.length m0) (hc0 : m0.length ≤ c0) (h : scarflaw03_RankBy.f k m0 a1 = some r) :
 Calls Try.prog 5 #[.slice A0 m0.length c0, .int .i64 a1] w fun e w' => e = .returned (.bool r) ∧ Below w.heap.size w w' := by
 have hu33 := Try.underlying33
 have HR0 := Aside0.mk hr0
 have HC0 := Aside0.mk hc0
 clear hr0 hc0
 have HB := Aside0.mk (Below.refl w.heap.size w)
 have H : (if (m0.length : Int) > 300 then (if 300 ≤ (m0.length : Int) then (scarflaw03_RankBy.l2 k (m0.take 300) (wrap64 (1 + (wrap64 (Int.tmod (IntKind.u64.wrap (a1)) 7)))) ([] : List (S33)) 0) else (none)) else (scarflaw03_RankBy.l2 k m0 (wrap64 (1 + (wrap64 (Int.tmod (IntKind.u64.wrap (a1)) 7)))) ([] : List (S33)) 0)) = some r := h
 clear h
 have HS := Aside0.mk H
 clear H
 go_enter Try.func5, Try.ntmps5
 go_upto_if 17 with (fail)
 go_cut [0] from 15 (fun v0 wc => ∃ (l0 : List Int), v0 = .slice A0 l0.length c0 ∧ w = wc ∧ Aside0 (Kd.C (Kd.int .i64) w A0 l0.length l0) ∧ Aside0 (l0.length ≤ c0) ∧ Aside0 ((scarflaw03_RankBy.l2 k l0 (wrap64 (1 + (wrap64 (Int.tmod (IntKind.u64.wrap (a1)) 7)))) ([] : List (S33)) 0) = some r))
 case first =>
  have H := HS.out
  clear HS
  by_cases c3 : (m0.length : Int) > 300
  · rw [if_pos c3] at H
    have c3b0 : decide (300 < (m0.length : Int)) = true := decide_eq_true c3
    have c3b1 : decide (300 < m0.length) = true := decide_eq_true (by omega)
    clear c3
    by_cases c4 : 300 ≤ (m0.length : Int)
    rotate_left
    · rw [if_neg c4] at H
      exact absurd H (by simp)
    rw [if_pos c4] at H
    have c4b0 := eq_true c4
    have c4b1 : decide (300 ≤ (m0.length : Int)) = true := decide_eq_true c4
    clear c4
    have H' := Aside0.mk H
    clear H
    obtain ⟨i05, hi05, _, hsz5, _⟩ := info_parts info3
    obtain ⟨hcut5, hA5, hC5⟩ := print_take_of (P := Try.prog) (Value.int .i64) 0 22 3 .i64 Try.underlying22 hi05 hsz5 A0 c0 m0 300 (by omega) (of_decide_eq_true (by first | (with_reducible assumption) | assumption)) HC0.out
    have HR206 := Aside0.mk (Kd.C_of_reads (h1 := fun _ => rfl) (hA5 _ (Kd.reads_of_C HR0.out)))
    have HC206 := Aside0.mk hC5
    clear hA5 hC5 hi05 hsz5
    (first | rw [c3b0] | (simp only [i64_w, i32_w]; rw [c3b0]) | skip)
    go_wp2
    go_meet
    case rel => exact ⟨m0.take 300, (by first | rfl | (rw [List.length_take]; rfl) | simp), rfl, HR206, HC206, H'⟩
  · rw [if_neg c3] at H
    have c3b0 : decide (300 < (m0.length : Int)) = false := decide_eq_false c3
    have c3b1 : decide (300 < m0.length) = false := decide_eq_false (by omega)
    clear c3
    have H' := Aside0.mk H
    clear H
    (first | rw [c3b0] | (simp only [i64_w, i32_w]; rw [c3b0]) | skip)
    go_wp2
    go_meet
    case rel => exact ⟨_, rfl, rfl, HR0, HC0, H'⟩
 clear HS HR0 HC0
 obtain ⟨l0, rfl, rfl, HR0, HC0, H'⟩ := hcut
 go_wp2
 go_loopg [5, 6] k (fun kq v5 v6 w' => ∃ (x5_1 : List (S33)) (x6_1 : Int), v6 = .int .i64 x6_1 ∧ Aside0 (scarflaw03_RankBy.l2 kq l0 (wrap64 (1 + (wrap64 (Int.tmod (IntKind.u64.wrap (a1)) 7)))) x5_1 x6_1 = some r) ∧ Aside0 (kq ≤ k) ∧ Aside0 (Kd.R k33 33 w' w.heap.size (fun _ => True) v5 x5_1) ∧ Aside0 (Below w.heap.size w w'))
 case atStart => exact ⟨(([] : List (S33))), (0), (by first | rfl | (simp; done) | (simp [*]; done)), H', ⟨Nat.le_refl _⟩, ⟨by first | exact Kd.R_nil _ _ _ _ _ | exact Kd.N_nil _ _ _ _ _ | exact Kd.V_nil _ _ _ _ _ | exact Kd.Q_nil _ _ _ _ _ | exact Kd.S_nil _ _ _ _ _⟩, ⟨by repeat (first | (with_reducible first | exact HB.out | apply below_alloc | apply pw_below_drewN | apply below_drew1) | exact HB.out)⟩⟩
 case round =>
  as_aux_lemma =>
   clear H'
   try clear c1
   try clear c2
   try clear p2
   try clear c3
   try clear c3b0
   try clear c3b1
   try clear c4
   try clear c5
   try clear c6
   try clear p6
   try clear c8
   try clear c9
   try clear c10
   try clear c11
   try clear c12
   try clear c13
   try clear c14
   try clear c15
   try clear c16
   try clear c27
   try clear c28
   try clear c31
   try clear c31b0
   try clear c47
   try clear c48
   try clear c49
   try clear c50
   try clear c56
   try clear c57
   try clear c58
   try clear c59
   try clear c60
   try clear c61
   try clear c62
   try clear c63
   try clear c64
   try clear p64
   try clear c65
   try clear c66
   try clear c88
   try clear c88b0
   try clear c89
   try clear c90
   try clear c91
   try clear c93
   try clear c94
   try clear c96
   try clear c96b0
   try clear c96b1
   try clear c97
   try clear c97b0
   try clear c98
   try clear c99
   try clear c100
   try clear c102
   try clear c103
   try clear c105
   try clear c105b0
   try clear c106
   try clear c107
   try clear c108
   try clear c110
   try clear c111
   try clear c113
   try clear c116
   try clear c116b0
   try clear c116b1
   try clear c117
   try clear c118
   try clear c119
   try clear c121
   try clear c122
   try clear c124
   try clear c127
   try clear c128
   try clear c129
   try clear c131
   try clear c132
   try clear c134
   try clear c137
   try clear c137b0
   try clear c138
   try clear c139
   try clear c140
   try clear c142
   try clear c143
   try clear c145
   try clear c148
   try clear c148b0
   try clear c148b1
   try clear c149
   try clear c150
   try clear c151
   try clear c153
   try clear c154
   try clear c156
   try clear c159
   try clear c160
   try clear c161
   try clear c163
   try clear c164
   try clear c166
   try clear c169
   try clear hcz101_0
   try clear hcz101_1
   try clear hcz104_0
   try clear hcz104_1
   try clear hcz109_0
   try clear hcz109_1
   try clear hcz112_0
   try clear hcz112_1
   try clear hcz114_0
   try clear hcz114_1
   try clear hcz115_0
   try clear hcz115_1
   try clear hcz120_0
   try clear hcz120_1
   try clear hcz123_0
   try clear hcz123_1
   try clear hcz125_0
   try clear hcz125_1
   try clear hcz126_0
   try clear hcz126_1
   try clear hcz130_0
   try clear hcz130_1
   try clear hcz133_0
   try clear hcz133_1
   try clear hcz135_0
   try clear hcz135_1
   try clear hcz136_0
   try clear hcz136_1
   try clear hcz141_0
   try clear hcz141_1
   try clear hcz144_0
   try clear hcz144_1
   try clear hcz146_0
   try clear hcz146_1
   try clear hcz147_0
   try clear hcz147_1
   try clear hcz152_0
   try clear hcz152_1
   try clear hcz155_0
   try clear hcz155_1
   try clear hcz157_0
   try clear hcz157_1
   try clear hcz158_0
   try clear hcz158_1
   try clear hcz162_0
   try clear hcz162_1
   try clear hcz165_0
   try clear hcz165_1
   try clear hcz167_0
   try clear hcz167_1
   try clear hcz168_0
   try clear hcz168_1
   try clear hcz92_0
   try clear hcz92_1
   try clear hcz95_0
   try clear hcz95_1
   try clear hfz101_0
   try clear hfz101_1
   try clear hfz104_0
   try clear hfz104_1
   try clear hfz109_0
   try clear hfz109_1
   try clear hfz112_0
   try clear hfz112_1
   try clear hfz114_0
   try clear hfz114_1
   try clear hfz115_0
   try clear hfz115_1
   try clear hfz120_0
   try clear hfz120_1
   try clear hfz123_0
   try clear hfz123_1
   try clear hfz125_0
   try clear hfz125_1
   try clear hfz126_0
   try clear hfz126_1
   try clear hfz130_0
   try clear hfz130_1
   try clear hfz133_0
   try clear hfz133_1
   try clear hfz135_0
   try clear hfz135_1
   try clear hfz136_0
   try clear hfz136_1
   try clear hfz141_0
   try clear hfz141_1
   try clear hfz144_0
   try clear hfz144_1
   try clear hfz146_0
   try clear hfz146_1
   try clear hfz147_0
   try clear hfz147_1
   try clear hfz152_0
   try clear hfz152_1
   try clear hfz155_0
   try clear hfz155_1
   try clear hfz157_0
   try clear hfz157_1
   try clear hfz158_0
   try clear hfz158_1
   try clear hfz162_0
   try clear hfz162_1
   try clear hfz165_0
   try clear hfz165_1
   try clear hfz167_0
   try clear hfz167_1
   try clear hfz168_0
   try clear hfz168_1
   try clear hfz92_0
   try clear hfz92_1
   try clear hfz95_0
   try clear hfz95_1
   try clear p2
   obtain ⟨x5_1, x6_1, rfl, HA, HK1, HO_5, HB⟩ := hrel
   cases gk with
   | zero => exact absurd HA.out (by simp [scarflaw03_RankBy.l2])
   | succ k1 =>
    have H := HA.out
    clear HA
    simp only [scarflaw03_RankBy.l2] at H
    by_cases c171 : x6_1 < (l0.length : Int)
    ·rw [if_pos c171] at H
     have c171b0 : decide (x6_1 < (l0.length : Int)) = true := decide_eq_true c171
     clear c171
     by_cases c172 : 0 ≤ x6_1
     rotate_left
     ·rw [if_neg c172] at H
      exact absurd H (by simp)
     rw [if_pos c172] at H
     have c172b0 : decide (0 ≤ x6_1) = true := decide_eq_true c172
     clear c172
     by_cases c173 : (IntKind.u64.wrap ((wrap64 (1 + (wrap64 (Int.tmod (IntKind.u64.wrap (a1)) 7)))))) = 0
     ·rw [if_pos c173] at H
      exact absurd H (by simp)
     rw [if_neg c173] at H
     have c173b0 : ((IntKind.u64.wrap ((wrap64 (1 + (wrap64 (Int.tmod (IntKind.u64.wrap (a1)) 7)))))) == 0) = false := beq_eq_false_iff_ne.mpr c173
     have c173b1 : ((IntKind.u64.wrap ((wrap64 (1 + (wrap64 (Int.tmod (IntKind.u64.wrap (a1)) 7)))))) != 0) = true := bne_iff_ne.mpr c173
     by_cases c174 : x5_1.length < 8796093022208
     rotate_left
     ·rw [if_neg c174] at H
      exact absurd H (by simp)
     rw [if_pos c174] at H
     have LMc174 := Aside0.mk c174
     clear c174
     obtain ⟨y242, hy242⟩ : ∃ y_ : List (S33), y_ = (x5_1 ++ [(⟨wrap64 (Int.tmod (IntKind.u64.wrap (rd l0 x6_1)) (IntKind.u64.wrap ((wrap64 (1 + (wrap64 (Int.tmod (IntKind.u64.wrap (a1)) 7))))))), x6_1⟩ : S33)]) := ⟨_, rfl⟩
     replace H : (scarflaw03_RankBy.l2 k1 l0 (wrap64 (1 + (wrap64 (Int.tmod (IntKind.u64.wrap (a1)) 7)))) y242 (wrap64 (x6_1 + 1))) = some r := by first | (rw [hy242]; with_reducible exact H) | (have H2_ := (Option.bind_some _ _).symm.trans H; rw [hy242]; with_reducible exact H2_) | (have H2_ := (Option.bind_some _ _).symm.trans H; with_reducible exact H2_) | with_reducible exact H | (rw [hy242]; exact H) | exact H
     have Ny242 := Aside0.mk hy242
     clear hy242
     have H' := Aside0.mk H
     clear H
     have p241 : 0 ≤ (x6_1 : Int) := of_decide_eq_true (by first | (with_reducible assumption) | assumption)
     have q241 : x6_1 < (l0.length : Int) := of_decide_eq_true (by first | (with_reducible assumption) | assumption)
     obtain ⟨ad241, e241, hx241_0⟩ := Kd.at_int HR0.out x6_1 p241 q241
     cases e241
     replace hx241_0 := (HB.out.cell (World.block_lt_of_cell? w _ hx241_0)).trans hx241_0
     replace p241 := eq_true p241
     replace q241 := eq_true q241
     go_wp2_with (first | ((with_reducible refine gate_builtin (b := .append) (xs := #[.tmp 31, .tmp 43]) rfl ?_); (try (refine gate_guard (by rfl) ?_; dsimp only)); at_builtin; refine Kd.R_append k33 (w0 := w) w.heap.size rfl (.tmp 31) (.tmp 43) 31 33 (.agg #[(.int .i64 0), (.int .i64 0)]) 16 rfl Try.underlying31 info33 rfl (by decide) (by omega) u5 x5_1 (⟨wrap64 (Int.tmod (IntKind.u64.wrap (rd l0 x6_1)) (IntKind.u64.wrap ((wrap64 (1 + (wrap64 (Int.tmod (IntKind.u64.wrap (a1)) 7))))))), x6_1⟩ : S33) [.int .i64 (wrap64 (Int.tmod (IntKind.u64.wrap (rd l0 x6_1)) (IntKind.u64.wrap ((wrap64 (1 + (wrap64 (Int.tmod (IntKind.u64.wrap (a1)) 7)))))))), .int .i64 x6_1] (fun _ => True) (fun _ => False) rfl rfl ?aP (fun _ hk => hk.elim) ?aF ?aO ?aB ?aS ?aL ?_; (case aP => exact k33_mkM _ _ _ (⟨wrap64 (Int.tmod (IntKind.u64.wrap (rd l0 x6_1)) (IntKind.u64.wrap ((wrap64 (1 + (wrap64 (Int.tmod (IntKind.u64.wrap (a1)) 7))))))), x6_1⟩ : S33)); (case aB => exact (by repeat (first | (with_reducible first | exact HB.out | apply below_alloc | apply pw_below_drewN | apply below_drew1) | exact HB.out))); (case aF => exact (fun _ _ => trivial)); (case aO => exact (by (with_reducible repeat (first | apply Kd.R_alloc | apply Kd.R_drewN | apply Kd.R_drew)); exact HO_5.out)); (case aS => exact (below_size (by repeat (first | (with_reducible first | exact HB.out | apply below_alloc | apply pw_below_drewN | apply below_drew1) | exact HB.out)))); (case aL => have := LMc174.out; omega); intro v243 w175 ho hb hg hat; rw [← Ny242.out] at ho; have n0_ := Aside0.mk (hb); have n1_ := Aside0.mk (ho); clear HB; clear HO_5; have HB := n0_; have HO244 := n1_; clear n0_ n1_; clear ho hb hg hat))
     go_roundg k1
     case measure => have := HK1.out; omega
     case rel => exact ⟨(y242), (wrap64 (x6_1 + 1)), (by first | rfl | (simp; done) | (simp [*]; done)), H', ⟨by have := HK1.out; omega⟩, ⟨by (with_reducible repeat (first | apply Kd.R_alloc | apply Kd.R_drewN | apply Kd.R_drew)); exact HO244.out⟩, ⟨by repeat (first | (with_reducible first | exact HB.out | apply below_alloc | apply pw_below_drewN | apply below_drew1) | exact HB.out)⟩⟩
    rw [if_neg c171] at H
    have c171b0 : decide (x6_1 < (l0.length : Int)) = false := decide_eq_false c171
    clear c171
    replace H := Option.bind_eq_some_iff.mp H
    obtain ⟨t245, A1760, H⟩ := H
    replace H : ((scarflaw03_pair___RankBy_2.f k1 x5_1).bind fun t248 => ((scarflaw03_known.f k1).bind fun t251 => (if t251 = true then (if (t245.length : Int) = (x5_1.length : Int) then (scarflaw03_RankBy.j6 k1 x5_1 t245 t248 ((t248.length : Int) != (x5_1.length : Int))) else (scarflaw03_RankBy.j6 k1 x5_1 t245 t248 true)) else (scarflaw03_RankBy.j6 k1 x5_1 t245 t248 true)))) = some r := H
    have A176 := Aside0.mk A1760
    clear A1760
    replace H := Option.bind_eq_some_iff.mp H
    obtain ⟨t248, A1770, H⟩ := H
    replace H : ((scarflaw03_known.f k1).bind fun t251 => (if t251 = true then (if (t245.length : Int) = (x5_1.length : Int) then (scarflaw03_RankBy.j6 k1 x5_1 t245 t248 ((t248.length : Int) != (x5_1.length : Int))) else (scarflaw03_RankBy.j6 k1 x5_1 t245 t248 true)) else (scarflaw03_RankBy.j6 k1 x5_1 t245 t248 true))) = some r := H
    have A177 := Aside0.mk A1770
    clear A1770
    have HC178 := Aside0.mk H
    clear H
    obtain ⟨Ao179, co179, eo179⟩ := Kd.R_slice HO_5.out
    subst eo179
    go_upto_region 11 with (first | ((with_reducible refine gate_callee (f := 15) rfl ?_); refine goesL_ (some 46) rfl rfl Try.func15 (by kernel_rfl) rfl #[.slice Ao179 x5_1.length co179, .func (.func 16) #[] #[]] rfl (by (try simp only [List.map_toArray, List.map_cons, List.map_nil]); first | done | rfl | (simp only [List.length_drop, List.length_take]; rfl)) ?_; (with_reducible refine (scarflaw03_pair___RankBy_1.calls k1 _ _ x5_1  t245 _ ?side1 ?side2 A176.out).mono ?_); (case side1 => repeat (first | exact (Kd.R_reads' HO_5.out).2.2 | (with_reducible refine Kd.C_alloc ?_ _) | (with_reducible refine Kd.C_drewN ?_ _) | (with_reducible refine Kd.C_drew ?_))); (case side2 => exact (Kd.R_reads' HO_5.out).2.1); rintro e w180 ⟨v246, rfl, ho0, hb⟩; refine ⟨_, rfl, ?_⟩; have n0_ := Aside0.mk (Kd.R_below (by (with_reducible repeat (first | apply Kd.R_alloc | apply Kd.R_drewN | apply Kd.R_drew)); exact HO_5.out) hb); have n1_ := Aside0.mk (Kd.R_lower ho0 (below_size (by repeat (first | (with_reducible first | exact HB.out | apply below_alloc | apply pw_below_drewN | apply below_drew1) | exact HB.out)))); have n2_ := Aside0.mk (below_step (by repeat (first | (with_reducible first | exact HB.out | apply below_alloc | apply pw_below_drewN | apply below_drew1) | exact HB.out)) hb); clear HO_5; clear HB; have HO_5 := n0_; have HO247 := n1_; have HB := n2_; clear n0_ n1_ n2_; (try clear hb); (try clear hb2); (try clear hk); (try clear hi); (try clear ho0)) | ((with_reducible refine gate_callee (f := 15) rfl ?_); refine goesL_ (some 48) rfl rfl Try.func15 (by kernel_rfl) rfl #[.slice Ao179 x5_1.length co179, .func (.func 17) #[] #[]] rfl (by (try simp only [List.map_toArray, List.map_cons, List.map_nil]); first | done | rfl | (simp only [List.length_drop, List.length_take]; rfl)) ?_; (with_reducible refine (scarflaw03_pair___RankBy_2.calls k1 _ _ x5_1  t248 _ ?side1 ?side2 A177.out).mono ?_); (case side1 => repeat (first | exact (Kd.R_reads' HO_5.out).2.2 | (with_reducible refine Kd.C_alloc ?_ _) | (with_reducible refine Kd.C_drewN ?_ _) | (with_reducible refine Kd.C_drew ?_))); (case side2 => exact (Kd.R_reads' HO_5.out).2.1); rintro e w181 ⟨v249, rfl, ho0, hb⟩; refine ⟨_, rfl, ?_⟩; have n0_ := Aside0.mk (Kd.R_below (by (with_reducible repeat (first | apply Kd.R_alloc | apply Kd.R_drewN | apply Kd.R_drew)); exact HO_5.out) hb); have n1_ := Aside0.mk (Kd.R_elder' (by (with_reducible repeat (first | apply Kd.R_alloc | apply Kd.R_drewN | apply Kd.R_drew)); exact HO247.out) (Kd.R_base ho0) hb); have n2_ := Aside0.mk (Kd.R_lower (Kd.R_new' ho0 (Kd.R_lt (by (with_reducible repeat (first | apply Kd.R_alloc | apply Kd.R_drewN | apply Kd.R_drew)); exact HO247.out))) (below_size (by repeat (first | (with_reducible first | exact HB.out | apply below_alloc | apply pw_below_drewN | apply below_drew1) | exact HB.out)))); have n3_ := Aside0.mk (below_step (by repeat (first | (with_reducible first | exact HB.out | apply below_alloc | apply pw_below_drewN | apply below_drew1) | exact HB.out)) hb); clear HO_5; clear HO247; clear HB; have HO_5 := n0_; have HO247 := n1_; have HO250 := n2_; have HB := n3_; clear n0_ n1_ n2_ n3_; (try clear hb); (try clear hb2); (try clear hk); (try clear hi); (try clear ho0)))
    (try simp only [Act.put, List.setIfInBounds_toArray, List.set_cons_zero, List.set_cons_succ])
    go_cut [64] (fun v64 wc => ∃ (kq : Nat) (x64_177 : Bool), v64 = .bool x64_177 ∧ Aside0 (scarflaw03_RankBy.j6 kq x5_1 t245 t248 x64_177 = some r) ∧ Aside0 (kq ≤ k1) ∧ Aside0 (Kd.R k33 33 wc w.heap.size (fun _ => True) (.slice Ao179 x5_1.length co179) x5_1) ∧ Aside0 (Kd.R (Kd.int .i64) 3 wc w.heap.size (fun k_ => some k_ ≠ (v249 : Value).ownBlock) v246 t245) ∧ Aside0 (Kd.R (Kd.int .i64) 3 wc w.heap.size (fun k_ => some k_ ≠ (v246 : Value).ownBlock) v249 t248) ∧ Aside0 (Below w.heap.size w wc))
    case first =>
     have H := HC178.out
     clear HC178
     replace H := Option.bind_eq_some_iff.mp H
     obtain ⟨t251, A1820, H⟩ := H
     replace H : (if t251 = true then (if (t245.length : Int) = (x5_1.length : Int) then (scarflaw03_RankBy.j6 k1 x5_1 t245 t248 ((t248.length : Int) != (x5_1.length : Int))) else (scarflaw03_RankBy.j6 k1 x5_1 t245 t248 true)) else (scarflaw03_RankBy.j6 k1 x5_1 t245 t248 true)) = some r := H
     have A182 := Aside0.mk A1820
     clear A1820
     by_cases c183 : t251 = true
     rotate_left
     ·replace c183 := Bool.eq_false_iff.mpr c183
      subst c183
      have H1 : (scarflaw03_RankBy.j6 k1 x5_1 t245 t248 true) = some r := by rw [if_neg (show ¬ (false = true) by decide)] at H; exact H
      clear H
      have H := H1
      clear H1
      have H' := Aside0.mk H
      clear H
      go_wp2_with (first | ((with_reducible refine gate_callee (f := 9) rfl ?_); refine goesL_ (some 49) rfl rfl Try.func9 (by kernel_rfl) rfl #[] rfl (by (try simp only [List.map_toArray, List.map_cons, List.map_nil]); first | done | rfl | (simp only [List.length_drop, List.length_take]; rfl)) ?_; (with_reducible refine (scarflaw03_known.calls k1  false _ A182.out).mono ?_); rintro e w190 ⟨rfl, hb⟩; refine ⟨_, rfl, ?_⟩; have n0_ := Aside0.mk (Kd.R_below (by (with_reducible repeat (first | apply Kd.R_alloc | apply Kd.R_drewN | apply Kd.R_drew)); exact HO_5.out) hb); have n1_ := Aside0.mk (Kd.R_below (by (with_reducible repeat (first | apply Kd.R_alloc | apply Kd.R_drewN | apply Kd.R_drew)); exact HO247.out) hb); have n2_ := Aside0.mk (Kd.R_below (by (with_reducible repeat (first | apply Kd.R_alloc | apply Kd.R_drewN | apply Kd.R_drew)); exact HO250.out) hb); have n3_ := Aside0.mk (below_step (by repeat (first | (with_reducible first | exact HB.out | apply below_alloc | apply pw_below_drewN | apply below_drew1) | exact HB.out)) hb); clear HO_5; clear HO247; clear HO250; clear HB; have HO_5 := n0_; have HO247 := n1_; have HO250 := n2_; have HB := n3_; clear n0_ n1_ n2_ n3_; (try clear hb); (try clear hb2); (try clear hk); (try clear hi)))
      go_meet
      case rel => exact ⟨_, (true), (by first | rfl | (simp; done) | (simp [*]; done)), H', ⟨by have := HK1.out; first | omega | exact Nat.le_refl _⟩, ⟨by (with_reducible repeat (first | apply Kd.R_alloc | apply Kd.R_drewN | apply Kd.R_drew)); exact HO_5.out⟩, ⟨by (with_reducible repeat (first | apply Kd.R_alloc | apply Kd.R_drewN | apply Kd.R_drew)); exact Kd.R_mono HO247.out (fun _ hk => hk.2)⟩, ⟨by (with_reducible repeat (first | apply Kd.R_alloc | apply Kd.R_drewN | apply Kd.R_drew)); exact Kd.R_mono HO250.out (fun _ hk => hk.2)⟩, ⟨by repeat (first | (with_reducible first | exact HB.out | apply below_alloc | apply pw_below_drewN | apply below_drew1) | exact HB.out)⟩⟩
     subst c183
     have H1 : (if (t245.length : Int) = (x5_1.length : Int) then (scarflaw03_RankBy.j6 k1 x5_1 t245 t248 ((t248.length : Int) != (x5_1.length : Int))) else (scarflaw03_RankBy.j6 k1 x5_1 t245 t248 true)) = some r := by rw [if_pos rfl] at H; exact H
     clear H
     have H := H1
     clear H1
     by_cases c184 : (t245.length : Int) = (x5_1.length : Int)
     rotate_left
     ·rw [if_neg c184] at H
      have c184b0 : ((t245.length : Int) == (x5_1.length : Int)) = false := beq_eq_false_iff_ne.mpr c184
      have c184b1 : ((t245.length : Int) != (x5_1.length : Int)) = true := bne_iff_ne.mpr c184
      have c184b2 : (t245.length == x5_1.length) = false := by first | simpa using c184 | (simp at c184 ⊢; omega)
      (first | rw [c184b0] | (simp only [i64_w, i32_w]; rw [c184b0]) | skip)
      have H' := Aside0.mk H
      clear H
      go_wp2_with (first | ((with_reducible refine gate_callee (f := 9) rfl ?_); refine goesL_ (some 49) rfl rfl Try.func9 (by kernel_rfl) rfl #[] rfl (by (try simp only [List.map_toArray, List.map_cons, List.map_nil]); first | done | rfl | (simp only [List.length_drop, List.length_take]; rfl)) ?_; (with_reducible refine (scarflaw03_known.calls k1  true _ A182.out).mono ?_); rintro e w188 ⟨rfl, hb⟩; refine ⟨_, rfl, ?_⟩; have n0_ := Aside0.mk (Kd.R_below (by (with_reducible repeat (first | apply Kd.R_alloc | apply Kd.R_drewN | apply Kd.R_drew)); exact HO_5.out) hb); have n1_ := Aside0.mk (Kd.R_below (by (with_reducible repeat (first | apply Kd.R_alloc | apply Kd.R_drewN | apply Kd.R_drew)); exact HO247.out) hb); have n2_ := Aside0.mk (Kd.R_below (by (with_reducible repeat (first | apply Kd.R_alloc | apply Kd.R_drewN | apply Kd.R_drew)); exact HO250.out) hb); have n3_ := Aside0.mk (below_step (by repeat (first | (with_reducible first | exact HB.out | apply below_alloc | apply pw_below_drewN | apply below_drew1) | exact HB.out)) hb); clear HO_5; clear HO247; clear HO250; clear HB; have HO_5 := n0_; have HO247 := n1_; have HO250 := n2_; have HB := n3_; clear n0_ n1_ n2_ n3_; (try clear hb); (try clear hb2); (try clear hk); (try clear hi); obtain ⟨Ao189, co189, eo189⟩ := Kd.R_slice HO247.out; subst eo189))
      go_meet
      case rel => exact ⟨_, (true), (by first | rfl | (simp; done) | (simp [*]; done)), H', ⟨by have := HK1.out; first | omega | exact Nat.le_refl _⟩, ⟨by (with_reducible repeat (first | apply Kd.R_alloc | apply Kd.R_drewN | apply Kd.R_drew)); exact HO_5.out⟩, ⟨by (with_reducible repeat (first | apply Kd.R_alloc | apply Kd.R_drewN | apply Kd.R_drew)); exact Kd.R_mono HO247.out (fun _ hk => hk.2)⟩, ⟨by (with_reducible repeat (first | apply Kd.R_alloc | apply Kd.R_drewN | apply Kd.R_drew)); exact Kd.R_mono HO250.out (fun _ hk => hk.2)⟩, ⟨by repeat (first | (with_reducible first | exact HB.out | apply below_alloc | apply pw_below_drewN | apply below_drew1) | exact HB.out)⟩⟩
     rw [if_pos c184] at H
     have c184b0 : ((t245.length : Int) == (x5_1.length : Int)) = true := beq_iff_eq.mpr c184
     have c184b1 : ((t245.length : Int) != (x5_1.length : Int)) = false := bne_eq_false_iff_eq.mpr c184
     have c184b2 : (t245.length == x5_1.length) = true := by first | simpa using c184 | (simp at c184 ⊢; omega)
     clear c184
     (first | rw [c184b0] | (simp only [i64_w, i32_w]; rw [c184b0]) | skip)
     have H' := Aside0.mk H
     clear H
     go_wp2_with (first | ((with_reducible refine gate_callee (f := 9) rfl ?_); refine goesL_ (some 49) rfl rfl Try.func9 (by kernel_rfl) rfl #[] rfl (by (try simp only [List.map_toArray, List.map_cons, List.map_nil]); first | done | rfl | (simp only [List.length_drop, List.length_take]; rfl)) ?_; (with_reducible refine (scarflaw03_known.calls k1  true _ A182.out).mono ?_); rintro e w185 ⟨rfl, hb⟩; refine ⟨_, rfl, ?_⟩; have n0_ := Aside0.mk (Kd.R_below (by (with_reducible repeat (first | apply Kd.R_alloc | apply Kd.R_drewN | apply Kd.R_drew)); exact HO_5.out) hb); have n1_ := Aside0.mk (Kd.R_below (by (with_reducible repeat (first | apply Kd.R_alloc | apply Kd.R_drewN | apply Kd.R_drew)); exact HO247.out) hb); have n2_ := Aside0.mk (Kd.R_below (by (with_reducible repeat (first | apply Kd.R_alloc | apply Kd.R_drewN | apply Kd.R_drew)); exact HO250.out) hb); have n3_ := Aside0.mk (below_step (by repeat (first | (with_reducible first | exact HB.out | apply below_alloc | apply pw_below_drewN | apply below_drew1) | exact HB.out)) hb); clear HO_5; clear HO247; clear HO250; clear HB; have HO_5 := n0_; have HO247 := n1_; have HO250 := n2_; have HB := n3_; clear n0_ n1_ n2_ n3_; (try clear hb); (try clear hb2); (try clear hk); (try clear hi); obtain ⟨Ao186, co186, eo186⟩ := Kd.R_slice HO247.out; subst eo186; obtain ⟨Ao187, co187, eo187⟩ := Kd.R_slice HO250.out; subst eo187))
     go_meet
     case rel => exact ⟨_, (((t248.length : Int) != (x5_1.length : Int))), (by first | rfl | (simp; done) | (simp [*]; done)), H', ⟨by have := HK1.out; first | omega | exact Nat.le_refl _⟩, ⟨by (with_reducible repeat (first | apply Kd.R_alloc | apply Kd.R_drewN | apply Kd.R_drew)); exact HO_5.out⟩, ⟨by (with_reducible repeat (first | apply Kd.R_alloc | apply Kd.R_drewN | apply Kd.R_drew)); exact Kd.R_mono HO247.out (fun _ hk => hk.2)⟩, ⟨by (with_reducible repeat (first | apply Kd.R_alloc | apply Kd.R_drewN | apply Kd.R_drew)); exact Kd.R_mono HO250.out (fun _ hk => hk.2)⟩, ⟨by repeat (first | (with_reducible first | exact HB.out | apply below_alloc | apply pw_below_drewN | apply below_drew1) | exact HB.out)⟩⟩
    case rest =>
     as_aux_lemma =>
      clear HC178
      try clear c1
      try clear c2
      try clear p2
      try clear q2
      try clear hx2
      try clear c3
      try clear c3b0
      try clear c3b1
      try clear c4
      try clear c5
      try clear c6
      try clear p6
      try clear c8
      try clear c9
      try clear c10
      try clear c11
      try clear c12
      try clear c13
      try clear c14
      try clear c15
      try clear c16
      try clear c17
      try clear c18
      try clear p24
      try clear q24
      try clear hx24
      try clear c27
      try clear c28
      try clear c31
      try clear c31b0
      try clear c47
      try clear c48
      try clear c49
      try clear c50
      try clear c56
      try clear c57
      try clear c58
      try clear c59
      try clear c60
      try clear c61
      try clear c62
      try clear c63
      try clear c64
      try clear p64
      try clear c65
      try clear c66
      try clear c88
      try clear c88b0
      try clear c89
      try clear c90
      try clear c91
      try clear c93
      try clear c94
      try clear c96
      try clear c96b0
      try clear c96b1
      try clear c97
      try clear c97b0
      try clear c98
      try clear c99
      try clear c100
      try clear c102
      try clear c103
      try clear c105
      try clear c105b0
      try clear c106
      try clear c107
      try clear c108
      try clear c110
      try clear c111
      try clear c113
      try clear c116
      try clear c116b0
      try clear c116b1
      try clear c117
      try clear c118
      try clear c119
      try clear c121
      try clear c122
      try clear c124
      try clear c127
      try clear c128
      try clear c129
      try clear c131
      try clear c132
      try clear c134
      try clear c137
      try clear c137b0
      try clear c138
      try clear c139
      try clear c140
      try clear c142
      try clear c143
      try clear c145
      try clear c148
      try clear c148b0
      try clear c148b1
      try clear c149
      try clear c150
      try clear c151
      try clear c153
      try clear c154
      try clear c156
      try clear c159
      try clear c160
      try clear c161
      try clear c163
      try clear c164
      try clear c166
      try clear c169
      try clear c171
      try clear c171b0
      try clear c172
      try clear c172b0
      try clear c173
      try clear c173b0
      try clear c173b1
      try clear c174
      try clear c183
      try clear c184
      try clear c184b0
      try clear c184b1
      try clear c184b2
      try clear hcz101_0
      try clear hcz101_1
      try clear hcz104_0
      try clear hcz104_1
      try clear hcz109_0
      try clear hcz109_1
      try clear hcz112_0
      try clear hcz112_1
      try clear hcz114_0
      try clear hcz114_1
      try clear hcz115_0
      try clear hcz115_1
      try clear hcz120_0
      try clear hcz120_1
      try clear hcz123_0
      try clear hcz123_1
      try clear hcz125_0
      try clear hcz125_1
      try clear hcz126_0
      try clear hcz126_1
      try clear hcz130_0
      try clear hcz130_1
      try clear hcz133_0
      try clear hcz133_1
      try clear hcz135_0
      try clear hcz135_1
      try clear hcz136_0
      try clear hcz136_1
      try clear hcz141_0
      try clear hcz141_1
      try clear hcz144_0
      try clear hcz144_1
      try clear hcz146_0
      try clear hcz146_1
      try clear hcz147_0
      try clear hcz147_1
      try clear hcz152_0
      try clear hcz152_1
      try clear hcz155_0
      try clear hcz155_1
      try clear hcz157_0
      try clear hcz157_1
      try clear hcz158_0
      try clear hcz158_1
      try clear hcz162_0
      try clear hcz162_1
      try clear hcz165_0
      try clear hcz165_1
      try clear hcz167_0
      try clear hcz167_1
      try clear hcz168_0
      try clear hcz168_1
      try clear hcz92_0
      try clear hcz92_1
      try clear hcz95_0
      try clear hcz95_1
      try clear hfz101_0
      try clear hfz101_1
      try clear hfz104_0
      try clear hfz104_1
      try clear hfz109_0
      try clear hfz109_1
      try clear hfz112_0
      try clear hfz112_1
      try clear hfz114_0
      try clear hfz114_1
      try clear hfz115_0
      try clear hfz115_1
      try clear hfz120_0
      try clear hfz120_1
      try clear hfz123_0
      try clear hfz123_1
      try clear hfz125_0
      try clear hfz125_1
      try clear hfz126_0
      try clear hfz126_1
      try clear hfz130_0
      try clear hfz130_1
      try clear hfz133_0
      try clear hfz133_1
      try clear hfz135_0
      try clear hfz135_1
      try clear hfz136_0
      try clear hfz136_1
      try clear hfz141_0
      try clear hfz141_1
      try clear hfz144_0
      try clear hfz144_1
      try clear hfz146_0
      try clear hfz146_1
      try clear hfz147_0
      try clear hfz147_1
      try clear hfz152_0
      try clear hfz152_1
      try clear hfz155_0
      try clear hfz155_1
      try clear hfz157_0
      try clear hfz157_1
      try clear hfz158_0
      try clear hfz158_1
      try clear hfz162_0
      try clear hfz162_1
      try clear hfz165_0
      try clear hfz165_1
      try clear hfz167_0
      try clear hfz167_1
      try clear hfz168_0
      try clear hfz168_1
      try clear hfz92_0
      try clear hfz92_1
      try clear hfz95_0
      try clear hfz95_1
      try clear hx241_0
      try clear p2
      try clear p241
      try clear p6
      try clear p64
      try clear q241
      obtain ⟨kq, x64_177, rfl, HA, HJ177, HO_5, HO_7, HO_8, HB⟩ := hcut
      cases kq with
      | zero => exact absurd HA.out (by simp [scarflaw03_RankBy.j6])
      | succ kj177 =>
       have H := HA.out
       clear HA
       simp only [scarflaw03_RankBy.j6] at H
       by_cases c191 : x64_177 = true
       ·subst c191
        have H1 : (some false) = some r := by rw [if_pos rfl] at H; exact H
        clear H
        have H := H1
        clear H1
        obtain rfl := Option.some.inj H
        go_wp2
        go_ret
        exact ⟨by first | rfl | (simp [errW_none, errW_some] <;> rfl) | (simp [*, errW_none, errW_some] <;> rfl), by repeat (first | (with_reducible first | exact HB.out | apply below_alloc | apply pw_below_drewN | apply below_drew1) | exact HB.out)⟩
       replace c191 := Bool.eq_false_iff.mpr c191
       subst c191
       have H1 : (if 0 ≤ (x5_1.length : Int) then (if ((x5_1.length : Int) : Int).toNat ≤ 281474976710656 then (scarflaw03_RankBy.l3 kj177 x5_1 t245 t248 (List.replicate ((x5_1.length : Int) : Int).toNat false) 0) else (none)) else (none)) = some r := by rw [if_neg (show ¬ (false = true) by decide)] at H; exact H
       clear H
       have H := H1
       clear H1
       by_cases c192 : 0 ≤ (x5_1.length : Int)
       rotate_left
       ·rw [if_neg c192] at H
        exact absurd H (by simp)
       rw [if_pos c192] at H
       have c192b0 := eq_true c192
       have c192b1 : decide (0 ≤ (x5_1.length : Int)) = true := decide_eq_true c192
       clear c192
       by_cases c193 : ((x5_1.length : Int) : Int).toNat ≤ 281474976710656
       rotate_left
       ·rw [if_neg c193] at H
        exact absurd H (by simp)
       rw [if_pos c193] at H
       have c193b0 := eq_true c193
       have c193b1 : decide (((x5_1.length : Int) : Int).toNat ≤ 281474976710656) = true := decide_eq_true c193
       clear c193
       obtain ⟨y252, hy252⟩ : ∃ y_ : List Bool, y_ = (List.replicate ((x5_1.length : Int) : Int).toNat false) := ⟨_, rfl⟩
       replace H : (scarflaw03_RankBy.l3 kj177 x5_1 t245 t248 y252 0) = some r := by first | (rw [hy252]; with_reducible exact H) | (have H2_ := (Option.bind_some _ _).symm.trans H; rw [hy252]; with_reducible exact H2_) | (have H2_ := (Option.bind_some _ _).symm.trans H; with_reducible exact H2_) | with_reducible exact H | (rw [hy252]; exact H) | exact H
       have Ny252 := Aside0.mk hy252
       clear hy252
       have H' := Aside0.mk H
       clear H
       go_wp2_with (first | ((with_reducible refine gate_dst (N := 67) rfl ?_); (try (refine gate_guard (by rfl) ?_; dsimp only)); refine Kd.R_make Kd.bool _ 4 rfl (N := 67) rfl 36 _ _ rfl (x5_1.length : Int) rfl rfl Try.underlying36 (.bool false) 1 info4 rfl (by decide) (by omega) false (ok := fun _ => True) (okp := fun _ => True) rfl (fun _ hk => hk) trivial (of_decide_eq_true (by first | (with_reducible assumption) | assumption)) (Nat.le_trans (Nat.mul_le_mul_right _ (of_decide_eq_true (by first | (with_reducible assumption) | assumption) : (x5_1.length : Int).toNat ≤ 281474976710656)) (by omega)) (Below.refl _ _) (Nat.le_refl _) ?_; intro v253 w194 ho195 hb hg_ hnew_; clear hg_ hnew_; (first | rw [← Ny252.out] at ho195 | (simp only [Int.reduceToNat] at ho195; rw [← Ny252.out] at ho195)); have n0_ := Aside0.mk (Kd.R_below (by (with_reducible repeat (first | apply Kd.R_alloc | apply Kd.R_drewN | apply Kd.R_drew)); exact HO_5.out) hb); have n1_ := Aside0.mk (Kd.R_below (by (with_reducible repeat (first | apply Kd.R_alloc | apply Kd.R_drewN | apply Kd.R_drew)); exact HO_7.out) hb); have n2_ := Aside0.mk (Kd.R_below (by (with_reducible repeat (first | apply Kd.R_alloc | apply Kd.R_drewN | apply Kd.R_drew)); exact HO_8.out) hb); have n3_ := Aside0.mk (Kd.R_lower ho195 (below_size (by repeat (first | (with_reducible first | exact HB.out | apply below_alloc | apply pw_below_drewN | apply below_drew1) | exact HB.out)))); have n4_ := Aside0.mk (below_step (by repeat (first | (with_reducible first | exact HB.out | apply below_alloc | apply pw_below_drewN | apply below_drew1) | exact HB.out)) hb); clear HO_5; clear HO_7; clear HO_8; clear HB; have HO_5 := n0_; have HO_7 := n1_; have HO_8 := n2_; have HO254 := n3_; have HB := n4_; clear n0_ n1_ n2_ n3_ n4_; clear hb ho195))
       go_loopg [10] kj177 (fun kq v10 w' => ∃ (x9_3 : List Bool) (x10_3 : Int), v10 = .int .i64 x10_3 ∧ Aside0 (scarflaw03_RankBy.l3 kq x5_1 t245 t248 x9_3 x10_3 = some r) ∧ Aside0 (kq ≤ kj177) ∧ Aside0 (Kd.R k33 33 w' w.heap.size (fun _ => True) (.slice Ao179 x5_1.length co179) x5_1) ∧ Aside0 (Kd.R (Kd.int .i64) 3 w' w.heap.size (fun k_ => some k_ ≠ (v249 : Value).ownBlock) v246 t245) ∧ Aside0 (Kd.R (Kd.int .i64) 3 w' w.heap.size (fun k_ => some k_ ≠ (v246 : Value).ownBlock) v249 t248) ∧ Aside0 (Kd.R Kd.bool 4 w' w.heap.size (fun _ => True) v253 x9_3) ∧ Aside0 (Below w.heap.size w w'))
       case atStart => exact ⟨(y252), (0), (by first | rfl | (simp; done) | (simp [*]; done)), H', ⟨Nat.le_refl _⟩, ⟨by (with_reducible repeat (first | apply Kd.R_alloc | apply Kd.R_drewN | apply Kd.R_drew)); exact HO_5.out⟩, ⟨by (with_reducible repeat (first | apply Kd.R_alloc | apply Kd.R_drewN | apply Kd.R_drew)); exact HO_7.out⟩, ⟨by (with_reducible repeat (first | apply Kd.R_alloc | apply Kd.R_drewN | apply Kd.R_drew)); exact HO_8.out⟩, ⟨by (with_reducible repeat (first | apply Kd.R_alloc | apply Kd.R_drewN | apply Kd.R_drew)); exact HO254.out⟩, ⟨by repeat (first | (with_reducible first | exact HB.out | apply below_alloc | apply pw_below_drewN | apply below_drew1) | exact HB.out)⟩⟩
       case round =>
        as_aux_lemma =>
         clear H'
         try clear c1
         try clear c2
         try clear p2
         try clear q2
         try clear hx2
         try clear c3
         try clear c3b0
         try clear c3b1
         try clear c4
         try clear c5
         try clear c6
         try clear p6
         try clear c8
         try clear c9
         try clear c10
         try clear c11
         try clear c12
         try clear c13
         try clear c14
         try clear c15
         try clear c16
         try clear c17
         try clear c18
         try clear c19
         try clear p24
         try clear q24
         try clear hx24
         try clear c27
         try clear c28
         try clear c31
         try clear c31b0
         try clear c47
         try clear c48
         try clear c49
         try clear c50
         try clear c56
         try clear c57
         try clear c58
         try clear c59
         try clear c60
         try clear c61
         try clear c62
         try clear c63
         try clear c64
         try clear p64
         try clear c65
         try clear c66
         try clear c88
         try clear c88b0
         try clear c89
         try clear c90
         try clear c91
         try clear c93
         try clear c94
         try clear c96
         try clear c96b0
         try clear c96b1
         try clear c97
         try clear c97b0
         try clear c98
         try clear c99
         try clear c100
         try clear c102
         try clear c103
         try clear c105
         try clear c105b0
         try clear c106
         try clear c107
         try clear c108
         try clear c110
         try clear c111
         try clear c113
         try clear c116
         try clear c116b0
         try clear c116b1
         try clear c117
         try clear c118
         try clear c119
         try clear c121
         try clear c122
         try clear c124
         try clear c127
         try clear c128
         try clear c129
         try clear c131
         try clear c132
         try clear c134
         try clear c137
         try clear c137b0
         try clear c138
         try clear c139
         try clear c140
         try clear c142
         try clear c143
         try clear c145
         try clear c148
         try clear c148b0
         try clear c148b1
         try clear c149
         try clear c150
         try clear c151
         try clear c153
         try clear c154
         try clear c156
         try clear c159
         try clear c160
         try clear c161
         try clear c163
         try clear c164
         try clear c166
         try clear c169
         try clear c171
         try clear c171b0
         try clear c172
         try clear c172b0
         try clear c173
         try clear c173b0
         try clear c173b1
         try clear c174
         try clear c183
         try clear c184
         try clear c184b0
         try clear c184b1
         try clear c184b2
         try clear c191
         try clear c192
         try clear c192b0
         try clear c192b1
         try clear c193
         try clear c193b0
         try clear c193b1
         try clear hcz101_0
         try clear hcz101_1
         try clear hcz104_0
         try clear hcz104_1
         try clear hcz109_0
         try clear hcz109_1
         try clear hcz112_0
         try clear hcz112_1
         try clear hcz114_0
         try clear hcz114_1
         try clear hcz115_0
         try clear hcz115_1
         try clear hcz120_0
         try clear hcz120_1
         try clear hcz123_0
         try clear hcz123_1
         try clear hcz125_0
         try clear hcz125_1
         try clear hcz126_0
         try clear hcz126_1
         try clear hcz130_0
         try clear hcz130_1
         try clear hcz133_0
         try clear hcz133_1
         try clear hcz135_0
         try clear hcz135_1
         try clear hcz136_0
         try clear hcz136_1
         try clear hcz141_0
         try clear hcz141_1
         try clear hcz144_0
         try clear hcz144_1
         try clear hcz146_0
         try clear hcz146_1
         try clear hcz147_0
         try clear hcz147_1
         try clear hcz152_0
         try clear hcz152_1
         try clear hcz155_0
         try clear hcz155_1
         try clear hcz157_0
         try clear hcz157_1
         try clear hcz158_0
         try clear hcz158_1
         try clear hcz162_0
         try clear hcz162_1
         try clear hcz165_0
         try clear hcz165_1
         try clear hcz167_0
         try clear hcz167_1
         try clear hcz168_0
         try clear hcz168_1
         try clear hcz92_0
         try clear hcz92_1
         try clear hcz95_0
         try clear hcz95_1
         try clear hfz101_0
         try clear hfz101_1
         try clear hfz104_0
         try clear hfz104_1
         try clear hfz109_0
         try clear hfz109_1
         try clear hfz112_0
         try clear hfz112_1
         try clear hfz114_0
         try clear hfz114_1
         try clear hfz115_0
         try clear hfz115_1
         try clear hfz120_0
         try clear hfz120_1
         try clear hfz123_0
         try clear hfz123_1
         try clear hfz125_0
         try clear hfz125_1
         try clear hfz126_0
         try clear hfz126_1
         try clear hfz130_0
         try clear hfz130_1
         try clear hfz133_0
         try clear hfz133_1
         try clear hfz135_0
         try clear hfz135_1
         try clear hfz136_0
         try clear hfz136_1
         try clear hfz141_0
         try clear hfz141_1
         try clear hfz144_0
         try clear hfz144_1
         try clear hfz146_0
         try clear hfz146_1
         try clear hfz147_0
         try clear hfz147_1
         try clear hfz152_0
         try clear hfz152_1
         try clear hfz155_0
         try clear hfz155_1
         try clear hfz157_0
         try clear hfz157_1
         try clear hfz158_0
         try clear hfz158_1
         try clear hfz162_0
         try clear hfz162_1
         try clear hfz165_0
         try clear hfz165_1
         try clear hfz167_0
         try clear hfz167_1
         try clear hfz168_0
         try clear hfz168_1
         try clear hfz92_0
         try clear hfz92_1
         try clear hfz95_0
         try clear hfz95_1
         try clear hx241_0
         try clear p2
         try clear p24
         try clear p241
         try clear p6
         try clear p64
         try clear q2
         try clear q24
         try clear q241
         obtain ⟨x9_3, x10_3, rfl, HA, HK3, HO_5, HO_7, HO_8, HO_9, HB⟩ := hrel
         cases gk with
         | zero => exact absurd HA.out (by simp [scarflaw03_RankBy.l3])
         | succ k3 =>
          have H := HA.out
          clear HA
          simp only [scarflaw03_RankBy.l3] at H
          by_cases c196 : x10_3 < (t245.length : Int)
          rotate_left
          ·rw [if_neg c196] at H
           have c196b0 : decide (x10_3 < (t245.length : Int)) = false := decide_eq_false c196
           clear c196
           obtain rfl := Option.some.inj H
           obtain ⟨Ao335, co335, eo335⟩ := Kd.R_slice HO_7.out
           subst eo335
           go_wp2
           go_ret
           exact ⟨by first | rfl | (simp [errW_none, errW_some] <;> rfl) | (simp [*, errW_none, errW_some] <;> rfl), by repeat (first | (with_reducible first | exact HB.out | apply below_alloc | apply pw_below_drewN | apply below_drew1) | exact HB.out)⟩
          rw [if_pos c196] at H
          have c196b0 : decide (x10_3 < (t245.length : Int)) = true := decide_eq_true c196
          clear c196
          have HC197 := Aside0.mk H
          clear H
          obtain ⟨Ao198, co198, eo198⟩ := Kd.R_slice HO_7.out
          subst eo198
          go_upto_region 17 with (fail)
          go_cut [112] (fun v112 wc => ∃ (kq : Nat) (x112_196 : Bool), v112 = .bool x112_196 ∧ Aside0 (scarflaw03_RankBy.j8 kq x5_1 t245 t248 x9_3 x10_3 x112_196 = some r) ∧ Aside0 (kq ≤ k3) ∧ Aside0 (Kd.R k33 33 wc w.heap.size (fun _ => True) (.slice Ao179 x5_1.length co179) x5_1) ∧ Aside0 (Kd.R (Kd.int .i64) 3 wc w.heap.size (fun k_ => some k_ ≠ (v249 : Value).ownBlock) (.slice Ao198 t245.length co198) t245) ∧ Aside0 (Kd.R (Kd.int .i64) 3 wc w.heap.size (fun k_ => some k_ ≠ ((.slice Ao198 t245.length co198) : Value).ownBlock) v249 t248) ∧ Aside0 (Kd.R Kd.bool 4 wc w.heap.size (fun _ => True) v253 x9_3) ∧ Aside0 (Below w.heap.size w wc))
          case first =>
           have H := HC197.out
           clear HC197
           by_cases c199 : 0 ≤ x10_3
           rotate_left
           ·rw [if_neg c199] at H
            exact absurd H (by simp)
           rw [if_pos c199] at H
           have c199b0 : decide (0 ≤ x10_3) = true := decide_eq_true c199
           clear c199
           (first | rw [c199b0] | (simp only [i64_w, i32_w]; rw [c199b0]) | skip)
           by_cases c200 : (rd t245 x10_3) < 0
           ·rw [if_pos c200] at H
            have c200b0 : decide ((rd t245 x10_3) < 0) = true := decide_eq_true c200
            clear c200
            have H' := Aside0.mk H
            clear H
            have p255 : 0 ≤ (x10_3 : Int) := of_decide_eq_true (by first | (with_reducible assumption) | assumption)
            have q255 : x10_3 < (t245.length : Int) := of_decide_eq_true (by first | (with_reducible assumption) | assumption)
            obtain ⟨ad255, e255, hx255_0⟩ := Kd.at_int (Kd.R_reads' HO_7.out).2.2 x10_3 p255 q255
            cases e255
            replace p255 := eq_true p255
            replace q255 := eq_true q255
            go_wp2
            go_meet
            case rel => exact ⟨_, (true), (by first | rfl | (simp; done) | (simp [*]; done)), H', ⟨by have := HK1.out; have := HJ177.out; have := HK3.out; first | omega | exact Nat.le_refl _⟩, ⟨by (with_reducible repeat (first | apply Kd.R_alloc | apply Kd.R_drewN | apply Kd.R_drew)); exact HO_5.out⟩, ⟨by (with_reducible repeat (first | apply Kd.R_alloc | apply Kd.R_drewN | apply Kd.R_drew)); exact HO_7.out⟩, ⟨by (with_reducible repeat (first | apply Kd.R_alloc | apply Kd.R_drewN | apply Kd.R_drew)); exact HO_8.out⟩, ⟨by (with_reducible repeat (first | apply Kd.R_alloc | apply Kd.R_drewN | apply Kd.R_drew)); exact HO_9.out⟩, ⟨by repeat (first | (with_reducible first | exact HB.out | apply below_alloc | apply pw_below_drewN | apply below_drew1) | exact HB.out)⟩⟩
           rw [if_neg c200] at H
           have c200b0 : decide ((rd t245 x10_3) < 0) = false := decide_eq_false c200
           clear c200
           by_cases c201 : (rd t245 x10_3) ≥ (x5_1.length : Int)
           ·rw [if_pos c201] at H
            have c201b0 : decide ((x5_1.length : Int) ≤ (rd t245 x10_3)) = true := decide_eq_true c201
            clear c201
            have H' := Aside0.mk H
            clear H
            have p255 : 0 ≤ (x10_3 : Int) := of_decide_eq_true (by first | (with_reducible assumption) | assumption)
            have q255 : x10_3 < (t245.length : Int) := of_decide_eq_true (by first | (with_reducible assumption) | assumption)
            obtain ⟨ad255, e255, hx255_0⟩ := Kd.at_int (Kd.R_reads' HO_7.out).2.2 x10_3 p255 q255
            cases e255
            replace p255 := eq_true p255
            replace q255 := eq_true q255
            have p256 : 0 ≤ (x10_3 : Int) := of_decide_eq_true (by first | (with_reducible assumption) | assumption)
            have q256 : x10_3 < (t245.length : Int) := of_decide_eq_true (by first | (with_reducible assumption) | assumption)
            obtain ⟨ad256, e256, hx256_0⟩ := Kd.at_int (Kd.R_reads' HO_7.out).2.2 x10_3 p256 q256
            obtain rfl : ad255 = ad256 := (by injection e256)
            replace p256 := eq_true p256
            replace q256 := eq_true q256
            go_wp2
            go_meet
            case rel => exact ⟨_, (true), (by first | rfl | (simp; done) | (simp [*]; done)), H', ⟨by have := HK1.out; have := HJ177.out; have := HK3.out; first | omega | exact Nat.le_refl _⟩, ⟨by (with_reducible repeat (first | apply Kd.R_alloc | apply Kd.R_drewN | apply Kd.R_drew)); exact HO_5.out⟩, ⟨by (with_reducible repeat (first | apply Kd.R_alloc | apply Kd.R_drewN | apply Kd.R_drew)); exact HO_7.out⟩, ⟨by (with_reducible repeat (first | apply Kd.R_alloc | apply Kd.R_drewN | apply Kd.R_drew)); exact HO_8.out⟩, ⟨by (with_reducible repeat (first | apply Kd.R_alloc | apply Kd.R_drewN | apply Kd.R_drew)); exact HO_9.out⟩, ⟨by repeat (first | (with_reducible first | exact HB.out | apply below_alloc | apply pw_below_drewN | apply below_drew1) | exact HB.out)⟩⟩
           rw [if_neg c201] at H
           have c201b0 : decide ((x5_1.length : Int) ≤ (rd t245 x10_3)) = false := decide_eq_false c201
           clear c201
           by_cases c202 : x10_3 < (t248.length : Int)
           rotate_left
           ·rw [if_neg c202] at H
            exact absurd H (by simp)
           rw [if_pos c202] at H
           have c202b0 : decide (x10_3 < (t248.length : Int)) = true := decide_eq_true c202
           clear c202
           by_cases c203 : (rd t248 x10_3) < 0
           ·rw [if_pos c203] at H
            have c203b0 : decide ((rd t248 x10_3) < 0) = true := decide_eq_true c203
            clear c203
            have H' := Aside0.mk H
            clear H
            have p255 : 0 ≤ (x10_3 : Int) := of_decide_eq_true (by first | (with_reducible assumption) | assumption)
            have q255 : x10_3 < (t245.length : Int) := of_decide_eq_true (by first | (with_reducible assumption) | assumption)
            obtain ⟨ad255, e255, hx255_0⟩ := Kd.at_int (Kd.R_reads' HO_7.out).2.2 x10_3 p255 q255
            cases e255
            replace p255 := eq_true p255
            replace q255 := eq_true q255
            have p256 : 0 ≤ (x10_3 : Int) := of_decide_eq_true (by first | (with_reducible assumption) | assumption)
            have q256 : x10_3 < (t245.length : Int) := of_decide_eq_true (by first | (with_reducible assumption) | assumption)
            obtain ⟨ad256, e256, hx256_0⟩ := Kd.at_int (Kd.R_reads' HO_7.out).2.2 x10_3 p256 q256
            obtain rfl : ad255 = ad256 := (by injection e256)
            replace p256 := eq_true p256
            replace q256 := eq_true q256
            obtain ⟨Ao204, co204, eo204⟩ := Kd.R_slice HO_8.out
            subst eo204
            have p257 : 0 ≤ (x10_3 : Int) := of_decide_eq_true (by first | (with_reducible assumption) | assumption)
            have q257 : x10_3 < (t248.length : Int) := of_decide_eq_true (by first | (with_reducible assumption) | assumption)
            obtain ⟨ad257, e257, hx257_0⟩ := Kd.at_int (Kd.R_reads' HO_8.out).2.2 x10_3 p257 q257
            cases e257
            replace p257 := eq_true p257
            replace q257 := eq_true q257
            go_wp2
            go_meet
            case rel => exact ⟨_, (true), (by first | rfl | (simp; done) | (simp [*]; done)), H', ⟨by have := HK1.out; have := HJ177.out; have := HK3.out; first | omega | exact Nat.le_refl _⟩, ⟨by (with_reducible repeat (first | apply Kd.R_alloc | apply Kd.R_drewN | apply Kd.R_drew)); exact HO_5.out⟩, ⟨by (with_reducible repeat (first | apply Kd.R_alloc | apply Kd.R_drewN | apply Kd.R_drew)); exact HO_7.out⟩, ⟨by (with_reducible repeat (first | apply Kd.R_alloc | apply Kd.R_drewN | apply Kd.R_drew)); exact HO_8.out⟩, ⟨by (with_reducible repeat (first | apply Kd.R_alloc | apply Kd.R_drewN | apply Kd.R_drew)); exact HO_9.out⟩, ⟨by repeat (first | (with_reducible first | exact HB.out | apply below_alloc | apply pw_below_drewN | apply below_drew1) | exact HB.out)⟩⟩
           rw [if_neg c203] at H
           have c203b0 : decide ((rd t248 x10_3) < 0) = false := decide_eq_false c203
           clear c203
           by_cases c205 : (rd t248 x10_3) ≥ (x5_1.length : Int)
           ·rw [if_pos c205] at H
            have c205b0 : decide ((x5_1.length : Int) ≤ (rd t248 x10_3)) = true := decide_eq_true c205
            clear c205
            have H' := Aside0.mk H
            clear H
            have p255 : 0 ≤ (x10_3 : Int) := of_decide_eq_true (by first | (with_reducible assumption) | assumption)
            have q255 : x10_3 < (t245.length : Int) := of_decide_eq_true (by first | (with_reducible assumption) | assumption)
            obtain ⟨ad255, e255, hx255_0⟩ := Kd.at_int (Kd.R_reads' HO_7.out).2.2 x10_3 p255 q255
            cases e255
            replace p255 := eq_true p255
            replace q255 := eq_true q255
            have p256 : 0 ≤ (x10_3 : Int) := of_decide_eq_true (by first | (with_reducible assumption) | assumption)
            have q256 : x10_3 < (t245.length : Int) := of_decide_eq_true (by first | (with_reducible assumption) | assumption)
            obtain ⟨ad256, e256, hx256_0⟩ := Kd.at_int (Kd.R_reads' HO_7.out).2.2 x10_3 p256 q256
            obtain rfl : ad255 = ad256 := (by injection e256)
            replace p256 := eq_true p256
            replace q256 := eq_true q256
            obtain ⟨Ao206, co206, eo206⟩ := Kd.R_slice HO_8.out
            subst eo206
            have p257 : 0 ≤ (x10_3 : Int) := of_decide_eq_true (by first | (with_reducible assumption) | assumption)
            have q257 : x10_3 < (t248.length : Int) := of_decide_eq_true (by first | (with_reducible assumption) | assumption)
            obtain ⟨ad257, e257, hx257_0⟩ := Kd.at_int (Kd.R_reads' HO_8.out).2.2 x10_3 p257 q257
            cases e257
            replace p257 := eq_true p257
            replace q257 := eq_true q257
            have p258 : 0 ≤ (x10_3 : Int) := of_decide_eq_true (by first | (with_reducible assumption) | assumption)
            have q258 : x10_3 < (t248.length : Int) := of_decide_eq_true (by first | (with_reducible assumption) | assumption)
            obtain ⟨ad258, e258, hx258_0⟩ := Kd.at_int (Kd.R_reads' HO_8.out).2.2 x10_3 p258 q258
            obtain rfl : ad257 = ad258 := (by injection e258)
            replace p258 := eq_true p258
            replace q258 := eq_true q258
            go_wp2
            go_meet
            case rel => exact ⟨_, (true), (by first | rfl | (simp; done) | (simp [*]; done)), H', ⟨by have := HK1.out; have := HJ177.out; have := HK3.out; first | omega | exact Nat.le_refl _⟩, ⟨by (with_reducible repeat (first | apply Kd.R_alloc | apply Kd.R_drewN | apply Kd.R_drew)); exact HO_5.out⟩, ⟨by (with_reducible repeat (first | apply Kd.R_alloc | apply Kd.R_drewN | apply Kd.R_drew)); exact HO_7.out⟩, ⟨by (with_reducible repeat (first | apply Kd.R_alloc | apply Kd.R_drewN | apply Kd.R_drew)); exact HO_8.out⟩, ⟨by (with_reducible repeat (first | apply Kd.R_alloc | apply Kd.R_drewN | apply Kd.R_drew)); exact HO_9.out⟩, ⟨by repeat (first | (with_reducible first | exact HB.out | apply below_alloc | apply pw_below_drewN | apply below_drew1) | exact HB.out)⟩⟩
           rw [if_neg c205] at H
           have c205b0 : decide ((x5_1.length : Int) ≤ (rd t248 x10_3)) = false := decide_eq_false c205
           clear c205
           by_cases c207 : 0 ≤ (rd t245 x10_3)
           rotate_left
           ·rw [if_neg c207] at H
            exact absurd H (by simp)
           rw [if_pos c207] at H
           have c207b0 : decide (0 ≤ (rd t245 x10_3)) = true := decide_eq_true c207
           clear c207
           by_cases c208 : (rd t245 x10_3) < (x9_3.length : Int)
           rotate_left
           ·rw [if_neg c208] at H
            exact absurd H (by simp)
           rw [if_pos c208] at H
           have c208b0 : decide ((rd t245 x10_3) < (x9_3.length : Int)) = true := decide_eq_true c208
           clear c208
           have H' := Aside0.mk H
           clear H
           have p255 : 0 ≤ (x10_3 : Int) := of_decide_eq_true (by first | (with_reducible assumption) | assumption)
           have q255 : x10_3 < (t245.length : Int) := of_decide_eq_true (by first | (with_reducible assumption) | assumption)
           obtain ⟨ad255, e255, hx255_0⟩ := Kd.at_int (Kd.R_reads' HO_7.out).2.2 x10_3 p255 q255
           cases e255
           replace p255 := eq_true p255
           replace q255 := eq_true q255
           have p256 : 0 ≤ (x10_3 : Int) := of_decide_eq_true (by first | (with_reducible assumption) | assumption)
           have q256 : x10_3 < (t245.length : Int) := of_decide_eq_true (by first | (with_reducible assumption) | assumption)
           obtain ⟨ad256, e256, hx256_0⟩ := Kd.at_int (Kd.R_reads' HO_7.out).2.2 x10_3 p256 q256
           obtain rfl : ad255 = ad256 := (by injection e256)
           replace p256 := eq_true p256
           replace q256 := eq_true q256
           obtain ⟨Ao209, co209, eo209⟩ := Kd.R_slice HO_8.out
           subst eo209
           have p257 : 0 ≤ (x10_3 : Int) := of_decide_eq_true (by first | (with_reducible assumption) | assumption)
           have q257 : x10_3 < (t248.length : Int) := of_decide_eq_true (by first | (with_reducible assumption) | assumption)
           obtain ⟨ad257, e257, hx257_0⟩ := Kd.at_int (Kd.R_reads' HO_8.out).2.2 x10_3 p257 q257
           cases e257
           replace p257 := eq_true p257
           replace q257 := eq_true q257
           have p258 : 0 ≤ (x10_3 : Int) := of_decide_eq_true (by first | (with_reducible assumption) | assumption)
           have q258 : x10_3 < (t248.length : Int) := of_decide_eq_true (by first | (with_reducible assumption) | assumption)
           obtain ⟨ad258, e258, hx258_0⟩ := Kd.at_int (Kd.R_reads' HO_8.out).2.2 x10_3 p258 q258
           obtain rfl : ad257 = ad258 := (by injection e258)
           replace p258 := eq_true p258
           replace q258 := eq_true q258
           have p259 : 0 ≤ (x10_3 : Int) := of_decide_eq_true (by first | (with_reducible assumption) | assumption)
           have q259 : x10_3 < (t245.length : Int) := of_decide_eq_true (by first | (with_reducible assumption) | assumption)
           obtain ⟨ad259, e259, hx259_0⟩ := Kd.at_int (Kd.R_reads' HO_7.out).2.2 x10_3 p259 q259
           obtain rfl : ad255 = ad259 := (by injection e259)
           replace p259 := eq_true p259
           replace q259 := eq_true q259
           obtain ⟨Ao210, co210, eo210⟩ := Kd.R_slice HO_9.out
           subst eo210
           have p260 : 0 ≤ ((rd t245 x10_3) : Int) := of_decide_eq_true (by first | (with_reducible assumption) | assumption)
           have q260 : (rd t245 x10_3) < (x9_3.length : Int) := of_decide_eq_true (by first | (with_reducible assumption) | assumption)
           obtain ⟨ad260, e260, hx260_0⟩ := Kd.at_bool (Kd.R_reads' HO_9.out).2.2 (rd t245 x10_3) p260 q260
           cases e260
           replace p260 := eq_true p260
           replace q260 := eq_true q260
           go_wp2
           go_meet
           case rel => exact ⟨_, (rdOf false x9_3 (rd t245 x10_3)), (by first | rfl | (simp; done) | (simp [*]; done)), H', ⟨by have := HK1.out; have := HJ177.out; have := HK3.out; first | omega | exact Nat.le_refl _⟩, ⟨by (with_reducible repeat (first | apply Kd.R_alloc | apply Kd.R_drewN | apply Kd.R_drew)); exact HO_5.out⟩, ⟨by (with_reducible repeat (first | apply Kd.R_alloc | apply Kd.R_drewN | apply Kd.R_drew)); exact HO_7.out⟩, ⟨by (with_reducible repeat (first | apply Kd.R_alloc | apply Kd.R_drewN | apply Kd.R_drew)); exact HO_8.out⟩, ⟨by (with_reducible repeat (first | apply Kd.R_alloc | apply Kd.R_drewN | apply Kd.R_drew)); exact HO_9.out⟩, ⟨by repeat (first | (with_reducible first | exact HB.out | apply below_alloc | apply pw_below_drewN | apply below_drew1) | exact HB.out)⟩⟩
          case rest =>
           as_aux_lemma =>
            clear HC197
            try clear c1
            try clear c2
            try clear p2
            try clear q2
            try clear hx2
            try clear c3
            try clear c3b0
            try clear c3b1
            try clear c4
            try clear c5
            try clear c6
            try clear p6
            try clear c8
            try clear c9
            try clear c10
            try clear c11
            try clear c12
            try clear c13
            try clear c14
            try clear c15
            try clear c16
            try clear c17
            try clear c18
            try clear c19
            try clear c20
            try clear p24
            try clear q24
            try clear hx24
            try clear p25
            try clear q25
            try clear hx25
            try clear p26
            try clear q26
            try clear hx26
            try clear c27
            try clear c28
            try clear c31
            try clear c31b0
            try clear c47
            try clear c48
            try clear c49
            try clear c50
            try clear c56
            try clear c57
            try clear c58
            try clear c59
            try clear c60
            try clear c61
            try clear c62
            try clear c63
            try clear c64
            try clear p64
            try clear c65
            try clear c66
            try clear c88
            try clear c88b0
            try clear c89
            try clear c90
            try clear c91
            try clear c93
            try clear c94
            try clear c96
            try clear c96b0
            try clear c96b1
            try clear c97
            try clear c97b0
            try clear c98
            try clear c99
            try clear c100
            try clear c102
            try clear c103
            try clear c105
            try clear c105b0
            try clear c106
            try clear c107
            try clear c108
            try clear c110
            try clear c111
            try clear c113
            try clear c116
            try clear c116b0
            try clear c116b1
            try clear c117
            try clear c118
            try clear c119
            try clear c121
            try clear c122
            try clear c124
            try clear c127
            try clear c128
            try clear c129
            try clear c131
            try clear c132
            try clear c134
            try clear c137
            try clear c137b0
            try clear c138
            try clear c139
            try clear c140
            try clear c142
            try clear c143
            try clear c145
            try clear c148
            try clear c148b0
            try clear c148b1
            try clear c149
            try clear c150
            try clear c151
            try clear c153
            try clear c154
            try clear c156
            try clear c159
            try clear c160
            try clear c161
            try clear c163
            try clear c164
            try clear c166
            try clear c169
            try clear c171
            try clear c171b0
            try clear c172
            try clear c172b0
            try clear c173
            try clear c173b0
            try clear c173b1
            try clear c174
            try clear c183
            try clear c184
            try clear c184b0
            try clear c184b1
            try clear c184b2
            try clear c191
            try clear c192
            try clear c192b0
            try clear c192b1
            try clear c193
            try clear c193b0
            try clear c193b1
            try clear c196
            try clear c196b0
            try clear c199
            try clear c199b0
            try clear c200
            try clear c200b0
            try clear c201
            try clear c201b0
            try clear c202
            try clear c202b0
            try clear c203
            try clear c203b0
            try clear c205
            try clear c205b0
            try clear c207
            try clear c207b0
            try clear c208
            try clear c208b0
            try clear hcz101_0
            try clear hcz101_1
            try clear hcz104_0
            try clear hcz104_1
            try clear hcz109_0
            try clear hcz109_1
            try clear hcz112_0
            try clear hcz112_1
            try clear hcz114_0
            try clear hcz114_1
            try clear hcz115_0
            try clear hcz115_1
            try clear hcz120_0
            try clear hcz120_1
            try clear hcz123_0
            try clear hcz123_1
            try clear hcz125_0
            try clear hcz125_1
            try clear hcz126_0
            try clear hcz126_1
            try clear hcz130_0
            try clear hcz130_1
            try clear hcz133_0
            try clear hcz133_1
            try clear hcz135_0
            try clear hcz135_1
            try clear hcz136_0
            try clear hcz136_1
            try clear hcz141_0
            try clear hcz141_1
            try clear hcz144_0
            try clear hcz144_1
            try clear hcz146_0
            try clear hcz146_1
            try clear hcz147_0
            try clear hcz147_1
            try clear hcz152_0
            try clear hcz152_1
            try clear hcz155_0
            try clear hcz155_1
            try clear hcz157_0
            try clear hcz157_1
            try clear hcz158_0
            try clear hcz158_1
            try clear hcz162_0
            try clear hcz162_1
            try clear hcz165_0
            try clear hcz165_1
            try clear hcz167_0
            try clear hcz167_1
            try clear hcz168_0
            try clear hcz168_1
            try clear hcz92_0
            try clear hcz92_1
            try clear hcz95_0
            try clear hcz95_1
            try clear hfz101_0
            try clear hfz101_1
            try clear hfz104_0
            try clear hfz104_1
            try clear hfz109_0
            try clear hfz109_1
            try clear hfz112_0
            try clear hfz112_1
            try clear hfz114_0
            try clear hfz114_1
            try clear hfz115_0
            try clear hfz115_1
            try clear hfz120_0
            try clear hfz120_1
            try clear hfz123_0
            try clear hfz123_1
            try clear hfz125_0
            try clear hfz125_1
            try clear hfz126_0
            try clear hfz126_1
            try clear hfz130_0
            try clear hfz130_1
            try clear hfz133_0
            try clear hfz133_1
            try clear hfz135_0
            try clear hfz135_1
            try clear hfz136_0
            try clear hfz136_1
            try clear hfz141_0
            try clear hfz141_1
            try clear hfz144_0
            try clear hfz144_1
            try clear hfz146_0
            try clear hfz146_1
            try clear hfz147_0
            try clear hfz147_1
            try clear hfz152_0
            try clear hfz152_1
            try clear hfz155_0
            try clear hfz155_1
            try clear hfz157_0
            try clear hfz157_1
            try clear hfz158_0
            try clear hfz158_1
            try clear hfz162_0
            try clear hfz162_1
            try clear hfz165_0
            try clear hfz165_1
            try clear hfz167_0
            try clear hfz167_1
            try clear hfz168_0
            try clear hfz168_1
            try clear hfz92_0
            try clear hfz92_1
            try clear hfz95_0
            try clear hfz95_1
            try clear hx241_0
            try clear hx255_0
            try clear hx256_0
            try clear hx257_0
            try clear hx258_0
            try clear hx259_0
            try clear hx260_0
            try clear p2
            try clear p24
            try clear p241
            try clear p255
            try clear p256
            try clear p257
            try clear p258
            try clear p259
            try clear p260
            try clear p6
            try clear p64
            try clear q2
            try clear q24
            try clear q241
            try clear q255
            try clear q256
            try clear q257
            try clear q258
            try clear q259
            try clear q260
            obtain ⟨kq, x112_196, rfl, HA, HJ196, HO_5, HO_7, HO_8, HO_9, HB⟩ := hcut
            cases kq with
            | zero => exact absurd HA.out (by simp [scarflaw03_RankBy.j8])
            | succ kj196 =>
             have H := HA.out
             clear HA
             simp only [scarflaw03_RankBy.j8] at H
             by_cases c211 : x112_196 = true
             ·subst c211
              have H1 : (some false) = some r := by rw [if_pos rfl] at H; exact H
              clear H
              have H := H1
              clear H1
              obtain rfl := Option.some.inj H
              go_wp2
              go_ret
              exact ⟨by first | rfl | (simp [errW_none, errW_some] <;> rfl) | (simp [*, errW_none, errW_some] <;> rfl), by repeat (first | (with_reducible first | exact HB.out | apply below_alloc | apply pw_below_drewN | apply below_drew1) | exact HB.out)⟩
             replace c211 := Bool.eq_false_iff.mpr c211
             subst c211
             have H1 : (if 0 ≤ x10_3 then (if x10_3 < (t245.length : Int) then (if 0 ≤ (rd t245 x10_3) then (if (rd t245 x10_3) < (x9_3.length : Int) then ((some (x9_3.set ((rd t245 x10_3) : Int).toNat true : List Bool)).bind fun y262 => (if x10_3 = 0 then (scarflaw03_RankBy.l3 kj196 x5_1 t245 t248 y262 (wrap64 (x10_3 + 1))) else (if 0 ≤ (wrap64 (x10_3 - 1)) then (if (wrap64 (x10_3 - 1)) < (t245.length : Int) then (if 0 ≤ (rd t245 (wrap64 (x10_3 - 1))) then (if (rd t245 (wrap64 (x10_3 - 1))) < (x5_1.length : Int) then (if (rd t245 x10_3) < (x5_1.length : Int) then (if (wrap64 (x10_3 - 1)) < (t248.length : Int) then (if 0 ≤ (rd t248 (wrap64 (x10_3 - 1))) then (if (rd t248 (wrap64 (x10_3 - 1))) < (x5_1.length : Int) then (if x10_3 < (t248.length : Int) then (if 0 ≤ (rd t248 x10_3) then (if (rd t248 x10_3) < (x5_1.length : Int) then (if ((rd_T33 x5_1 (rd t245 (wrap64 (x10_3 - 1)))).f0) > ((rd_T33 x5_1 (rd t245 x10_3)).f0) then (scarflaw03_RankBy.j9 kj196 x5_1 t245 t248 y262 x10_3 true) else (if ((rd_T33 x5_1 (rd t245 (wrap64 (x10_3 - 1)))).f0) = ((rd_T33 x5_1 (rd t245 x10_3)).f0) then (if ((rd_T33 x5_1 (rd t245 (wrap64 (x10_3 - 1)))).f1) ≥ ((rd_T33 x5_1 (rd t245 x10_3)).f1) then (scarflaw03_RankBy.j9 kj196 x5_1 t245 t248 y262 x10_3 true) else (if ((rd_T33 x5_1 (rd t248 (wrap64 (x10_3 - 1)))).f0) < ((rd_T33 x5_1 (rd t248 x10_3)).f0) then (scarflaw03_RankBy.j9 kj196 x5_1 t245 t248 y262 x10_3 true) else (if ((rd_T33 x5_1 (rd t248 (wrap64 (x10_3 - 1)))).f0) = ((rd_T33 x5_1 (rd t248 x10_3)).f0) then (scarflaw03_RankBy.j9 kj196 x5_1 t245 t248 y262 x10_3 (decide (((rd_T33 x5_1 (rd t248 (wrap64 (x10_3 - 1)))).f1) ≥ ((rd_T33 x5_1 (rd t248 x10_3)).f1)))) else (scarflaw03_RankBy.j9 kj196 x5_1 t245 t248 y262 x10_3 false)))) else (if ((rd_T33 x5_1 (rd t248 (wrap64 (x10_3 - 1)))).f0) < ((rd_T33 x5_1 (rd t248 x10_3)).f0) then (scarflaw03_RankBy.j9 kj196 x5_1 t245 t248 y262 x10_3 true) else (if ((rd_T33 x5_1 (rd t248 (wrap64 (x10_3 - 1)))).f0) = ((rd_T33 x5_1 (rd t248 x10_3)).f0) then (scarflaw03_RankBy.j9 kj196 x5_1 t245 t248 y262 x10_3 (decide (((rd_T33 x5_1 (rd t248 (wrap64 (x10_3 - 1)))).f1) ≥ ((rd_T33 x5_1 (rd t248 x10_3)).f1)))) else (scarflaw03_RankBy.j9 kj196 x5_1 t245 t248 y262 x10_3 false))))) else (none)) else (none)) else (none)) else (none)) else (none)) else (none)) else (none)) else (none)) else (none)) else (none)) else (none)))) else (none)) else (none)) else (none)) else (none)) = some r := by rw [if_neg (show ¬ (false = true) by decide)] at H; exact H
             clear H
             have H := H1
             clear H1
             by_cases c212 : 0 ≤ x10_3
             rotate_left
             ·rw [if_neg c212] at H
              exact absurd H (by simp)
             rw [if_pos c212] at H
             have c212b0 : decide (0 ≤ x10_3) = true := decide_eq_true c212
             clear c212
             by_cases c213 : x10_3 < (t245.length : Int)
             rotate_left
             ·rw [if_neg c213] at H
              exact absurd H (by simp)
             rw [if_pos c213] at H
             have c213b0 : decide (x10_3 < (t245.length : Int)) = true := decide_eq_true c213
             clear c213
             by_cases c214 : 0 ≤ (rd t245 x10_3)
             rotate_left
             ·rw [if_neg c214] at H
              exact absurd H (by simp)
             rw [if_pos c214] at H
             have c214b0 : decide (0 ≤ (rd t245 x10_3)) = true := decide_eq_true c214
             clear c214
             by_cases c215 : (rd t245 x10_3) < (x9_3.length : Int)
             rotate_left
             ·rw [if_neg c215] at H
              exact absurd H (by simp)
             rw [if_pos c215] at H
             have c215b0 : decide ((rd t245 x10_3) < (x9_3.length : Int)) = true := decide_eq_true c215
             clear c215
             obtain ⟨y262, hy262⟩ : ∃ y_ : List Bool, y_ = (x9_3.set ((rd t245 x10_3) : Int).toNat true) := ⟨_, rfl⟩
             replace H : (if x10_3 = 0 then (scarflaw03_RankBy.l3 kj196 x5_1 t245 t248 y262 (wrap64 (x10_3 + 1))) else (if 0 ≤ (wrap64 (x10_3 - 1)) then (if (wrap64 (x10_3 - 1)) < (t245.length : Int) then (if 0 ≤ (rd t245 (wrap64 (x10_3 - 1))) then (if (rd t245 (wrap64 (x10_3 - 1))) < (x5_1.length : Int) then (if (rd t245 x10_3) < (x5_1.length : Int) then (if (wrap64 (x10_3 - 1)) < (t248.length : Int) then (if 0 ≤ (rd t248 (wrap64 (x10_3 - 1))) then (if (rd t248 (wrap64 (x10_3 - 1))) < (x5_1.length : Int) then (if x10_3 < (t248.length : Int) then (if 0 ≤ (rd t248 x10_3) then (if (rd t248 x10_3) < (x5_1.length : Int) then (if ((rd_T33 x5_1 (rd t245 (wrap64 (x10_3 - 1)))).f0) > ((rd_T33 x5_1 (rd t245 x10_3)).f0) then (scarflaw03_RankBy.j9 kj196 x5_1 t245 t248 y262 x10_3 true) else (if ((rd_T33 x5_1 (rd t245 (wrap64 (x10_3 - 1)))).f0) = ((rd_T33 x5_1 (rd t245 x10_3)).f0) then (if ((rd_T33 x5_1 (rd t245 (wrap64 (x10_3 - 1)))).f1) ≥ ((rd_T33 x5_1 (rd t245 x10_3)).f1) then (scarflaw03_RankBy.j9 kj196 x5_1 t245 t248 y262 x10_3 true) else (if ((rd_T33 x5_1 (rd t248 (wrap64 (x10_3 - 1)))).f0) < ((rd_T33 x5_1 (rd t248 x10_3)).f0) then (scarflaw03_RankBy.j9 kj196 x5_1 t245 t248 y262 x10_3 true) else (if ((rd_T33 x5_1 (rd t248 (wrap64 (x10_3 - 1)))).f0) = ((rd_T33 x5_1 (rd t248 x10_3)).f0) then (scarflaw03_RankBy.j9 kj196 x5_1 t245 t248 y262 x10_3 (decide (((rd_T33 x5_1 (rd t248 (wrap64 (x10_3 - 1)))).f1) ≥ ((rd_T33 x5_1 (rd t248 x10_3)).f1)))) else (scarflaw03_RankBy.j9 kj196 x5_1 t245 t248 y262 x10_3 false)))) else (if ((rd_T33 x5_1 (rd t248 (wrap64 (x10_3 - 1)))).f0) < ((rd_T33 x5_1 (rd t248 x10_3)).f0) then (scarflaw03_RankBy.j9 kj196 x5_1 t245 t248 y262 x10_3 true) else (if ((rd_T33 x5_1 (rd t248 (wrap64 (x10_3 - 1)))).f0) = ((rd_T33 x5_1 (rd t248 x10_3)).f0) then (scarflaw03_RankBy.j9 kj196 x5_1 t245 t248 y262 x10_3 (decide (((rd_T33 x5_1 (rd t248 (wrap64 (x10_3 - 1)))).f1) ≥ ((rd_T33 x5_1 (rd t248 x10_3)).f1)))) else (scarflaw03_RankBy.j9 kj196 x5_1 t245 t248 y262 x10_3 false))))) else (none)) else (none)) else (none)) else (none)) else (none)) else (none)) else (none)) else (none)) else (none)) else (none)) else (none))) = some r := by first | (rw [hy262]; with_reducible exact H) | (have H2_ := (Option.bind_some _ _).symm.trans H; rw [hy262]; with_reducible exact H2_) | (have H2_ := (Option.bind_some _ _).symm.trans H; with_reducible exact H2_) | with_reducible exact H | (rw [hy262]; exact H) | exact H
             have Ny262 := Aside0.mk hy262
             clear hy262
             by_cases c217 : x10_3 = 0
             ·rw [if_pos c217] at H
              have c217b0 : (x10_3 == 0) = true := beq_iff_eq.mpr c217
              have c217b1 : (x10_3 != 0) = false := bne_eq_false_iff_eq.mpr c217
              clear c217
              have H' := Aside0.mk H
              clear H
              have p261 : 0 ≤ (x10_3 : Int) := of_decide_eq_true (by first | (with_reducible assumption) | assumption)
              have q261 : x10_3 < (t245.length : Int) := of_decide_eq_true (by first | (with_reducible assumption) | assumption)
              obtain ⟨ad261, e261, hx261_0⟩ := Kd.at_int (Kd.R_reads' HO_7.out).2.2 x10_3 p261 q261
              cases e261
              replace p261 := eq_true p261
              replace q261 := eq_true q261
              have p216 : 0 ≤ ((rd t245 x10_3) : Int) := of_decide_eq_true (by first | (with_reducible assumption) | assumption)
              have q216 : ((rd t245 x10_3) : Int) < ((x9_3.length : Int) : Int) := of_decide_eq_true (by first | (with_reducible assumption) | assumption)
              obtain ⟨go216, co216, eo216, gb216, gl216, cl216, HG216⟩ := Kd.R_form HO_9.out (by omega)
              (first | cases eo216 | (injection eo216 with ea_ en_ ec_; (first | subst ea_ | (injection ea_ with ea_; subst ea_)); subst ec_; clear en_))
              have GB216 := Aside0.mk gb216
              have GG216 := Aside0.mk HG216
              clear gb216 gl216 HG216
              obtain ⟨hx216_0, hf216_0⟩ := Kd.R_celln false HO_9.out ((rd t245 x10_3) : Int) p216 q216
              replace p216 := eq_true p216
              replace q216 := eq_true q216
              have HP218 := Kd.R_putg HO_9.out ((rd t245 x10_3) : Int) true
              go_wp2_with (first | ((with_reducible refine gate_store (t := 4) (p := 118) rfl ?_); refine store_event (t := 4) (p := 118) (v := ?vo_w219) (w1 := (wc.setCell ⟨go216, ((rd t245 x10_3) : Int).toNat, none⟩ (.bool true))) ?hg ?ho ?hn ?hr ?_; (case ho => rfl); (case hg => rfl); (case hn => rfl); (case hr => first | (go_simp; done) | (go_simp; rfl)); intro w219 hw; have hg : wc.grownBy w219 (some go216) := (by rw [hw]; exact HP218.2); have hp_ : Kd.R Kd.bool 4 w219 w.heap.size (fun _ => True) (.slice (some ⟨go216, 0, none⟩) x9_3.length co216) y262 := (by rw [hw, Ny262.out]; exact HP218.1); clear HP218; have n0_ := Aside0.mk (Kd.R_over' (v := (.slice (some ⟨go216, 0, none⟩) x9_3.length co216)) (by (with_reducible repeat (first | apply Kd.R_alloc | apply Kd.R_drewN | apply Kd.R_drew)); exact HO_5.out) (Kd.R_typed HO_9.out) (by decide) hg); have n1_ := Aside0.mk (Kd.R_over' (v := (.slice (some ⟨go216, 0, none⟩) x9_3.length co216)) (by (with_reducible repeat (first | apply Kd.R_alloc | apply Kd.R_drewN | apply Kd.R_drew)); exact HO_7.out) (Kd.R_typed HO_9.out) (by decide) hg); have n2_ := Aside0.mk (Kd.R_over' (v := (.slice (some ⟨go216, 0, none⟩) x9_3.length co216)) (by (with_reducible repeat (first | apply Kd.R_alloc | apply Kd.R_drewN | apply Kd.R_drew)); exact HO_8.out) (Kd.R_typed HO_9.out) (by decide) hg); have n3_ := Aside0.mk (hp_); have n4_ := Aside0.mk ((by rw [hw]; exact below_set (HB.out) GB216.out : Below w.heap.size w w219)); clear HO_5; clear HO_7; clear HO_8; clear HO_9; clear HB; have HO_5 := n0_; have HO_7 := n1_; have HO_8 := n2_; have HO_9 := n3_; have HB := n4_; clear n0_ n1_ n2_ n3_ n4_; clear hg hw hp_))
              go_roundg kj196
              case measure => have := HK1.out; have := HJ177.out; have := HK3.out; have := HJ196.out; omega
              case rel => exact ⟨(y262), (wrap64 (x10_3 + 1)), (by first | rfl | (simp; done) | (simp [*]; done)), H', ⟨by have := HK1.out; have := HJ177.out; have := HK3.out; have := HJ196.out; omega⟩, ⟨by (with_reducible repeat (first | apply Kd.R_alloc | apply Kd.R_drewN | apply Kd.R_drew)); exact HO_5.out⟩, ⟨by (with_reducible repeat (first | apply Kd.R_alloc | apply Kd.R_drewN | apply Kd.R_drew)); exact HO_7.out⟩, ⟨by (with_reducible repeat (first | apply Kd.R_alloc | apply Kd.R_drewN | apply Kd.R_drew)); exact HO_8.out⟩, ⟨by (with_reducible repeat (first | apply Kd.R_alloc | apply Kd.R_drewN | apply Kd.R_drew)); exact HO_9.out⟩, ⟨by repeat (first | (with_reducible first | exact HB.out | apply below_alloc | apply pw_below_drewN | apply below_drew1) | exact HB.out)⟩⟩
             rw [if_neg c217] at H
             have c217b0 : (x10_3 == 0) = false := beq_eq_false_iff_ne.mpr c217
             have c217b1 : (x10_3 != 0) = true := bne_iff_ne.mpr c217
             obtain ⟨ji220, hji220⟩ : ∃ j_ : Int, (wrap64 (x10_3 - 1)) = j_ := ⟨_, rfl⟩
             replace H : (if 0 ≤ (ji220) then (if (ji220) < (t245.length : Int) then (if 0 ≤ (rd t245 (ji220)) then (if (rd t245 (ji220)) < (x5_1.length : Int) then (if (rd t245 x10_3) < (x5_1.length : Int) then (if (ji220) < (t248.length : Int) then (if 0 ≤ (rd t248 (ji220)) then (if (rd t248 (ji220)) < (x5_1.length : Int) then (if x10_3 < (t248.length : Int) then (if 0 ≤ (rd t248 x10_3) then (if (rd t248 x10_3) < (x5_1.length : Int) then (if ((rd_T33 x5_1 (rd t245 (ji220))).f0) > ((rd_T33 x5_1 (rd t245 x10_3)).f0) then (scarflaw03_RankBy.j9 kj196 x5_1 t245 t248 y262 x10_3 true) else (if ((rd_T33 x5_1 (rd t245 (ji220))).f0) = ((rd_T33 x5_1 (rd t245 x10_3)).f0) then (if ((rd_T33 x5_1 (rd t245 (ji220))).f1) ≥ ((rd_T33 x5_1 (rd t245 x10_3)).f1) then (scarflaw03_RankBy.j9 kj196 x5_1 t245 t248 y262 x10_3 true) else (if ((rd_T33 x5_1 (rd t248 (ji220))).f0) < ((rd_T33 x5_1 (rd t248 x10_3)).f0) then (scarflaw03_RankBy.j9 kj196 x5_1 t245 t248 y262 x10_3 true) else (if ((rd_T33 x5_1 (rd t248 (ji220))).f0) = ((rd_T33 x5_1 (rd t248 x10_3)).f0) then (scarflaw03_RankBy.j9 kj196 x5_1 t245 t248 y262 x10_3 (decide (((rd_T33 x5_1 (rd t248 (ji220))).f1) ≥ ((rd_T33 x5_1 (rd t248 x10_3)).f1)))) else (scarflaw03_RankBy.j9 kj196 x5_1 t245 t248 y262 x10_3 false)))) else (if ((rd_T33 x5_1 (rd t248 (ji220))).f0) < ((rd_T33 x5_1 (rd t248 x10_3)).f0) then (scarflaw03_RankBy.j9 kj196 x5_1 t245 t248 y262 x10_3 true) else (if ((rd_T33 x5_1 (rd t248 (ji220))).f0) = ((rd_T33 x5_1 (rd t248 x10_3)).f0) then (scarflaw03_RankBy.j9 kj196 x5_1 t245 t248 y262 x10_3 (decide (((rd_T33 x5_1 (rd t248 (ji220))).f1) ≥ ((rd_T33 x5_1 (rd t248 x10_3)).f1)))) else (scarflaw03_RankBy.j9 kj196 x5_1 t245 t248 y262 x10_3 false))))) else (none)) else (none)) else (none)) else (none)) else (none)) else (none)) else (none)) else (none)) else (none)) else (none)) else (none)) = some r := by first | (rw [hji220] at H; exact H) | (simp only [hji220] at H ⊢; exact H)
             have hji220w : (IntKind.i64.wrap (x10_3 - 1)) = ji220 := (i64_w _).trans hji220
             by_cases c221 : 0 ≤ (ji220)
             rotate_left
             ·rw [if_neg c221] at H
              exact absurd H (by simp)
             rw [if_pos c221] at H
             have c221b0 : decide (0 ≤ (ji220)) = true := decide_eq_true c221
             clear c221
             by_cases c222 : (ji220) < (t245.length : Int)
             rotate_left
             ·rw [if_neg c222] at H
              exact absurd H (by simp)
             rw [if_pos c222] at H
             have c222b0 : decide ((ji220) < (t245.length : Int)) = true := decide_eq_true c222
             clear c222
             by_cases c223 : 0 ≤ (rd t245 (ji220))
             rotate_left
             ·rw [if_neg c223] at H
              exact absurd H (by simp)
             rw [if_pos c223] at H
             have c223b0 : decide (0 ≤ (rd t245 (ji220))) = true := decide_eq_true c223
             clear c223
             by_cases c224 : (rd t245 (ji220)) < (x5_1.length : Int)
             rotate_left
             ·rw [if_neg c224] at H
              exact absurd H (by simp)
             rw [if_pos c224] at H
             have c224b0 : decide ((rd t245 (ji220)) < (x5_1.length : Int)) = true := decide_eq_true c224
             clear c224
             by_cases c225 : (rd t245 x10_3) < (x5_1.length : Int)
             rotate_left
             ·rw [if_neg c225] at H
              exact absurd H (by simp)
             rw [if_pos c225] at H
             have c225b0 : decide ((rd t245 x10_3) < (x5_1.length : Int)) = true := decide_eq_true c225
             clear c225
             by_cases c226 : (ji220) < (t248.length : Int)
             rotate_left
             ·rw [if_neg c226] at H
              exact absurd H (by simp)
             rw [if_pos c226] at H
             have c226b0 : decide ((ji220) < (t248.length : Int)) = true := decide_eq_true c226
             clear c226
             by_cases c227 : 0 ≤ (rd t248 (ji220))
             rotate_left
             ·rw [if_neg c227] at H
              exact absurd H (by simp)
             rw [if_pos c227] at H
             have c227b0 : decide (0 ≤ (rd t248 (ji220))) = true := decide_eq_true c227
             clear c227
             by_cases c228 : (rd t248 (ji220)) < (x5_1.length : Int)
             rotate_left
             ·rw [if_neg c228] at H
              exact absurd H (by simp)
             rw [if_pos c228] at H
             have c228b0 : decide ((rd t248 (ji220)) < (x5_1.length : Int)) = true := decide_eq_true c228
             clear c228
             by_cases c229 : x10_3 < (t248.length : Int)
             rotate_left
             ·rw [if_neg c229] at H
              exact absurd H (by simp)
             rw [if_pos c229] at H
             have c229b0 : decide (x10_3 < (t248.length : Int)) = true := decide_eq_true c229
             clear c229
             by_cases c230 : 0 ≤ (rd t248 x10_3)
             rotate_left
             ·rw [if_neg c230] at H
              exact absurd H (by simp)
             rw [if_pos c230] at H
             have c230b0 : decide (0 ≤ (rd t248 x10_3)) = true := decide_eq_true c230
             clear c230
             by_cases c231 : (rd t248 x10_3) < (x5_1.length : Int)
             rotate_left
             ·rw [if_neg c231] at H
              exact absurd H (by simp)
             rw [if_pos c231] at H
             have c231b0 : decide ((rd t248 x10_3) < (x5_1.length : Int)) = true := decide_eq_true c231
             clear c231
             have HC232 := Aside0.mk H
             clear H
             have p261 : 0 ≤ (x10_3 : Int) := of_decide_eq_true (by first | (with_reducible assumption) | assumption)
             have q261 : x10_3 < (t245.length : Int) := of_decide_eq_true (by first | (with_reducible assumption) | assumption)
             obtain ⟨ad261, e261, hx261_0⟩ := Kd.at_int (Kd.R_reads' HO_7.out).2.2 x10_3 p261 q261
             cases e261
             replace p261 := eq_true p261
             replace q261 := eq_true q261
             have p216 : 0 ≤ ((rd t245 x10_3) : Int) := of_decide_eq_true (by first | (with_reducible assumption) | assumption)
             have q216 : ((rd t245 x10_3) : Int) < ((x9_3.length : Int) : Int) := of_decide_eq_true (by first | (with_reducible assumption) | assumption)
             obtain ⟨go216, co216, eo216, gb216, gl216, cl216, HG216⟩ := Kd.R_form HO_9.out (by omega)
             (first | cases eo216 | (injection eo216 with ea_ en_ ec_; (first | subst ea_ | (injection ea_ with ea_; subst ea_)); subst ec_; clear en_))
             have GB216 := Aside0.mk gb216
             have GG216 := Aside0.mk HG216
             clear gb216 gl216 HG216
             obtain ⟨hx216_0, hf216_0⟩ := Kd.R_celln false HO_9.out ((rd t245 x10_3) : Int) p216 q216
             replace p216 := eq_true p216
             replace q216 := eq_true q216
             have HP233 := Kd.R_putg HO_9.out ((rd t245 x10_3) : Int) true
             try go_wp2_with (first | ((with_reducible refine gate_store (t := 4) (p := 118) rfl ?_); refine store_event (t := 4) (p := 118) (v := ?vo_w234) (w1 := (wc.setCell ⟨go216, ((rd t245 x10_3) : Int).toNat, none⟩ (.bool true))) ?hg ?ho ?hn ?hr ?_; (case ho => rfl); (case hg => rfl); (case hn => rfl); (case hr => first | (go_simp; done) | (go_simp; rfl)); intro w234 hw; have hg : wc.grownBy w234 (some go216) := (by rw [hw]; exact HP233.2); have hp_ : Kd.R Kd.bool 4 w234 w.heap.size (fun _ => True) (.slice (some ⟨go216, 0, none⟩) x9_3.length co216) y262 := (by rw [hw, Ny262.out]; exact HP233.1); clear HP233; have n0_ := Aside0.mk (Kd.R_over' (v := (.slice (some ⟨go216, 0, none⟩) x9_3.length co216)) (by (with_reducible repeat (first | apply Kd.R_alloc | apply Kd.R_drewN | apply Kd.R_drew)); exact HO_5.out) (Kd.R_typed HO_9.out) (by decide) hg); have n1_ := Aside0.mk (Kd.R_over' (v := (.slice (some ⟨go216, 0, none⟩) x9_3.length co216)) (by (with_reducible repeat (first | apply Kd.R_alloc | apply Kd.R_drewN | apply Kd.R_drew)); exact HO_7.out) (Kd.R_typed HO_9.out) (by decide) hg); have n2_ := Aside0.mk (Kd.R_over' (v := (.slice (some ⟨go216, 0, none⟩) x9_3.length co216)) (by (with_reducible repeat (first | apply Kd.R_alloc | apply Kd.R_drewN | apply Kd.R_drew)); exact HO_8.out) (Kd.R_typed HO_9.out) (by decide) hg); have n3_ := Aside0.mk (hp_); have n4_ := Aside0.mk ((by rw [hw]; exact below_set (HB.out) GB216.out : Below w.heap.size w w234)); clear HO_5; clear HO_7; clear HO_8; clear HO_9; clear HB; have HO_5 := n0_; have HO_7 := n1_; have HO_8 := n2_; have HO_9 := n3_; have HB := n4_; clear n0_ n1_ n2_ n3_ n4_; clear hg hw hp_))
             have n0_ := Aside0.mk (Kd.R_drew HO_5.out)
             have n1_ := Aside0.mk (Kd.R_drew HO_7.out)
             have n2_ := Aside0.mk (Kd.R_drew HO_8.out)
             have n3_ := Aside0.mk (Kd.R_drew HO_9.out)
             have n4_ := Aside0.mk (below_drew1 HB.out)
             clear HO_5
             clear HO_7
             clear HO_8
             clear HO_9
             clear HB
             have HO_5 := n0_
             have HO_7 := n1_
             have HO_8 := n2_
             have HO_9 := n3_
             have HB := n4_
             clear n0_ n1_ n2_ n3_ n4_
             have p263 : 0 ≤ ((ji220) : Int) := of_decide_eq_true (by first | (with_reducible assumption) | assumption)
             have q263 : (ji220) < (t245.length : Int) := of_decide_eq_true (by first | (with_reducible assumption) | assumption)
             obtain ⟨ad263, e263, hx263_0⟩ := Kd.at_int (Kd.R_reads' HO_7.out).2.2 (ji220) p263 q263
             obtain rfl : ad261 = ad263 := (by injection e263)
             replace p263 := eq_true p263
             replace q263 := eq_true q263
             have p264 : 0 ≤ ((rd t245 (ji220)) : Int) := of_decide_eq_true (by first | (with_reducible assumption) | assumption)
             have q264 : (rd t245 (ji220)) < (x5_1.length : Int) := of_decide_eq_true (by first | (with_reducible assumption) | assumption)
             obtain ⟨ad264, e264, hx264_0, hx264_1⟩ := at_T33 (Kd.R_reads' HO_5.out).2.2 (rd t245 (ji220)) p264 q264
             cases e264
             replace p264 := eq_true p264
             replace q264 := eq_true q264
             have p265 : 0 ≤ (x10_3 : Int) := of_decide_eq_true (by first | (with_reducible assumption) | assumption)
             have q265 : x10_3 < (t245.length : Int) := of_decide_eq_true (by first | (with_reducible assumption) | assumption)
             obtain ⟨ad265, e265, hx265_0⟩ := Kd.at_int (Kd.R_reads' HO_7.out).2.2 x10_3 p265 q265
             obtain rfl : ad261 = ad265 := (by injection e265)
             replace p265 := eq_true p265
             replace q265 := eq_true q265
             have p266 : 0 ≤ ((rd t245 x10_3) : Int) := of_decide_eq_true (by first | (with_reducible assumption) | assumption)
             have q266 : (rd t245 x10_3) < (x5_1.length : Int) := of_decide_eq_true (by first | (with_reducible assumption) | assumption)
             obtain ⟨ad266, e266, hx266_0, hx266_1⟩ := at_T33 (Kd.R_reads' HO_5.out).2.2 (rd t245 x10_3) p266 q266
             obtain rfl : ad264 = ad266 := (by injection e266)
             replace p266 := eq_true p266
             replace q266 := eq_true q266
             refine start_ (n := 19) (S := fun w' => w'.cell? (ad261.add ((ji220)).toNat) = some (.int .i64 (rd t245 (ji220))) ∧ w'.cell? (ad264.add (((rd t245 (ji220))).toNat * 2)) = some (.int .i64 ((rd_T33 x5_1 (rd t245 (ji220))).f0)) ∧ w'.cell? ⟨(ad264.add (((rd t245 (ji220))).toNat * 2)).block, (ad264.add (((rd t245 (ji220))).toNat * 2)).off + 1, none⟩ = some (.int .i64 ((rd_T33 x5_1 (rd t245 (ji220))).f1)) ∧ w'.cell? (ad261.add (x10_3).toNat) = some (.int .i64 (rd t245 x10_3)) ∧ w'.cell? (ad264.add (((rd t245 x10_3)).toNat * 2)) = some (.int .i64 ((rd_T33 x5_1 (rd t245 x10_3)).f0)) ∧ w'.cell? ⟨(ad264.add (((rd t245 x10_3)).toNat * 2)).block, (ad264.add (((rd t245 x10_3)).toNat * 2)).off + 1, none⟩ = some (.int .i64 ((rd_T33 x5_1 (rd t245 x10_3)).f1))) (ds := []) #[false, false, false, false, false, false, false, false, false, false, false, false, false, false, false, false, false, false, false] (by kernel_rfl) rfl rfl ⟨hx263_0, hx264_0, hx264_1, hx265_0, hx266_0, hx266_1⟩ (fun hHeld => ?_); refine with_tabW scarflaw03_RankBy.tab21 scarflaw03_RankBy.bits21 (fun HT_ HW_ => ?_)
             generalize w234.drew = w235 at HO_5 HO_7 HO_8 HO_9 HB hx263_0 hx264_0 hx264_1 hx265_0 hx266_0 hx266_1 hHeld ⊢
             refine pure_ (i := 0) (N := some 121) (v := ?_) (a' := ?_) #[true, false, false, false, false, false, false, false, false, false, false, false, false, false, false, false, false, false, false] rfl rfl (any_of HT_.out (by kernel_rfl)) (fun _ _ _ h => h) (Or.inl ⟨by rfl, ?_⟩) ?_ ?_
             rotate_left
             ·intro w'
              go_simp
              with_reducible rfl
             rotate_left
             ·simp only [Act.put, List.setIfInBounds_toArray, List.set_cons_zero, List.set_cons_succ, i64_w, i32_w]
              rfl
             refine pure_ (i := 1) (N := some 122) (v := ?_) (a' := ?_) #[true, true, false, false, false, false, false, false, false, false, false, false, false, false, false, false, false, false, false] rfl rfl (any_of HT_.out (by kernel_rfl)) (fun _ _ _ h => h) (Or.inl ⟨by rfl, ?_⟩) ?_ ?_
             rotate_left
             ·intro w'
              go_simp
              with_reducible rfl
             rotate_left
             ·simp only [Act.put, List.setIfInBounds_toArray, List.set_cons_zero, List.set_cons_succ, i64_w, i32_w]
              rfl
             refine pure_ (i := 2) (N := some 123) (v := ?_) (a' := ?_) #[true, true, true, false, false, false, false, false, false, false, false, false, false, false, false, false, false, false, false] rfl rfl (any_of HT_.out (by kernel_rfl)) (fun _ _ _ h => h) (Or.inl ⟨by rfl, ?_⟩) ?_ ?_
             rotate_left
             ·intro w'
              go_simp
              with_reducible rfl
             rotate_left
             ·simp only [Act.put, List.setIfInBounds_toArray, List.set_cons_zero, List.set_cons_succ, i64_w, i32_w]
              rfl
             refine pure_ (i := 3) (N := some 124) (v := ?_) (a' := ?_) #[true, true, true, true, false, false, false, false, false, false, false, false, false, false, false, false, false, false, false] rfl rfl (any_of HT_.out (by kernel_rfl)) (fun _ _ _ h => h) (Or.inl ⟨by rfl, ?_⟩) ?_ ?_
             rotate_left
             ·intro w'
              go_simp
              with_reducible rfl
             rotate_left
             ·simp only [Act.put, List.setIfInBounds_toArray, List.set_cons_zero, List.set_cons_succ, i64_w, i32_w]
              rfl
             refine pure_ (i := 4) (N := some 125) (v := ?_) (a' := ?_) #[true, true, true, true, true, false, false, false, false, false, false, false, false, false, false, false, false, false, false] rfl rfl (any_of HT_.out (by kernel_rfl)) (fun _ _ _ h => h) (Or.inl ⟨by rfl, ?_⟩) ?_ ?_
             rotate_left
             ·intro w'
              go_simp
              with_reducible rfl
             rotate_left
             ·simp only [Act.put, List.setIfInBounds_toArray, List.set_cons_zero, List.set_cons_succ, i64_w, i32_w]
              rfl
             refine pure_ (i := 8) (N := some 129) (v := ?_) (a' := ?_) #[true, true, true, true, true, false, false, false, true, false, false, false, false, false, false, false, false, false, false] rfl rfl (any_of HT_.out (by kernel_rfl)) (fun _ _ _ h => h) (Or.inl ⟨by rfl, ?_⟩) ?_ ?_
             rotate_left
             ·intro w'
              go_simp
              with_reducible rfl
             rotate_left
             ·simp only [Act.put, List.setIfInBounds_toArray, List.set_cons_zero, List.set_cons_succ, i64_w, i32_w]
              rfl
             refine pure_ (i := 9) (N := some 130) (v := ?_) (a' := ?_) #[true, true, true, true, true, false, false, false, true, true, false, false, false, false, false, false, false, false, false] rfl rfl (any_of HT_.out (by kernel_rfl)) (fun _ _ _ h => h) (Or.inl ⟨by rfl, ?_⟩) ?_ ?_
             rotate_left
             ·intro w'
              go_simp
              with_reducible rfl
             rotate_left
             ·simp only [Act.put, List.setIfInBounds_toArray, List.set_cons_zero, List.set_cons_succ, i64_w, i32_w]
              rfl
             refine pure_ (i := 10) (N := some 131) (v := ?_) (a' := ?_) #[true, true, true, true, true, false, false, false, true, true, true, false, false, false, false, false, false, false, false] rfl rfl (any_of HT_.out (by kernel_rfl)) (fun _ _ _ h => h) (Or.inl ⟨by rfl, ?_⟩) ?_ ?_
             rotate_left
             ·intro w'
              go_simp
              with_reducible rfl
             rotate_left
             ·simp only [Act.put, List.setIfInBounds_toArray, List.set_cons_zero, List.set_cons_succ, i64_w, i32_w]
              rfl
             refine pure_ (i := 11) (N := some 132) (v := ?_) (a' := ?_) #[true, true, true, true, true, false, false, false, true, true, true, true, false, false, false, false, false, false, false] rfl rfl (any_of HT_.out (by kernel_rfl)) (fun _ _ _ h => h) (Or.inl ⟨by rfl, ?_⟩) ?_ ?_
             rotate_left
             ·intro w'
              go_simp
              with_reducible rfl
             rotate_left
             ·simp only [Act.put, List.setIfInBounds_toArray, List.set_cons_zero, List.set_cons_succ, i64_w, i32_w]
              rfl
             refine take_ (i := 5) (N := some 126) (v := ?_) (a' := ?_) #[true, true, true, true, true, true, false, false, true, true, true, true, false, false, false, false, false, false, false] rfl rfl (take_ofW HT_.out HW_.out (by kernel_rfl)) (fun _ _ _ h => h) (Or.inl ⟨by rfl, ?_⟩) hHeld ?_ ?_
             rotate_left
             ·rintro w' ⟨s0, s1, s2, s3, s4, s5⟩
              go_simp
              with_reducible rfl
             rotate_left
             ·simp only [Act.put, List.setIfInBounds_toArray, List.set_cons_zero, List.set_cons_succ, i64_w, i32_w]
              rfl
             refine pure_ (i := 6) (N := some 127) (v := ?_) (a' := ?_) #[true, true, true, true, true, true, true, false, true, true, true, true, false, false, false, false, false, false, false] rfl rfl (any_of HT_.out (by kernel_rfl)) (fun _ _ _ h => h) (Or.inl ⟨by rfl, ?_⟩) ?_ ?_
             rotate_left
             ·intro w'
              go_simp
              with_reducible rfl
             rotate_left
             ·simp only [Act.put, List.setIfInBounds_toArray, List.set_cons_zero, List.set_cons_succ, i64_w, i32_w]
              rfl
             refine take_ (i := 7) (N := some 128) (v := ?_) (a' := ?_) #[true, true, true, true, true, true, true, true, true, true, true, true, false, false, false, false, false, false, false] rfl rfl (take_ofW HT_.out HW_.out (by kernel_rfl)) (fun _ _ _ h => h) (Or.inl ⟨by rfl, ?_⟩) hHeld ?_ ?_
             rotate_left
             ·rintro w' ⟨s0, s1, s2, s3, s4, s5⟩
              go_simp
              with_reducible rfl
             rotate_left
             ·simp only [Act.put, List.setIfInBounds_toArray, List.set_cons_zero, List.set_cons_succ, i64_w, i32_w]
              rfl
             refine take_ (i := 12) (N := some 133) (v := ?_) (a' := ?_) #[true, true, true, true, true, true, true, true, true, true, true, true, true, false, false, false, false, false, false] rfl rfl (take_ofW HT_.out HW_.out (by kernel_rfl)) (fun _ _ _ h => h) (Or.inl ⟨by rfl, ?_⟩) hHeld ?_ ?_
             rotate_left
             ·rintro w' ⟨s0, s1, s2, s3, s4, s5⟩
              go_simp
              with_reducible rfl
             rotate_left
             ·simp only [Act.put, List.setIfInBounds_toArray, List.set_cons_zero, List.set_cons_succ, i64_w, i32_w]
              rfl
             refine pure_ (i := 13) (N := some 134) (v := ?_) (a' := ?_) #[true, true, true, true, true, true, true, true, true, true, true, true, true, true, false, false, false, false, false] rfl rfl (any_of HT_.out (by kernel_rfl)) (fun _ _ _ h => h) (Or.inl ⟨by rfl, ?_⟩) ?_ ?_
             rotate_left
             ·intro w'
              go_simp
              with_reducible rfl
             rotate_left
             ·simp only [Act.put, List.setIfInBounds_toArray, List.set_cons_zero, List.set_cons_succ, i64_w, i32_w]
              rfl
             refine take_ (i := 14) (N := some 135) (v := ?_) (a' := ?_) #[true, true, true, true, true, true, true, true, true, true, true, true, true, true, true, false, false, false, false] rfl rfl (take_ofW HT_.out HW_.out (by kernel_rfl)) (fun _ _ _ h => h) (Or.inl ⟨by rfl, ?_⟩) hHeld ?_ ?_
             rotate_left
             ·rintro w' ⟨s0, s1, s2, s3, s4, s5⟩
              go_simp
              with_reducible rfl
             rotate_left
             ·simp only [Act.put, List.setIfInBounds_toArray, List.set_cons_zero, List.set_cons_succ, i64_w, i32_w]
              rfl
             refine join_ (σ := Nat × Nat) 2 #[true, true, true, true, true, true, true, true, true, true, true, true, true, true, true, true, true, false, false] (fun s_ => [(11, .pointer (some ⟨s_.1, 0, none⟩)), (12, .pointer (some ⟨s_.2, 0, none⟩))]) (fun s_ w' => (w'.cell? (ad261.add ((ji220)).toNat) = some (.int .i64 (rd t245 (ji220))) ∧ w'.cell? (ad264.add (((rd t245 (ji220))).toNat * 2)) = some (.int .i64 ((rd_T33 x5_1 (rd t245 (ji220))).f0)) ∧ w'.cell? ⟨(ad264.add (((rd t245 (ji220))).toNat * 2)).block, (ad264.add (((rd t245 (ji220))).toNat * 2)).off + 1, none⟩ = some (.int .i64 ((rd_T33 x5_1 (rd t245 (ji220))).f1)) ∧ w'.cell? (ad261.add (x10_3).toNat) = some (.int .i64 (rd t245 x10_3)) ∧ w'.cell? (ad264.add (((rd t245 x10_3)).toNat * 2)) = some (.int .i64 ((rd_T33 x5_1 (rd t245 x10_3)).f0)) ∧ w'.cell? ⟨(ad264.add (((rd t245 x10_3)).toNat * 2)).block, (ad264.add (((rd t245 x10_3)).toNat * 2)).off + 1, none⟩ = some (.int .i64 ((rd_T33 x5_1 (rd t245 x10_3)).f1))) ∧ (Kd.R k33 33 w' w.heap.size (fun k_ => k_ ≠ s_.1 ∧ k_ ≠ s_.2) (.slice (some ad264) x5_1.length co179) x5_1) ∧ (Kd.R (Kd.int .i64) 3 w' w.heap.size (fun k_ => some k_ ≠ (v249 : Value).ownBlock) (.slice (some ad261) t245.length co198) t245) ∧ (Kd.R (Kd.int .i64) 3 w' w.heap.size (fun k_ => some k_ ≠ (.slice (some ad261) t245.length co198 : Value).ownBlock) v249 t248) ∧ (Kd.R Kd.bool 4 w' w.heap.size (fun _ => True) (.slice (some ⟨go216, 0, none⟩) x9_3.length co216) y262) ∧ (w'.heap[s_.1]? = some (.cells #[.int .i64 0, .int .i64 0] 33 (0, 0))) ∧ (w'.heap[s_.2]? = some (.cells #[.int .i64 0, .int .i64 0] 33 (0, 0))) ∧ (w.heap.size ≤ s_.1) ∧ (w.heap.size ≤ s_.1) ∧ (s_.2 ≠ s_.1) ∧ (s_.1 ≠ s_.2) ∧ (w.heap.size ≤ s_.2) ∧ (w.heap.size ≤ s_.2) ∧ (Below w.heap.size w w')) ?_ ?_
             rotate_left
             ·intro hCont
              refine two_ (i := 15) (j := 16) (Ni := some 11) (Nj := some 12) #[true, true, true, true, true, true, true, true, true, true, true, true, true, true, true, true, false, false, false] #[true, true, true, true, true, true, true, true, true, true, true, true, true, true, true, false, true, false, false] rfl rfl rfl rfl (two_of HT_.out (by kernel_rfl)) (by decide) (by decide) (fun K hK => ?_) (fun K hK => ?_)
              ·skip
               refine box_step ?hg (N := 11) ?hd (cs := #[.int .i64 0, .int .i64 0]) (t := 33) ?hr ?_; (case hd => rfl); (case hg => rfl); (case hr => first | (go_simp; done) | (go_simp; rfl))
               intro gb267 hg w236 hbox hb
               have HS0_ := (hb.cell (World.block_lt_of_cell? _ _ (hHeld.1))).trans (hHeld.1)
               have HS1_ := (hb.cell (World.block_lt_of_cell? _ _ (hHeld.2.1))).trans (hHeld.2.1)
               have HS2_ := (hb.cell (World.block_lt_of_cell? _ _ (hHeld.2.2.1))).trans (hHeld.2.2.1)
               have HS3_ := (hb.cell (World.block_lt_of_cell? _ _ (hHeld.2.2.2.1))).trans (hHeld.2.2.2.1)
               have HS4_ := (hb.cell (World.block_lt_of_cell? _ _ (hHeld.2.2.2.2.1))).trans (hHeld.2.2.2.2.1)
               have HS5_ := (hb.cell (World.block_lt_of_cell? _ _ (hHeld.2.2.2.2.2))).trans (hHeld.2.2.2.2.2)
               have n0_ := Aside0.mk (Kd.R_below (Kd.R_elderB (by (with_reducible repeat (first | apply Kd.R_alloc | apply Kd.R_drewN | apply Kd.R_drew)); exact HO_5.out) gb267 (Nat.le_of_eq hg.symm)) hb)
               have n1_ := Aside0.mk (Kd.R_below (by (with_reducible repeat (first | apply Kd.R_alloc | apply Kd.R_drewN | apply Kd.R_drew)); exact HO_7.out) hb)
               have n2_ := Aside0.mk (Kd.R_below (by (with_reducible repeat (first | apply Kd.R_alloc | apply Kd.R_drewN | apply Kd.R_drew)); exact HO_8.out) hb)
               have n3_ := Aside0.mk (Kd.R_below (by (with_reducible repeat (first | apply Kd.R_alloc | apply Kd.R_drewN | apply Kd.R_drew)); exact HO_9.out) hb)
               have n4_ := Aside0.mk (below_step (by repeat (first | (with_reducible first | exact HB.out | apply below_alloc | apply pw_below_drewN | apply below_drew1) | exact HB.out)) hb)
               have n5_ := Aside0.mk (hbox)
               have n6_ := Aside0.mk ((by rw [hg]; exact (below_size (by repeat (first | (with_reducible first | exact HB.out | apply below_alloc | apply pw_below_drewN | apply below_drew1) | exact HB.out))) : w.heap.size ≤ gb267))
               have n7_ := Aside0.mk ((by rw [hg]; exact (below_size (by repeat (first | (with_reducible first | exact HB.out | apply below_alloc | apply pw_below_drewN | apply below_drew1) | exact HB.out))) : w.heap.size ≤ gb267))
               clear HO_5
               clear HO_7
               clear HO_8
               clear HO_9
               clear HB
               have HO_5 := n0_
               have HO_7 := n1_
               have HO_8 := n2_
               have HO_9 := n3_
               have HB := n4_
               have BK267 := n5_
               have GW267 := n6_
               have GE267 := n7_
               clear n0_ n1_ n2_ n3_ n4_ n5_ n6_ n7_
               clear hb hbox hg
               refine hK.out _ _ ⟨HS0_, HS1_, HS2_, HS3_, HS4_, HS5_⟩ (fun hHeld => ?_)
               clear hK K
               refine norm_ (a' := ?_) ?_ ?_
               rotate_left
               ·show Act.put _ (some 11) _ = _
                simp only [Act.put, List.setIfInBounds_toArray, List.set_cons_zero, List.set_cons_succ, i64_w, i32_w]
                rfl
               refine one_ (i := 16) (N := some 12) #[true, true, true, true, true, true, true, true, true, true, true, true, true, true, true, true, true, false, false] rfl rfl (one_of HT_.out (by kernel_rfl)) (by decide) (fun K hK => ?_)
               refine box_step ?hg (N := 12) ?hd (cs := #[.int .i64 0, .int .i64 0]) (t := 33) ?hr ?_; (case hd => rfl); (case hg => rfl); (case hr => first | (go_simp; done) | (go_simp; rfl))
               intro gb268 hg w237 hbox hb
               have HS0_ := (hb.cell (World.block_lt_of_cell? _ _ (hHeld.1))).trans (hHeld.1)
               have HS1_ := (hb.cell (World.block_lt_of_cell? _ _ (hHeld.2.1))).trans (hHeld.2.1)
               have HS2_ := (hb.cell (World.block_lt_of_cell? _ _ (hHeld.2.2.1))).trans (hHeld.2.2.1)
               have HS3_ := (hb.cell (World.block_lt_of_cell? _ _ (hHeld.2.2.2.1))).trans (hHeld.2.2.2.1)
               have HS4_ := (hb.cell (World.block_lt_of_cell? _ _ (hHeld.2.2.2.2.1))).trans (hHeld.2.2.2.2.1)
               have HS5_ := (hb.cell (World.block_lt_of_cell? _ _ (hHeld.2.2.2.2.2))).trans (hHeld.2.2.2.2.2)
               have n0_ := Aside0.mk (Kd.R_below (Kd.R_elderB (by (with_reducible repeat (first | apply Kd.R_alloc | apply Kd.R_drewN | apply Kd.R_drew)); exact HO_5.out) gb268 (Nat.le_of_eq hg.symm)) hb)
               have n1_ := Aside0.mk (Kd.R_below (by (with_reducible repeat (first | apply Kd.R_alloc | apply Kd.R_drewN | apply Kd.R_drew)); exact HO_7.out) hb)
               have n2_ := Aside0.mk (Kd.R_below (by (with_reducible repeat (first | apply Kd.R_alloc | apply Kd.R_drewN | apply Kd.R_drew)); exact HO_8.out) hb)
               have n3_ := Aside0.mk (Kd.R_below (by (with_reducible repeat (first | apply Kd.R_alloc | apply Kd.R_drewN | apply Kd.R_drew)); exact HO_9.out) hb)
               have n4_ := Aside0.mk (blk_below (g := gb267) (o := .cells #[.int .i64 0, .int .i64 0] 33 (0, 0)) (by (with_reducible repeat (first | refine blk_drewN ?_ _ | refine blk_drew ?_ | refine blk_alloc ?_ _)); exact BK267.out) hb)
               have n5_ := Aside0.mk (below_step (by repeat (first | (with_reducible first | exact HB.out | apply below_alloc | apply pw_below_drewN | apply below_drew1 | refine below_set ?_ GE267.out) | exact HB.out)) hb)
               have n6_ := Aside0.mk (hbox)
               have n7_ := Aside0.mk ((by rw [hg]; exact (below_size (by repeat (first | (with_reducible first | exact HB.out | apply below_alloc | apply pw_below_drewN | apply below_drew1 | refine below_set ?_ GE267.out) | exact HB.out))) : w.heap.size ≤ gb268))
               have n8_ := Aside0.mk ((by rw [hg]; exact (below_size (by repeat (first | (with_reducible first | exact HB.out | apply below_alloc | apply pw_below_drewN | apply below_drew1 | refine below_set ?_ GE267.out) | exact HB.out))) : w.heap.size ≤ gb268))
               have n9_ := Aside0.mk ((by rw [hg]; exact Nat.ne_of_lt (blk_lt (g := gb267) (o := .cells #[.int .i64 0, .int .i64 0] 33 (0, 0)) (by (with_reducible repeat (first | refine blk_drewN ?_ _ | refine blk_drew ?_ | refine blk_alloc ?_ _)); exact BK267.out)) : gb267 ≠ gb268))
               have n10_ := Aside0.mk ((by rw [hg]; exact Nat.ne_of_gt (blk_lt (g := gb267) (o := .cells #[.int .i64 0, .int .i64 0] 33 (0, 0)) (by (with_reducible repeat (first | refine blk_drewN ?_ _ | refine blk_drew ?_ | refine blk_alloc ?_ _)); exact BK267.out)) : gb268 ≠ gb267))
               clear HO_5
               clear HO_7
               clear HO_8
               clear HO_9
               clear BK267
               clear HB
               have HO_5 := n0_
               have HO_7 := n1_
               have HO_8 := n2_
               have HO_9 := n3_
               have BK267 := n4_
               have HB := n5_
               have BK268 := n6_
               have GW268 := n7_
               have GE268 := n8_
               have NB267_268 := n9_
               have NB268_267 := n10_
               clear n0_ n1_ n2_ n3_ n4_ n5_ n6_ n7_ n8_ n9_ n10_
               clear hb hbox hg
               refine hK.out _ _ ⟨HS0_, HS1_, HS2_, HS3_, HS4_, HS5_⟩ (fun hHeld => ?_)
               clear hK K
               refine norm_ (a' := ?_) ?_ ?_
               rotate_left
               ·show Act.put _ (some 12) _ = _
                simp only [Act.put, List.setIfInBounds_toArray, List.set_cons_zero, List.set_cons_succ, i64_w, i32_w]
                rfl
               exact norm_ (by simp only [putAll, Act.put, List.setIfInBounds_toArray, List.set_cons_zero, List.set_cons_succ]) (hCont (gb267, gb268) _ ⟨hHeld, (by (with_reducible repeat (first | apply Kd.R_alloc | apply Kd.R_drewN | apply Kd.R_drew)); exact Kd.R_mono HO_5.out (fun _ hk => ⟨hk.1.2, hk.2⟩)), (by (with_reducible repeat (first | apply Kd.R_alloc | apply Kd.R_drewN | apply Kd.R_drew)); exact HO_7.out), (by (with_reducible repeat (first | apply Kd.R_alloc | apply Kd.R_drewN | apply Kd.R_drew)); exact HO_8.out), (by (with_reducible repeat (first | apply Kd.R_alloc | apply Kd.R_drewN | apply Kd.R_drew)); exact HO_9.out), (by (with_reducible repeat (first | refine blk_drewN ?_ _ | refine blk_drew ?_ | refine blk_alloc ?_ _)); exact BK267.out), (by (with_reducible repeat (first | refine blk_drewN ?_ _ | refine blk_drew ?_ | refine blk_alloc ?_ _)); exact BK268.out), GW267.out, GE267.out, NB268_267.out, NB267_268.out, GW268.out, GE268.out, (by repeat (first | (with_reducible first | exact HB.out | apply below_alloc | apply pw_below_drewN | apply below_drew1 | refine below_set ?_ GE267.out | refine below_set ?_ GE268.out) | exact HB.out))⟩)
              ·skip
               refine box_step ?hg (N := 12) ?hd (cs := #[.int .i64 0, .int .i64 0]) (t := 33) ?hr ?_; (case hd => rfl); (case hg => rfl); (case hr => first | (go_simp; done) | (go_simp; rfl))
               intro gb268 hg w236 hbox hb
               have HS0_ := (hb.cell (World.block_lt_of_cell? _ _ (hHeld.1))).trans (hHeld.1)
               have HS1_ := (hb.cell (World.block_lt_of_cell? _ _ (hHeld.2.1))).trans (hHeld.2.1)
               have HS2_ := (hb.cell (World.block_lt_of_cell? _ _ (hHeld.2.2.1))).trans (hHeld.2.2.1)
               have HS3_ := (hb.cell (World.block_lt_of_cell? _ _ (hHeld.2.2.2.1))).trans (hHeld.2.2.2.1)
               have HS4_ := (hb.cell (World.block_lt_of_cell? _ _ (hHeld.2.2.2.2.1))).trans (hHeld.2.2.2.2.1)
               have HS5_ := (hb.cell (World.block_lt_of_cell? _ _ (hHeld.2.2.2.2.2))).trans (hHeld.2.2.2.2.2)
               have n0_ := Aside0.mk (Kd.R_below (Kd.R_elderB (by (with_reducible repeat (first | apply Kd.R_alloc | apply Kd.R_drewN | apply Kd.R_drew)); exact HO_5.out) gb268 (Nat.le_of_eq hg.symm)) hb)
               have n1_ := Aside0.mk (Kd.R_below (by (with_reducible repeat (first | apply Kd.R_alloc | apply Kd.R_drewN | apply Kd.R_drew)); exact HO_7.out) hb)
               have n2_ := Aside0.mk (Kd.R_below (by (with_reducible repeat (first | apply Kd.R_alloc | apply Kd.R_drewN | apply Kd.R_drew)); exact HO_8.out) hb)
               have n3_ := Aside0.mk (Kd.R_below (by (with_reducible repeat (first | apply Kd.R_alloc | apply Kd.R_drewN | apply Kd.R_drew)); exact HO_9.out) hb)
               have n4_ := Aside0.mk (below_step (by repeat (first | (with_reducible first | exact HB.out | apply below_alloc | apply pw_below_drewN | apply below_drew1) | exact HB.out)) hb)
               have n5_ := Aside0.mk (hbox)
               have n6_ := Aside0.mk ((by rw [hg]; exact (below_size (by repeat (first | (with_reducible first | exact HB.out | apply below_alloc | apply pw_below_drewN | apply below_drew1) | exact HB.out))) : w.heap.size ≤ gb268))
               have n7_ := Aside0.mk ((by rw [hg]; exact (below_size (by repeat (first | (with_reducible first | exact HB.out | apply below_alloc | apply pw_below_drewN | apply below_drew1) | exact HB.out))) : w.heap.size ≤ gb268))
               clear HO_5
               clear HO_7
               clear HO_8
               clear HO_9
               clear HB
               have HO_5 := n0_
               have HO_7 := n1_
               have HO_8 := n2_
               have HO_9 := n3_
               have HB := n4_
               have BK268 := n5_
               have GW268 := n6_
               have GE268 := n7_
               clear n0_ n1_ n2_ n3_ n4_ n5_ n6_ n7_
               clear hb hbox hg
               refine hK.out _ _ ⟨HS0_, HS1_, HS2_, HS3_, HS4_, HS5_⟩ (fun hHeld => ?_)
               clear hK K
               refine norm_ (a' := ?_) ?_ ?_
               rotate_left
               ·show Act.put _ (some 12) _ = _
                simp only [Act.put, List.setIfInBounds_toArray, List.set_cons_zero, List.set_cons_succ, i64_w, i32_w]
                rfl
               refine one_ (i := 15) (N := some 11) #[true, true, true, true, true, true, true, true, true, true, true, true, true, true, true, true, true, false, false] rfl rfl (one_of HT_.out (by kernel_rfl)) (by decide) (fun K hK => ?_)
               refine box_step ?hg (N := 11) ?hd (cs := #[.int .i64 0, .int .i64 0]) (t := 33) ?hr ?_; (case hd => rfl); (case hg => rfl); (case hr => first | (go_simp; done) | (go_simp; rfl))
               intro gb267 hg w237 hbox hb
               have HS0_ := (hb.cell (World.block_lt_of_cell? _ _ (hHeld.1))).trans (hHeld.1)
               have HS1_ := (hb.cell (World.block_lt_of_cell? _ _ (hHeld.2.1))).trans (hHeld.2.1)
               have HS2_ := (hb.cell (World.block_lt_of_cell? _ _ (hHeld.2.2.1))).trans (hHeld.2.2.1)
               have HS3_ := (hb.cell (World.block_lt_of_cell? _ _ (hHeld.2.2.2.1))).trans (hHeld.2.2.2.1)
               have HS4_ := (hb.cell (World.block_lt_of_cell? _ _ (hHeld.2.2.2.2.1))).trans (hHeld.2.2.2.2.1)
               have HS5_ := (hb.cell (World.block_lt_of_cell? _ _ (hHeld.2.2.2.2.2))).trans (hHeld.2.2.2.2.2)
               have n0_ := Aside0.mk (Kd.R_below (Kd.R_elderB (by (with_reducible repeat (first | apply Kd.R_alloc | apply Kd.R_drewN | apply Kd.R_drew)); exact HO_5.out) gb267 (Nat.le_of_eq hg.symm)) hb)
               have n1_ := Aside0.mk (Kd.R_below (by (with_reducible repeat (first | apply Kd.R_alloc | apply Kd.R_drewN | apply Kd.R_drew)); exact HO_7.out) hb)
               have n2_ := Aside0.mk (Kd.R_below (by (with_reducible repeat (first | apply Kd.R_alloc | apply Kd.R_drewN | apply Kd.R_drew)); exact HO_8.out) hb)
               have n3_ := Aside0.mk (Kd.R_below (by (with_reducible repeat (first | apply Kd.R_alloc | apply Kd.R_drewN | apply Kd.R_drew)); exact HO_9.out) hb)
               have n4_ := Aside0.mk (blk_below (g := gb268) (o := .cells #[.int .i64 0, .int .i64 0] 33 (0, 0)) (by (with_reducible repeat (first | refine blk_drewN ?_ _ | refine blk_drew ?_ | refine blk_alloc ?_ _)); exact BK268.out) hb)
               have n5_ := Aside0.mk (below_step (by repeat (first | (with_reducible first | exact HB.out | apply below_alloc | apply pw_below_drewN | apply below_drew1 | refine below_set ?_ GE268.out) | exact HB.out)) hb)
               have n6_ := Aside0.mk (hbox)
               have n7_ := Aside0.mk ((by rw [hg]; exact (below_size (by repeat (first | (with_reducible first | exact HB.out | apply below_alloc | apply pw_below_drewN | apply below_drew1 | refine below_set ?_ GE268.out) | exact HB.out))) : w.heap.size ≤ gb267))
               have n8_ := Aside0.mk ((by rw [hg]; exact (below_size (by repeat (first | (with_reducible first | exact HB.out | apply below_alloc | apply pw_below_drewN | apply below_drew1 | refine below_set ?_ GE268.out) | exact HB.out))) : w.heap.size ≤ gb267))
               have n9_ := Aside0.mk ((by rw [hg]; exact Nat.ne_of_lt (blk_lt (g := gb268) (o := .cells #[.int .i64 0, .int .i64 0] 33 (0, 0)) (by (with_reducible repeat (first | refine blk_drewN ?_ _ | refine blk_drew ?_ | refine blk_alloc ?_ _)); exact BK268.out)) : gb268 ≠ gb267))
               have n10_ := Aside0.mk ((by rw [hg]; exact Nat.ne_of_gt (blk_lt (g := gb268) (o := .cells #[.int .i64 0, .int .i64 0] 33 (0, 0)) (by (with_reducible repeat (first | refine blk_drewN ?_ _ | refine blk_drew ?_ | refine blk_alloc ?_ _)); exact BK268.out)) : gb267 ≠ gb268))
               clear HO_5
               clear HO_7
               clear HO_8
               clear HO_9
               clear BK268
               clear HB
               have HO_5 := n0_
               have HO_7 := n1_
               have HO_8 := n2_
               have HO_9 := n3_
               have BK268 := n4_
               have HB := n5_
               have BK267 := n6_
               have GW267 := n7_
               have GE267 := n8_
               have NB268_267 := n9_
               have NB267_268 := n10_
               clear n0_ n1_ n2_ n3_ n4_ n5_ n6_ n7_ n8_ n9_ n10_
               clear hb hbox hg
               refine hK.out _ _ ⟨HS0_, HS1_, HS2_, HS3_, HS4_, HS5_⟩ (fun hHeld => ?_)
               clear hK K
               refine norm_ (a' := ?_) ?_ ?_
               rotate_left
               ·show Act.put _ (some 11) _ = _
                simp only [Act.put, List.setIfInBounds_toArray, List.set_cons_zero, List.set_cons_succ, i64_w, i32_w]
                rfl
               exact norm_ (by simp only [putAll, Act.put, List.setIfInBounds_toArray, List.set_cons_zero, List.set_cons_succ]) (hCont (gb267, gb268) _ ⟨hHeld, (by (with_reducible repeat (first | apply Kd.R_alloc | apply Kd.R_drewN | apply Kd.R_drew)); exact Kd.R_mono HO_5.out (fun _ hk => ⟨hk.2, hk.1.2⟩)), (by (with_reducible repeat (first | apply Kd.R_alloc | apply Kd.R_drewN | apply Kd.R_drew)); exact HO_7.out), (by (with_reducible repeat (first | apply Kd.R_alloc | apply Kd.R_drewN | apply Kd.R_drew)); exact HO_8.out), (by (with_reducible repeat (first | apply Kd.R_alloc | apply Kd.R_drewN | apply Kd.R_drew)); exact HO_9.out), (by (with_reducible repeat (first | refine blk_drewN ?_ _ | refine blk_drew ?_ | refine blk_alloc ?_ _)); exact BK267.out), (by (with_reducible repeat (first | refine blk_drewN ?_ _ | refine blk_drew ?_ | refine blk_alloc ?_ _)); exact BK268.out), GW267.out, GE267.out, NB268_267.out, NB267_268.out, GW268.out, GE268.out, (by repeat (first | (with_reducible first | exact HB.out | apply below_alloc | apply pw_below_drewN | apply below_drew1 | refine below_set ?_ GE268.out | refine below_set ?_ GE267.out) | exact HB.out))⟩)
             rintro ⟨gb267, gb268⟩ w238 ⟨hS_, h0_, h1_, h2_, h3_, h4_, h5_, h6_, h7_, h8_, h9_, h10_, h11_, h12_⟩
             have n0_ : Aside0 (Kd.R k33 33 w238 w.heap.size (fun k_ => k_ ≠ gb267 ∧ k_ ≠ gb268) (.slice (some ad264) x5_1.length co179) x5_1) := ⟨h0_⟩
             have n1_ : Aside0 (Kd.R (Kd.int .i64) 3 w238 w.heap.size (fun k_ => some k_ ≠ (v249 : Value).ownBlock) (.slice (some ad261) t245.length co198) t245) := ⟨h1_⟩
             have n2_ : Aside0 (Kd.R (Kd.int .i64) 3 w238 w.heap.size (fun k_ => some k_ ≠ (.slice (some ad261) t245.length co198 : Value).ownBlock) v249 t248) := ⟨h2_⟩
             have n3_ : Aside0 (Kd.R Kd.bool 4 w238 w.heap.size (fun _ => True) (.slice (some ⟨go216, 0, none⟩) x9_3.length co216) y262) := ⟨h3_⟩
             have n4_ : Aside0 (w238.heap[gb267]? = some (.cells #[.int .i64 0, .int .i64 0] 33 (0, 0))) := ⟨h4_⟩
             have n5_ : Aside0 (w238.heap[gb268]? = some (.cells #[.int .i64 0, .int .i64 0] 33 (0, 0))) := ⟨h5_⟩
             have n6_ : Aside0 (w.heap.size ≤ gb267) := ⟨h6_⟩
             have n7_ : Aside0 (w.heap.size ≤ gb267) := ⟨h7_⟩
             have n8_ : Aside0 (gb268 ≠ gb267) := ⟨h8_⟩
             have n9_ : Aside0 (gb267 ≠ gb268) := ⟨h9_⟩
             have n10_ : Aside0 (w.heap.size ≤ gb268) := ⟨h10_⟩
             have n11_ : Aside0 (w.heap.size ≤ gb268) := ⟨h11_⟩
             have n12_ : Aside0 (Below w.heap.size w w238) := ⟨h12_⟩
             clear HO_5
             clear HO_7
             clear HO_8
             clear HO_9
             clear HB
             clear h0_ h1_ h2_ h3_ h4_ h5_ h6_ h7_ h8_ h9_ h10_ h11_ h12_
             have HO_5 := n0_
             have HO_7 := n1_
             have HO_8 := n2_
             have HO_9 := n3_
             have BK267 := n4_
             have BK268 := n5_
             have GW267 := n6_
             have GE267 := n7_
             have NB268_267 := n8_
             have NB267_268 := n9_
             have GW268 := n10_
             have GE268 := n11_
             have HB := n12_
             clear n0_ n1_ n2_ n3_ n4_ n5_ n6_ n7_ n8_ n9_ n10_ n11_ n12_
             have hHeld : w238.cell? (ad261.add ((ji220)).toNat) = some (.int .i64 (rd t245 (ji220))) ∧ w238.cell? (ad264.add (((rd t245 (ji220))).toNat * 2)) = some (.int .i64 ((rd_T33 x5_1 (rd t245 (ji220))).f0)) ∧ w238.cell? ⟨(ad264.add (((rd t245 (ji220))).toNat * 2)).block, (ad264.add (((rd t245 (ji220))).toNat * 2)).off + 1, none⟩ = some (.int .i64 ((rd_T33 x5_1 (rd t245 (ji220))).f1)) ∧ w238.cell? (ad261.add (x10_3).toNat) = some (.int .i64 (rd t245 x10_3)) ∧ w238.cell? (ad264.add (((rd t245 x10_3)).toNat * 2)) = some (.int .i64 ((rd_T33 x5_1 (rd t245 x10_3)).f0)) ∧ w238.cell? ⟨(ad264.add (((rd t245 x10_3)).toNat * 2)).block, (ad264.add (((rd t245 x10_3)).toNat * 2)).off + 1, none⟩ = some (.int .i64 ((rd_T33 x5_1 (rd t245 x10_3)).f1)) := hS_
             refine norm_ (a' := ?_) ?_ ?_
             rotate_left
             ·simp only [putAll, Act.put, List.setIfInBounds_toArray, List.set_cons_zero, List.set_cons_succ]
              rfl
             refine one_ (i := 17) (N := none) #[true, true, true, true, true, true, true, true, true, true, true, true, true, true, true, true, true, true, false] rfl rfl (one_of HT_.out (by kernel_rfl)) (by decide) (fun K hK => ?_)
             have hs239 : w238.cell? ⟨gb267, 0, none⟩ = some (.int .i64 0) := (blk_cell BK267.out 0).trans rfl
             have hfs239 := blk_frozen BK267.out 0
             have hns239_1 := NB268_267.out
             have hms239_1 := NB267_268.out
             have hs240 : w238.cell? ⟨gb267, 1, none⟩ = some (.int .i64 0) := (blk_cell BK267.out 1).trans rfl
             have hfs240 := blk_frozen BK267.out 1
             have hns240_1 := NB268_267.out
             have hms240_1 := NB267_268.out
             refine skip_ (w1 := ?_) (by rfl) rfl ?_ ?_
             rotate_left
             ·go_simp
              rfl
             refine hK.out _ _ ⟨((cell_far (p := ⟨gb267, _, none⟩) (by first | exact Kd.own_blk (Kd.R_ne HO_7.out BK267.out (by decide)) | (rw [add_block]; exact Kd.own_blk (Kd.R_ne HO_7.out BK267.out (by decide))) | (show (Addr.add _ _).block ≠ _; rw [add_block]; exact Kd.own_blk (Kd.R_ne HO_7.out BK267.out (by decide))) | (dsimp only; exact Kd.own_blk (Kd.R_ne HO_7.out BK267.out (by decide)))) _).trans (((cell_far (p := ⟨gb267, _, none⟩) (by first | exact Kd.own_blk (Kd.R_ne HO_7.out BK267.out (by decide)) | (rw [add_block]; exact Kd.own_blk (Kd.R_ne HO_7.out BK267.out (by decide))) | (show (Addr.add _ _).block ≠ _; rw [add_block]; exact Kd.own_blk (Kd.R_ne HO_7.out BK267.out (by decide))) | (dsimp only; exact Kd.own_blk (Kd.R_ne HO_7.out BK267.out (by decide)))) _).trans (hHeld.1)))), ((cell_far (p := ⟨gb267, _, none⟩) (by first | exact Kd.own_blk (Kd.R_away HO_5.out (fun _ hk => hk.1)) | (rw [add_block]; exact Kd.own_blk (Kd.R_away HO_5.out (fun _ hk => hk.1))) | (show (Addr.add _ _).block ≠ _; rw [add_block]; exact Kd.own_blk (Kd.R_away HO_5.out (fun _ hk => hk.1))) | (dsimp only; exact Kd.own_blk (Kd.R_away HO_5.out (fun _ hk => hk.1)))) _).trans (((cell_far (p := ⟨gb267, _, none⟩) (by first | exact Kd.own_blk (Kd.R_away HO_5.out (fun _ hk => hk.1)) | (rw [add_block]; exact Kd.own_blk (Kd.R_away HO_5.out (fun _ hk => hk.1))) | (show (Addr.add _ _).block ≠ _; rw [add_block]; exact Kd.own_blk (Kd.R_away HO_5.out (fun _ hk => hk.1))) | (dsimp only; exact Kd.own_blk (Kd.R_away HO_5.out (fun _ hk => hk.1)))) _).trans (hHeld.2.1)))), ((cell_far (p := ⟨gb267, _, none⟩) (by first | exact Kd.own_blk (Kd.R_away HO_5.out (fun _ hk => hk.1)) | (rw [add_block]; exact Kd.own_blk (Kd.R_away HO_5.out (fun _ hk => hk.1))) | (show (Addr.add _ _).block ≠ _; rw [add_block]; exact Kd.own_blk (Kd.R_away HO_5.out (fun _ hk => hk.1))) | (dsimp only; exact Kd.own_blk (Kd.R_away HO_5.out (fun _ hk => hk.1)))) _).trans (((cell_far (p := ⟨gb267, _, none⟩) (by first | exact Kd.own_blk (Kd.R_away HO_5.out (fun _ hk => hk.1)) | (rw [add_block]; exact Kd.own_blk (Kd.R_away HO_5.out (fun _ hk => hk.1))) | (show (Addr.add _ _).block ≠ _; rw [add_block]; exact Kd.own_blk (Kd.R_away HO_5.out (fun _ hk => hk.1))) | (dsimp only; exact Kd.own_blk (Kd.R_away HO_5.out (fun _ hk => hk.1)))) _).trans (hHeld.2.2.1)))), ((cell_far (p := ⟨gb267, _, none⟩) (by first | exact Kd.own_blk (Kd.R_ne HO_7.out BK267.out (by decide)) | (rw [add_block]; exact Kd.own_blk (Kd.R_ne HO_7.out BK267.out (by decide))) | (show (Addr.add _ _).block ≠ _; rw [add_block]; exact Kd.own_blk (Kd.R_ne HO_7.out BK267.out (by decide))) | (dsimp only; exact Kd.own_blk (Kd.R_ne HO_7.out BK267.out (by decide)))) _).trans (((cell_far (p := ⟨gb267, _, none⟩) (by first | exact Kd.own_blk (Kd.R_ne HO_7.out BK267.out (by decide)) | (rw [add_block]; exact Kd.own_blk (Kd.R_ne HO_7.out BK267.out (by decide))) | (show (Addr.add _ _).block ≠ _; rw [add_block]; exact Kd.own_blk (Kd.R_ne HO_7.out BK267.out (by decide))) | (dsimp only; exact Kd.own_blk (Kd.R_ne HO_7.out BK267.out (by decide)))) _).trans (hHeld.2.2.2.1)))), ((cell_far (p := ⟨gb267, _, none⟩) (by first | exact Kd.own_blk (Kd.R_away HO_5.out (fun _ hk => hk.1)) | (rw [add_block]; exact Kd.own_blk (Kd.R_away HO_5.out (fun _ hk => hk.1))) | (show (Addr.add _ _).block ≠ _; rw [add_block]; exact Kd.own_blk (Kd.R_away HO_5.out (fun _ hk => hk.1))) | (dsimp only; exact Kd.own_blk (Kd.R_away HO_5.out (fun _ hk => hk.1)))) _).trans (((cell_far (p := ⟨gb267, _, none⟩) (by first | exact Kd.own_blk (Kd.R_away HO_5.out (fun _ hk => hk.1)) | (rw [add_block]; exact Kd.own_blk (Kd.R_away HO_5.out (fun _ hk => hk.1))) | (show (Addr.add _ _).block ≠ _; rw [add_block]; exact Kd.own_blk (Kd.R_away HO_5.out (fun _ hk => hk.1))) | (dsimp only; exact Kd.own_blk (Kd.R_away HO_5.out (fun _ hk => hk.1)))) _).trans (hHeld.2.2.2.2.1)))), ((cell_far (p := ⟨gb267, _, none⟩) (by first | exact Kd.own_blk (Kd.R_away HO_5.out (fun _ hk => hk.1)) | (rw [add_block]; exact Kd.own_blk (Kd.R_away HO_5.out (fun _ hk => hk.1))) | (show (Addr.add _ _).block ≠ _; rw [add_block]; exact Kd.own_blk (Kd.R_away HO_5.out (fun _ hk => hk.1))) | (dsimp only; exact Kd.own_blk (Kd.R_away HO_5.out (fun _ hk => hk.1)))) _).trans (((cell_far (p := ⟨gb267, _, none⟩) (by first | exact Kd.own_blk (Kd.R_away HO_5.out (fun _ hk => hk.1)) | (rw [add_block]; exact Kd.own_blk (Kd.R_away HO_5.out (fun _ hk => hk.1))) | (show (Addr.add _ _).block ≠ _; rw [add_block]; exact Kd.own_blk (Kd.R_away HO_5.out (fun _ hk => hk.1))) | (dsimp only; exact Kd.own_blk (Kd.R_away HO_5.out (fun _ hk => hk.1)))) _).trans (hHeld.2.2.2.2.2))))⟩ (fun hHeld => ?_)
             clear hK K
             refine one_ (i := 18) (N := none) #[true, true, true, true, true, true, true, true, true, true, true, true, true, true, true, true, true, true, true] rfl rfl (one_of HT_.out (by kernel_rfl)) (by decide) (fun K hK => ?_)
             have hs241 : w238.cell? ⟨gb268, 0, none⟩ = some (.int .i64 0) := (blk_cell BK268.out 0).trans rfl
             have hfs241 := blk_frozen BK268.out 0
             have hns241_0 := NB267_268.out
             have hms241_0 := NB268_267.out
             have hs242 : w238.cell? ⟨gb268, 1, none⟩ = some (.int .i64 0) := (blk_cell BK268.out 1).trans rfl
             have hfs242 := blk_frozen BK268.out 1
             have hns242_0 := NB267_268.out
             have hms242_0 := NB268_267.out
             refine skip_ (w1 := ?_) (by rfl) rfl ?_ ?_
             rotate_left
             ·go_simp
              rfl
             refine hK.out _ _ ⟨((cell_far (p := ⟨gb268, _, none⟩) (by first | exact Kd.own_blk (Kd.R_ne HO_7.out BK268.out (by decide)) | (rw [add_block]; exact Kd.own_blk (Kd.R_ne HO_7.out BK268.out (by decide))) | (show (Addr.add _ _).block ≠ _; rw [add_block]; exact Kd.own_blk (Kd.R_ne HO_7.out BK268.out (by decide))) | (dsimp only; exact Kd.own_blk (Kd.R_ne HO_7.out BK268.out (by decide)))) _).trans (((cell_far (p := ⟨gb268, _, none⟩) (by first | exact Kd.own_blk (Kd.R_ne HO_7.out BK268.out (by decide)) | (rw [add_block]; exact Kd.own_blk (Kd.R_ne HO_7.out BK268.out (by decide))) | (show (Addr.add _ _).block ≠ _; rw [add_block]; exact Kd.own_blk (Kd.R_ne HO_7.out BK268.out (by decide))) | (dsimp only; exact Kd.own_blk (Kd.R_ne HO_7.out BK268.out (by decide)))) _).trans (hHeld.1)))), ((cell_far (p := ⟨gb268, _, none⟩) (by first | exact Kd.own_blk (Kd.R_away HO_5.out (fun _ hk => hk.2)) | (rw [add_block]; exact Kd.own_blk (Kd.R_away HO_5.out (fun _ hk => hk.2))) | (show (Addr.add _ _).block ≠ _; rw [add_block]; exact Kd.own_blk (Kd.R_away HO_5.out (fun _ hk => hk.2))) | (dsimp only; exact Kd.own_blk (Kd.R_away HO_5.out (fun _ hk => hk.2)))) _).trans (((cell_far (p := ⟨gb268, _, none⟩) (by first | exact Kd.own_blk (Kd.R_away HO_5.out (fun _ hk => hk.2)) | (rw [add_block]; exact Kd.own_blk (Kd.R_away HO_5.out (fun _ hk => hk.2))) | (show (Addr.add _ _).block ≠ _; rw [add_block]; exact Kd.own_blk (Kd.R_away HO_5.out (fun _ hk => hk.2))) | (dsimp only; exact Kd.own_blk (Kd.R_away HO_5.out (fun _ hk => hk.2)))) _).trans (hHeld.2.1)))), ((cell_far (p := ⟨gb268, _, none⟩) (by first | exact Kd.own_blk (Kd.R_away HO_5.out (fun _ hk => hk.2)) | (rw [add_block]; exact Kd.own_blk (Kd.R_away HO_5.out (fun _ hk => hk.2))) | (show (Addr.add _ _).block ≠ _; rw [add_block]; exact Kd.own_blk (Kd.R_away HO_5.out (fun _ hk => hk.2))) | (dsimp only; exact Kd.own_blk (Kd.R_away HO_5.out (fun _ hk => hk.2)))) _).trans (((cell_far (p := ⟨gb268, _, none⟩) (by first | exact Kd.own_blk (Kd.R_away HO_5.out (fun _ hk => hk.2)) | (rw [add_block]; exact Kd.own_blk (Kd.R_away HO_5.out (fun _ hk => hk.2))) | (show (Addr.add _ _).block ≠ _; rw [add_block]; exact Kd.own_blk (Kd.R_away HO_5.out (fun _ hk => hk.2))) | (dsimp only; exact Kd.own_blk (Kd.R_away HO_5.out (fun _ hk => hk.2)))) _).trans (hHeld.2.2.1)))), ((cell_far (p := ⟨gb268, _, none⟩) (by first | exact Kd.own_blk (Kd.R_ne HO_7.out BK268.out (by decide)) | (rw [add_block]; exact Kd.own_blk (Kd.R_ne HO_7.out BK268.out (by decide))) | (show (Addr.add _ _).block ≠ _; rw [add_block]; exact Kd.own_blk (Kd.R_ne HO_7.out BK268.out (by decide))) | (dsimp only; exact Kd.own_blk (Kd.R_ne HO_7.out BK268.out (by decide)))) _).trans (((cell_far (p := ⟨gb268, _, none⟩) (by first | exact Kd.own_blk (Kd.R_ne HO_7.out BK268.out (by decide)) | (rw [add_block]; exact Kd.own_blk (Kd.R_ne HO_7.out BK268.out (by decide))) | (show (Addr.add _ _).block ≠ _; rw [add_block]; exact Kd.own_blk (Kd.R_ne HO_7.out BK268.out (by decide))) | (dsimp only; exact Kd.own_blk (Kd.R_ne HO_7.out BK268.out (by decide)))) _).trans (hHeld.2.2.2.1)))), ((cell_far (p := ⟨gb268, _, none⟩) (by first | exact Kd.own_blk (Kd.R_away HO_5.out (fun _ hk => hk.2)) | (rw [add_block]; exact Kd.own_blk (Kd.R_away HO_5.out (fun _ hk => hk.2))) | (show (Addr.add _ _).block ≠ _; rw [add_block]; exact Kd.own_blk (Kd.R_away HO_5.out (fun _ hk => hk.2))) | (dsimp only; exact Kd.own_blk (Kd.R_away HO_5.out (fun _ hk => hk.2)))) _).trans (((cell_far (p := ⟨gb268, _, none⟩) (by first | exact Kd.own_blk (Kd.R_away HO_5.out (fun _ hk => hk.2)) | (rw [add_block]; exact Kd.own_blk (Kd.R_away HO_5.out (fun _ hk => hk.2))) | (show (Addr.add _ _).block ≠ _; rw [add_block]; exact Kd.own_blk (Kd.R_away HO_5.out (fun _ hk => hk.2))) | (dsimp only; exact Kd.own_blk (Kd.R_away HO_5.out (fun _ hk => hk.2)))) _).trans (hHeld.2.2.2.2.1)))), ((cell_far (p := ⟨gb268, _, none⟩) (by first | exact Kd.own_blk (Kd.R_away HO_5.out (fun _ hk => hk.2)) | (rw [add_block]; exact Kd.own_blk (Kd.R_away HO_5.out (fun _ hk => hk.2))) | (show (Addr.add _ _).block ≠ _; rw [add_block]; exact Kd.own_blk (Kd.R_away HO_5.out (fun _ hk => hk.2))) | (dsimp only; exact Kd.own_blk (Kd.R_away HO_5.out (fun _ hk => hk.2)))) _).trans (((cell_far (p := ⟨gb268, _, none⟩) (by first | exact Kd.own_blk (Kd.R_away HO_5.out (fun _ hk => hk.2)) | (rw [add_block]; exact Kd.own_blk (Kd.R_away HO_5.out (fun _ hk => hk.2))) | (show (Addr.add _ _).block ≠ _; rw [add_block]; exact Kd.own_blk (Kd.R_away HO_5.out (fun _ hk => hk.2))) | (dsimp only; exact Kd.own_blk (Kd.R_away HO_5.out (fun _ hk => hk.2)))) _).trans (hHeld.2.2.2.2.2))))⟩ (fun hHeld => ?_)
             clear hK K
             refine done_ (done_of HT_.out (by kernel_rfl)) ?_
             try go_wp2
             have n0_ : Aside0 (Kd.R k33 33 ((((w238.setCell ⟨gb267, 0, none⟩ (.int .i64 ((rd_T33 x5_1 (rd t245 (ji220))).f0))).setCell ⟨gb267, 1, none⟩ (.int .i64 ((rd_T33 x5_1 (rd t245 (ji220))).f1))).setCell ⟨gb268, 0, none⟩ (.int .i64 ((rd_T33 x5_1 (rd t245 x10_3)).f0))).setCell ⟨gb268, 1, none⟩ (.int .i64 ((rd_T33 x5_1 (rd t245 x10_3)).f1))) w.heap.size (fun k_ => k_ ≠ gb267 ∧ k_ ≠ gb268) (.slice (some ad264) x5_1.length co179) x5_1) := ⟨by (with_reducible repeat (first | apply Kd.R_alloc | apply Kd.R_drewN | apply Kd.R_drew)); exact Kd.R_mono (Kd.R_far (p := ⟨gb268, 1, none⟩) (Kd.R_far (p := ⟨gb268, 0, none⟩) (Kd.R_far (p := ⟨gb267, 1, none⟩) (Kd.R_far (p := ⟨gb267, 0, none⟩) (Kd.R_mono (Kd.R_mono HO_5.out (fun k_ hk => (⟨hk, hk.1⟩ : _ ∧ k_ ≠ gb267))) (fun k_ hk => (⟨hk, hk.1.2⟩ : _ ∧ k_ ≠ gb268))) (fun _ hk => hk.1.2) (.int .i64 ((rd_T33 x5_1 (rd t245 (ji220))).f0))) (fun _ hk => hk.1.2) (.int .i64 ((rd_T33 x5_1 (rd t245 (ji220))).f1))) (fun _ hk => hk.2) (.int .i64 ((rd_T33 x5_1 (rd t245 x10_3)).f0))) (fun _ hk => hk.2) (.int .i64 ((rd_T33 x5_1 (rd t245 x10_3)).f1))) (fun _ hk => ⟨hk.1.1.1, hk.1.1.2⟩)⟩
             have n1_ : Aside0 (Kd.R (Kd.int .i64) 3 ((((w238.setCell ⟨gb267, 0, none⟩ (.int .i64 ((rd_T33 x5_1 (rd t245 (ji220))).f0))).setCell ⟨gb267, 1, none⟩ (.int .i64 ((rd_T33 x5_1 (rd t245 (ji220))).f1))).setCell ⟨gb268, 0, none⟩ (.int .i64 ((rd_T33 x5_1 (rd t245 x10_3)).f0))).setCell ⟨gb268, 1, none⟩ (.int .i64 ((rd_T33 x5_1 (rd t245 x10_3)).f1))) w.heap.size (fun k_ => some k_ ≠ (v249 : Value).ownBlock) (.slice (some ad261) t245.length co198) t245) := ⟨by (with_reducible repeat (first | apply Kd.R_alloc | apply Kd.R_drewN | apply Kd.R_drew)); exact Kd.R_mono (Kd.R_far (p := ⟨gb268, 1, none⟩) (Kd.R_far (p := ⟨gb268, 0, none⟩) (Kd.R_far (p := ⟨gb267, 1, none⟩) (Kd.R_far (p := ⟨gb267, 0, none⟩) (Kd.R_types (Kd.R_types HO_7.out BK267.out (by decide)) BK268.out (by decide)) (fun _ hk => hk.1.2) (.int .i64 ((rd_T33 x5_1 (rd t245 (ji220))).f0))) (fun _ hk => hk.1.2) (.int .i64 ((rd_T33 x5_1 (rd t245 (ji220))).f1))) (fun _ hk => hk.2) (.int .i64 ((rd_T33 x5_1 (rd t245 x10_3)).f0))) (fun _ hk => hk.2) (.int .i64 ((rd_T33 x5_1 (rd t245 x10_3)).f1))) (fun _ hk => hk.1.1)⟩
             have n2_ : Aside0 (Kd.R (Kd.int .i64) 3 ((((w238.setCell ⟨gb267, 0, none⟩ (.int .i64 ((rd_T33 x5_1 (rd t245 (ji220))).f0))).setCell ⟨gb267, 1, none⟩ (.int .i64 ((rd_T33 x5_1 (rd t245 (ji220))).f1))).setCell ⟨gb268, 0, none⟩ (.int .i64 ((rd_T33 x5_1 (rd t245 x10_3)).f0))).setCell ⟨gb268, 1, none⟩ (.int .i64 ((rd_T33 x5_1 (rd t245 x10_3)).f1))) w.heap.size (fun k_ => some k_ ≠ (.slice (some ad261) t245.length co198 : Value).ownBlock) v249 t248) := ⟨by (with_reducible repeat (first | apply Kd.R_alloc | apply Kd.R_drewN | apply Kd.R_drew)); exact Kd.R_mono (Kd.R_far (p := ⟨gb268, 1, none⟩) (Kd.R_far (p := ⟨gb268, 0, none⟩) (Kd.R_far (p := ⟨gb267, 1, none⟩) (Kd.R_far (p := ⟨gb267, 0, none⟩) (Kd.R_types (Kd.R_types HO_8.out BK267.out (by decide)) BK268.out (by decide)) (fun _ hk => hk.1.2) (.int .i64 ((rd_T33 x5_1 (rd t245 (ji220))).f0))) (fun _ hk => hk.1.2) (.int .i64 ((rd_T33 x5_1 (rd t245 (ji220))).f1))) (fun _ hk => hk.2) (.int .i64 ((rd_T33 x5_1 (rd t245 x10_3)).f0))) (fun _ hk => hk.2) (.int .i64 ((rd_T33 x5_1 (rd t245 x10_3)).f1))) (fun _ hk => hk.1.1)⟩
             have n3_ : Aside0 (Kd.R Kd.bool 4 ((((w238.setCell ⟨gb267, 0, none⟩ (.int .i64 ((rd_T33 x5_1 (rd t245 (ji220))).f0))).setCell ⟨gb267, 1, none⟩ (.int .i64 ((rd_T33 x5_1 (rd t245 (ji220))).f1))).setCell ⟨gb268, 0, none⟩ (.int .i64 ((rd_T33 x5_1 (rd t245 x10_3)).f0))).setCell ⟨gb268, 1, none⟩ (.int .i64 ((rd_T33 x5_1 (rd t245 x10_3)).f1))) w.heap.size (fun _ => True) (.slice (some ⟨go216, 0, none⟩) x9_3.length co216) y262) := ⟨by (with_reducible repeat (first | apply Kd.R_alloc | apply Kd.R_drewN | apply Kd.R_drew)); exact Kd.R_mono (Kd.R_far (p := ⟨gb268, 1, none⟩) (Kd.R_far (p := ⟨gb268, 0, none⟩) (Kd.R_far (p := ⟨gb267, 1, none⟩) (Kd.R_far (p := ⟨gb267, 0, none⟩) (Kd.R_types (Kd.R_types HO_9.out BK267.out (by decide)) BK268.out (by decide)) (fun _ hk => hk.1.2) (.int .i64 ((rd_T33 x5_1 (rd t245 (ji220))).f0))) (fun _ hk => hk.1.2) (.int .i64 ((rd_T33 x5_1 (rd t245 (ji220))).f1))) (fun _ hk => hk.2) (.int .i64 ((rd_T33 x5_1 (rd t245 x10_3)).f0))) (fun _ hk => hk.2) (.int .i64 ((rd_T33 x5_1 (rd t245 x10_3)).f1))) (fun _ hk => trivial)⟩
             have n4_ : Aside0 (((((w238.setCell ⟨gb267, 0, none⟩ (.int .i64 ((rd_T33 x5_1 (rd t245 (ji220))).f0))).setCell ⟨gb267, 1, none⟩ (.int .i64 ((rd_T33 x5_1 (rd t245 (ji220))).f1))).setCell ⟨gb268, 0, none⟩ (.int .i64 ((rd_T33 x5_1 (rd t245 x10_3)).f0))).setCell ⟨gb268, 1, none⟩ (.int .i64 ((rd_T33 x5_1 (rd t245 x10_3)).f1))).heap[gb267]? = some (.cells #[.int .i64 ((rd_T33 x5_1 (rd t245 (ji220))).f0), .int .i64 ((rd_T33 x5_1 (rd t245 (ji220))).f1)] 33 (0, 0))) := ⟨by (with_reducible repeat (first | refine blk_drewN ?_ _ | refine blk_drew ?_ | refine blk_alloc ?_ _)); refine blk_far ?_ NB267_268.out _; (with_reducible repeat (first | refine blk_drewN ?_ _ | refine blk_drew ?_ | refine blk_alloc ?_ _)); refine blk_far ?_ NB267_268.out _; (with_reducible repeat (first | refine blk_drewN ?_ _ | refine blk_drew ?_ | refine blk_alloc ?_ _)); refine blk_put (cs := #[.int .i64 ((rd_T33 x5_1 (rd t245 (ji220))).f0), .int .i64 0]) ?_ 1 _ rfl; (with_reducible repeat (first | refine blk_drewN ?_ _ | refine blk_drew ?_ | refine blk_alloc ?_ _)); refine blk_put (cs := #[.int .i64 0, .int .i64 0]) ?_ 0 _ rfl; (with_reducible repeat (first | refine blk_drewN ?_ _ | refine blk_drew ?_ | refine blk_alloc ?_ _)); exact BK267.out⟩
             have n5_ : Aside0 (((((w238.setCell ⟨gb267, 0, none⟩ (.int .i64 ((rd_T33 x5_1 (rd t245 (ji220))).f0))).setCell ⟨gb267, 1, none⟩ (.int .i64 ((rd_T33 x5_1 (rd t245 (ji220))).f1))).setCell ⟨gb268, 0, none⟩ (.int .i64 ((rd_T33 x5_1 (rd t245 x10_3)).f0))).setCell ⟨gb268, 1, none⟩ (.int .i64 ((rd_T33 x5_1 (rd t245 x10_3)).f1))).heap[gb268]? = some (.cells #[.int .i64 ((rd_T33 x5_1 (rd t245 x10_3)).f0), .int .i64 ((rd_T33 x5_1 (rd t245 x10_3)).f1)] 33 (0, 0))) := ⟨by (with_reducible repeat (first | refine blk_drewN ?_ _ | refine blk_drew ?_ | refine blk_alloc ?_ _)); refine blk_put (cs := #[.int .i64 ((rd_T33 x5_1 (rd t245 x10_3)).f0), .int .i64 0]) ?_ 1 _ rfl; (with_reducible repeat (first | refine blk_drewN ?_ _ | refine blk_drew ?_ | refine blk_alloc ?_ _)); refine blk_put (cs := #[.int .i64 0, .int .i64 0]) ?_ 0 _ rfl; (with_reducible repeat (first | refine blk_drewN ?_ _ | refine blk_drew ?_ | refine blk_alloc ?_ _)); refine blk_far ?_ NB268_267.out _; (with_reducible repeat (first | refine blk_drewN ?_ _ | refine blk_drew ?_ | refine blk_alloc ?_ _)); refine blk_far ?_ NB268_267.out _; (with_reducible repeat (first | refine blk_drewN ?_ _ | refine blk_drew ?_ | refine blk_alloc ?_ _)); exact BK268.out⟩
             have n6_ : Aside0 (Below w.heap.size w ((((w238.setCell ⟨gb267, 0, none⟩ (.int .i64 ((rd_T33 x5_1 (rd t245 (ji220))).f0))).setCell ⟨gb267, 1, none⟩ (.int .i64 ((rd_T33 x5_1 (rd t245 (ji220))).f1))).setCell ⟨gb268, 0, none⟩ (.int .i64 ((rd_T33 x5_1 (rd t245 x10_3)).f0))).setCell ⟨gb268, 1, none⟩ (.int .i64 ((rd_T33 x5_1 (rd t245 x10_3)).f1)))) := ⟨by repeat (first | (with_reducible first | exact HB.out | apply below_alloc | apply pw_below_drewN | apply below_drew1 | refine below_set ?_ GE267.out | refine below_set ?_ GE268.out) | exact HB.out)⟩
             (try clear HO_5)
             (try clear HO_7)
             (try clear HO_8)
             (try clear HO_9)
             (try clear BK267)
             (try clear BK268)
             (try clear HB)
             generalize ((((w238.setCell ⟨gb267, 0, none⟩ (.int .i64 ((rd_T33 x5_1 (rd t245 (ji220))).f0))).setCell ⟨gb267, 1, none⟩ (.int .i64 ((rd_T33 x5_1 (rd t245 (ji220))).f1))).setCell ⟨gb268, 0, none⟩ (.int .i64 ((rd_T33 x5_1 (rd t245 x10_3)).f0))).setCell ⟨gb268, 1, none⟩ (.int .i64 ((rd_T33 x5_1 (rd t245 x10_3)).f1))) = w243 at n0_ n1_ n2_ n3_ n4_ n5_ n6_ ⊢
             have HO_5 := n0_
             have HO_7 := n1_
             have HO_8 := n2_
             have HO_9 := n3_
             have BK267 := n4_
             have BK268 := n5_
             have HB := n6_
             clear n0_ n1_ n2_ n3_ n4_ n5_ n6_
             have n0_ := Aside0.mk (Kd.R_drew HO_5.out)
             have n1_ := Aside0.mk (Kd.R_drew HO_7.out)
             have n2_ := Aside0.mk (Kd.R_drew HO_8.out)
             have n3_ := Aside0.mk (Kd.R_drew HO_9.out)
             have n4_ := Aside0.mk (blk_drew BK267.out)
             have n5_ := Aside0.mk (blk_drew BK268.out)
             have n6_ := Aside0.mk (below_drew1 HB.out)
             clear HO_5
             clear HO_7
             clear HO_8
             clear HO_9
             clear BK267
             clear BK268
             clear HB
             have HO_5 := n0_
             have HO_7 := n1_
             have HO_8 := n2_
             have HO_9 := n3_
             have BK267 := n4_
             have BK268 := n5_
             have HB := n6_
             clear n0_ n1_ n2_ n3_ n4_ n5_ n6_
             obtain ⟨Ao245, co245, eo245⟩ := Kd.R_slice HO_8.out
             (first | subst eo245 | (injection eo245 with f1_ f2_ f3_; have f4_ := f1_.symm; have f5_ := f3_.symm; clear f1_ f2_ f3_; subst f4_; subst f5_))
             have p269 : 0 ≤ ((ji220) : Int) := of_decide_eq_true (by first | (with_reducible assumption) | assumption)
             have q269 : (ji220) < (t248.length : Int) := of_decide_eq_true (by first | (with_reducible assumption) | assumption)
             obtain ⟨ad269, e269, hx269_0⟩ := Kd.at_int (Kd.R_reads' HO_8.out).2.2 (ji220) p269 q269
             cases e269
             replace p269 := eq_true p269
             replace q269 := eq_true q269
             have p270 : 0 ≤ ((rd t248 (ji220)) : Int) := of_decide_eq_true (by first | (with_reducible assumption) | assumption)
             have q270 : (rd t248 (ji220)) < (x5_1.length : Int) := of_decide_eq_true (by first | (with_reducible assumption) | assumption)
             obtain ⟨ad270, e270, hx270_0, hx270_1⟩ := at_T33 (Kd.R_reads' HO_5.out).2.2 (rd t248 (ji220)) p270 q270
             obtain rfl : ad264 = ad270 := (by injection e270)
             replace p270 := eq_true p270
             replace q270 := eq_true q270
             have p271 : 0 ≤ (x10_3 : Int) := of_decide_eq_true (by first | (with_reducible assumption) | assumption)
             have q271 : x10_3 < (t248.length : Int) := of_decide_eq_true (by first | (with_reducible assumption) | assumption)
             obtain ⟨ad271, e271, hx271_0⟩ := Kd.at_int (Kd.R_reads' HO_8.out).2.2 x10_3 p271 q271
             obtain rfl : ad269 = ad271 := (by injection e271)
             replace p271 := eq_true p271
             replace q271 := eq_true q271
             have p272 : 0 ≤ ((rd t248 x10_3) : Int) := of_decide_eq_true (by first | (with_reducible assumption) | assumption)
             have q272 : (rd t248 x10_3) < (x5_1.length : Int) := of_decide_eq_true (by first | (with_reducible assumption) | assumption)
             obtain ⟨ad272, e272, hx272_0, hx272_1⟩ := at_T33 (Kd.R_reads' HO_5.out).2.2 (rd t248 x10_3) p272 q272
             obtain rfl : ad264 = ad272 := (by injection e272)
             replace p272 := eq_true p272
             replace q272 := eq_true q272
             refine start_ (n := 19) (S := fun w' => w'.cell? (ad269.add ((ji220)).toNat) = some (.int .i64 (rd t248 (ji220))) ∧ w'.cell? (ad264.add (((rd t248 (ji220))).toNat * 2)) = some (.int .i64 ((rd_T33 x5_1 (rd t248 (ji220))).f0)) ∧ w'.cell? ⟨(ad264.add (((rd t248 (ji220))).toNat * 2)).block, (ad264.add (((rd t248 (ji220))).toNat * 2)).off + 1, none⟩ = some (.int .i64 ((rd_T33 x5_1 (rd t248 (ji220))).f1)) ∧ w'.cell? (ad269.add (x10_3).toNat) = some (.int .i64 (rd t248 x10_3)) ∧ w'.cell? (ad264.add (((rd t248 x10_3)).toNat * 2)) = some (.int .i64 ((rd_T33 x5_1 (rd t248 x10_3)).f0)) ∧ w'.cell? ⟨(ad264.add (((rd t248 x10_3)).toNat * 2)).block, (ad264.add (((rd t248 x10_3)).toNat * 2)).off + 1, none⟩ = some (.int .i64 ((rd_T33 x5_1 (rd t248 x10_3)).f1))) (ds := []) #[false, false, false, false, false, false, false, false, false, false, false, false, false, false, false, false, false, false, false] (by kernel_rfl) rfl rfl ⟨hx269_0, hx270_0, hx270_1, hx271_0, hx272_0, hx272_1⟩ (fun hHeld => ?_); refine with_tabW scarflaw03_RankBy.tab22 scarflaw03_RankBy.bits22 (fun HT_ HW_ => ?_)
             generalize w243.drew = w244 at HO_5 HO_7 HO_8 HO_9 BK267 BK268 HB hx269_0 hx270_0 hx270_1 hx271_0 hx272_0 hx272_1 hHeld ⊢
             refine pure_ (i := 0) (N := some 136) (v := ?_) (a' := ?_) #[true, false, false, false, false, false, false, false, false, false, false, false, false, false, false, false, false, false, false] rfl rfl (any_of HT_.out (by kernel_rfl)) (fun _ _ _ h => h) (Or.inl ⟨by rfl, ?_⟩) ?_ ?_
             rotate_left
             ·intro w'
              go_simp
              with_reducible rfl
             rotate_left
             ·simp only [Act.put, List.setIfInBounds_toArray, List.set_cons_zero, List.set_cons_succ, i64_w, i32_w]
              rfl
             refine pure_ (i := 1) (N := some 137) (v := ?_) (a' := ?_) #[true, true, false, false, false, false, false, false, false, false, false, false, false, false, false, false, false, false, false] rfl rfl (any_of HT_.out (by kernel_rfl)) (fun _ _ _ h => h) (Or.inl ⟨by rfl, ?_⟩) ?_ ?_
             rotate_left
             ·intro w'
              go_simp
              with_reducible rfl
             rotate_left
             ·simp only [Act.put, List.setIfInBounds_toArray, List.set_cons_zero, List.set_cons_succ, i64_w, i32_w]
              rfl
             refine pure_ (i := 2) (N := some 138) (v := ?_) (a' := ?_) #[true, true, true, false, false, false, false, false, false, false, false, false, false, false, false, false, false, false, false] rfl rfl (any_of HT_.out (by kernel_rfl)) (fun _ _ _ h => h) (Or.inl ⟨by rfl, ?_⟩) ?_ ?_
             rotate_left
             ·intro w'
              go_simp
              with_reducible rfl
             rotate_left
             ·simp only [Act.put, List.setIfInBounds_toArray, List.set_cons_zero, List.set_cons_succ, i64_w, i32_w]
              rfl
             refine pure_ (i := 3) (N := some 139) (v := ?_) (a' := ?_) #[true, true, true, true, false, false, false, false, false, false, false, false, false, false, false, false, false, false, false] rfl rfl (any_of HT_.out (by kernel_rfl)) (fun _ _ _ h => h) (Or.inl ⟨by rfl, ?_⟩) ?_ ?_
             rotate_left
             ·intro w'
              go_simp
              with_reducible rfl
             rotate_left
             ·simp only [Act.put, List.setIfInBounds_toArray, List.set_cons_zero, List.set_cons_succ, i64_w, i32_w]
              rfl
             refine pure_ (i := 4) (N := some 140) (v := ?_) (a' := ?_) #[true, true, true, true, true, false, false, false, false, false, false, false, false, false, false, false, false, false, false] rfl rfl (any_of HT_.out (by kernel_rfl)) (fun _ _ _ h => h) (Or.inl ⟨by rfl, ?_⟩) ?_ ?_
             rotate_left
             ·intro w'
              go_simp
              with_reducible rfl
             rotate_left
             ·simp only [Act.put, List.setIfInBounds_toArray, List.set_cons_zero, List.set_cons_succ, i64_w, i32_w]
              rfl
             refine pure_ (i := 8) (N := some 144) (v := ?_) (a' := ?_) #[true, true, true, true, true, false, false, false, true, false, false, false, false, false, false, false, false, false, false] rfl rfl (any_of HT_.out (by kernel_rfl)) (fun _ _ _ h => h) (Or.inl ⟨by rfl, ?_⟩) ?_ ?_
             rotate_left
             ·intro w'
              go_simp
              with_reducible rfl
             rotate_left
             ·simp only [Act.put, List.setIfInBounds_toArray, List.set_cons_zero, List.set_cons_succ, i64_w, i32_w]
              rfl
             refine pure_ (i := 9) (N := some 145) (v := ?_) (a' := ?_) #[true, true, true, true, true, false, false, false, true, true, false, false, false, false, false, false, false, false, false] rfl rfl (any_of HT_.out (by kernel_rfl)) (fun _ _ _ h => h) (Or.inl ⟨by rfl, ?_⟩) ?_ ?_
             rotate_left
             ·intro w'
              go_simp
              with_reducible rfl
             rotate_left
             ·simp only [Act.put, List.setIfInBounds_toArray, List.set_cons_zero, List.set_cons_succ, i64_w, i32_w]
              rfl
             refine pure_ (i := 10) (N := some 146) (v := ?_) (a' := ?_) #[true, true, true, true, true, false, false, false, true, true, true, false, false, false, false, false, false, false, false] rfl rfl (any_of HT_.out (by kernel_rfl)) (fun _ _ _ h => h) (Or.inl ⟨by rfl, ?_⟩) ?_ ?_
             rotate_left
             ·intro w'
              go_simp
              with_reducible rfl
             rotate_left
             ·simp only [Act.put, List.setIfInBounds_toArray, List.set_cons_zero, List.set_cons_succ, i64_w, i32_w]
              rfl
             refine pure_ (i := 11) (N := some 147) (v := ?_) (a' := ?_) #[true, true, true, true, true, false, false, false, true, true, true, true, false, false, false, false, false, false, false] rfl rfl (any_of HT_.out (by kernel_rfl)) (fun _ _ _ h => h) (Or.inl ⟨by rfl, ?_⟩) ?_ ?_
             rotate_left
             ·intro w'
              go_simp
              with_reducible rfl
             rotate_left
             ·simp only [Act.put, List.setIfInBounds_toArray, List.set_cons_zero, List.set_cons_succ, i64_w, i32_w]
              rfl
             refine take_ (i := 5) (N := some 141) (v := ?_) (a' := ?_) #[true, true, true, true, true, true, false, false, true, true, true, true, false, false, false, false, false, false, false] rfl rfl (take_ofW HT_.out HW_.out (by kernel_rfl)) (fun _ _ _ h => h) (Or.inl ⟨by rfl, ?_⟩) hHeld ?_ ?_
             rotate_left
             ·rintro w' ⟨s0, s1, s2, s3, s4, s5⟩
              go_simp
              with_reducible rfl
             rotate_left
             ·simp only [Act.put, List.setIfInBounds_toArray, List.set_cons_zero, List.set_cons_succ, i64_w, i32_w]
              rfl
             refine pure_ (i := 6) (N := some 142) (v := ?_) (a' := ?_) #[true, true, true, true, true, true, true, false, true, true, true, true, false, false, false, false, false, false, false] rfl rfl (any_of HT_.out (by kernel_rfl)) (fun _ _ _ h => h) (Or.inl ⟨by rfl, ?_⟩) ?_ ?_
             rotate_left
             ·intro w'
              go_simp
              with_reducible rfl
             rotate_left
             ·simp only [Act.put, List.setIfInBounds_toArray, List.set_cons_zero, List.set_cons_succ, i64_w, i32_w]
              rfl
             refine take_ (i := 7) (N := some 143) (v := ?_) (a' := ?_) #[true, true, true, true, true, true, true, true, true, true, true, true, false, false, false, false, false, false, false] rfl rfl (take_ofW HT_.out HW_.out (by kernel_rfl)) (fun _ _ _ h => h) (Or.inl ⟨by rfl, ?_⟩) hHeld ?_ ?_
             rotate_left
             ·rintro w' ⟨s0, s1, s2, s3, s4, s5⟩
              go_simp
              with_reducible rfl
             rotate_left
             ·simp only [Act.put, List.setIfInBounds_toArray, List.set_cons_zero, List.set_cons_succ, i64_w, i32_w]
              rfl
             refine take_ (i := 12) (N := some 148) (v := ?_) (a' := ?_) #[true, true, true, true, true, true, true, true, true, true, true, true, true, false, false, false, false, false, false] rfl rfl (take_ofW HT_.out HW_.out (by kernel_rfl)) (fun _ _ _ h => h) (Or.inl ⟨by rfl, ?_⟩) hHeld ?_ ?_
             rotate_left
             ·rintro w' ⟨s0, s1, s2, s3, s4, s5⟩
              go_simp
              with_reducible rfl
             rotate_left
             ·simp only [Act.put, List.setIfInBounds_toArray, List.set_cons_zero, List.set_cons_succ, i64_w, i32_w]
              rfl
             refine pure_ (i := 13) (N := some 149) (v := ?_) (a' := ?_) #[true, true, true, true, true, true, true, true, true, true, true, true, true, true, false, false, false, false, false] rfl rfl (any_of HT_.out (by kernel_rfl)) (fun _ _ _ h => h) (Or.inl ⟨by rfl, ?_⟩) ?_ ?_
             rotate_left
             ·intro w'
              go_simp
              with_reducible rfl
             rotate_left
             ·simp only [Act.put, List.setIfInBounds_toArray, List.set_cons_zero, List.set_cons_succ, i64_w, i32_w]
              rfl
             refine take_ (i := 14) (N := some 150) (v := ?_) (a' := ?_) #[true, true, true, true, true, true, true, true, true, true, true, true, true, true, true, false, false, false, false] rfl rfl (take_ofW HT_.out HW_.out (by kernel_rfl)) (fun _ _ _ h => h) (Or.inl ⟨by rfl, ?_⟩) hHeld ?_ ?_
             rotate_left
             ·rintro w' ⟨s0, s1, s2, s3, s4, s5⟩
              go_simp
              with_reducible rfl
             rotate_left
             ·simp only [Act.put, List.setIfInBounds_toArray, List.set_cons_zero, List.set_cons_succ, i64_w, i32_w]
              rfl
             refine join_ (σ := Nat × Nat) 2 #[true, true, true, true, true, true, true, true, true, true, true, true, true, true, true, true, true, false, false] (fun s_ => [(13, .pointer (some ⟨s_.1, 0, none⟩)), (14, .pointer (some ⟨s_.2, 0, none⟩))]) (fun s_ w' => (w'.cell? (ad269.add ((ji220)).toNat) = some (.int .i64 (rd t248 (ji220))) ∧ w'.cell? (ad264.add (((rd t248 (ji220))).toNat * 2)) = some (.int .i64 ((rd_T33 x5_1 (rd t248 (ji220))).f0)) ∧ w'.cell? ⟨(ad264.add (((rd t248 (ji220))).toNat * 2)).block, (ad264.add (((rd t248 (ji220))).toNat * 2)).off + 1, none⟩ = some (.int .i64 ((rd_T33 x5_1 (rd t248 (ji220))).f1)) ∧ w'.cell? (ad269.add (x10_3).toNat) = some (.int .i64 (rd t248 x10_3)) ∧ w'.cell? (ad264.add (((rd t248 x10_3)).toNat * 2)) = some (.int .i64 ((rd_T33 x5_1 (rd t248 x10_3)).f0)) ∧ w'.cell? ⟨(ad264.add (((rd t248 x10_3)).toNat * 2)).block, (ad264.add (((rd t248 x10_3)).toNat * 2)).off + 1, none⟩ = some (.int .i64 ((rd_T33 x5_1 (rd t248 x10_3)).f1))) ∧ (Kd.R k33 33 w' w.heap.size (fun k_ => k_ ≠ gb267 ∧ k_ ≠ gb268 ∧ k_ ≠ s_.1 ∧ k_ ≠ s_.2) (.slice (some ad264) x5_1.length co179) x5_1) ∧ (Kd.R (Kd.int .i64) 3 w' w.heap.size (fun k_ => some k_ ≠ (.slice (some ad269) t248.length co245 : Value).ownBlock) (.slice (some ad261) t245.length co198) t245) ∧ (Kd.R (Kd.int .i64) 3 w' w.heap.size (fun k_ => some k_ ≠ (.slice (some ad261) t245.length co198 : Value).ownBlock) (.slice (some ad269) t248.length co245) t248) ∧ (Kd.R Kd.bool 4 w' w.heap.size (fun _ => True) (.slice (some ⟨go216, 0, none⟩) x9_3.length co216) y262) ∧ (w'.heap[gb267]? = some (.cells #[.int .i64 ((rd_T33 x5_1 (rd t245 (ji220))).f0), .int .i64 ((rd_T33 x5_1 (rd t245 (ji220))).f1)] 33 (0, 0))) ∧ (w'.heap[gb268]? = some (.cells #[.int .i64 ((rd_T33 x5_1 (rd t245 x10_3)).f0), .int .i64 ((rd_T33 x5_1 (rd t245 x10_3)).f1)] 33 (0, 0))) ∧ (w'.heap[s_.1]? = some (.cells #[.int .i64 0, .int .i64 0] 33 (0, 0))) ∧ (w'.heap[s_.2]? = some (.cells #[.int .i64 0, .int .i64 0] 33 (0, 0))) ∧ (w.heap.size ≤ s_.1) ∧ (w.heap.size ≤ s_.1) ∧ (gb267 ≠ s_.1) ∧ (s_.1 ≠ gb267) ∧ (gb268 ≠ s_.1) ∧ (s_.1 ≠ gb268) ∧ (s_.2 ≠ s_.1) ∧ (s_.1 ≠ s_.2) ∧ (w.heap.size ≤ s_.2) ∧ (w.heap.size ≤ s_.2) ∧ (gb267 ≠ s_.2) ∧ (s_.2 ≠ gb267) ∧ (gb268 ≠ s_.2) ∧ (s_.2 ≠ gb268) ∧ (Below w.heap.size w w')) ?_ ?_
             rotate_left
             ·intro hCont
              refine two_ (i := 15) (j := 16) (Ni := some 13) (Nj := some 14) #[true, true, true, true, true, true, true, true, true, true, true, true, true, true, true, true, false, false, false] #[true, true, true, true, true, true, true, true, true, true, true, true, true, true, true, false, true, false, false] rfl rfl rfl rfl (two_of HT_.out (by kernel_rfl)) (by decide) (by decide) (fun K hK => ?_) (fun K hK => ?_)
              ·skip
               refine box_step ?hg (N := 13) ?hd (cs := #[.int .i64 0, .int .i64 0]) (t := 33) ?hr ?_; (case hd => rfl); (case hg => rfl); (case hr => first | (go_simp; done) | (go_simp; rfl))
               intro gb273 hg w246 hbox hb
               have HS0_ := (hb.cell (World.block_lt_of_cell? _ _ (hHeld.1))).trans (hHeld.1)
               have HS1_ := (hb.cell (World.block_lt_of_cell? _ _ (hHeld.2.1))).trans (hHeld.2.1)
               have HS2_ := (hb.cell (World.block_lt_of_cell? _ _ (hHeld.2.2.1))).trans (hHeld.2.2.1)
               have HS3_ := (hb.cell (World.block_lt_of_cell? _ _ (hHeld.2.2.2.1))).trans (hHeld.2.2.2.1)
               have HS4_ := (hb.cell (World.block_lt_of_cell? _ _ (hHeld.2.2.2.2.1))).trans (hHeld.2.2.2.2.1)
               have HS5_ := (hb.cell (World.block_lt_of_cell? _ _ (hHeld.2.2.2.2.2))).trans (hHeld.2.2.2.2.2)
               have n0_ := Aside0.mk (Kd.R_below (Kd.R_elderB (by (with_reducible repeat (first | apply Kd.R_alloc | apply Kd.R_drewN | apply Kd.R_drew)); exact HO_5.out) gb273 (Nat.le_of_eq hg.symm)) hb)
               have n1_ := Aside0.mk (Kd.R_below (by (with_reducible repeat (first | apply Kd.R_alloc | apply Kd.R_drewN | apply Kd.R_drew)); exact HO_7.out) hb)
               have n2_ := Aside0.mk (Kd.R_below (by (with_reducible repeat (first | apply Kd.R_alloc | apply Kd.R_drewN | apply Kd.R_drew)); exact HO_8.out) hb)
               have n3_ := Aside0.mk (Kd.R_below (by (with_reducible repeat (first | apply Kd.R_alloc | apply Kd.R_drewN | apply Kd.R_drew)); exact HO_9.out) hb)
               have n4_ := Aside0.mk (blk_below (g := gb267) (o := .cells #[.int .i64 ((rd_T33 x5_1 (rd t245 (ji220))).f0), .int .i64 ((rd_T33 x5_1 (rd t245 (ji220))).f1)] 33 (0, 0)) (by (with_reducible repeat (first | refine blk_drewN ?_ _ | refine blk_drew ?_ | refine blk_alloc ?_ _)); exact BK267.out) hb)
               have n5_ := Aside0.mk (blk_below (g := gb268) (o := .cells #[.int .i64 ((rd_T33 x5_1 (rd t245 x10_3)).f0), .int .i64 ((rd_T33 x5_1 (rd t245 x10_3)).f1)] 33 (0, 0)) (by (with_reducible repeat (first | refine blk_drewN ?_ _ | refine blk_drew ?_ | refine blk_alloc ?_ _)); exact BK268.out) hb)
               have n6_ := Aside0.mk (below_step (by repeat (first | (with_reducible first | exact HB.out | apply below_alloc | apply pw_below_drewN | apply below_drew1 | refine below_set ?_ GE267.out | refine below_set ?_ GE268.out) | exact HB.out)) hb)
               have n7_ := Aside0.mk (hbox)
               have n8_ := Aside0.mk ((by rw [hg]; exact (below_size (by repeat (first | (with_reducible first | exact HB.out | apply below_alloc | apply pw_below_drewN | apply below_drew1 | refine below_set ?_ GE267.out | refine below_set ?_ GE268.out) | exact HB.out))) : w.heap.size ≤ gb273))
               have n9_ := Aside0.mk ((by rw [hg]; exact (below_size (by repeat (first | (with_reducible first | exact HB.out | apply below_alloc | apply pw_below_drewN | apply below_drew1 | refine below_set ?_ GE267.out | refine below_set ?_ GE268.out) | exact HB.out))) : w.heap.size ≤ gb273))
               have n10_ := Aside0.mk ((by rw [hg]; exact Nat.ne_of_lt (blk_lt (g := gb267) (o := .cells #[.int .i64 ((rd_T33 x5_1 (rd t245 (ji220))).f0), .int .i64 ((rd_T33 x5_1 (rd t245 (ji220))).f1)] 33 (0, 0)) (by (with_reducible repeat (first | refine blk_drewN ?_ _ | refine blk_drew ?_ | refine blk_alloc ?_ _)); exact BK267.out)) : gb267 ≠ gb273))
               have n11_ := Aside0.mk ((by rw [hg]; exact Nat.ne_of_gt (blk_lt (g := gb267) (o := .cells #[.int .i64 ((rd_T33 x5_1 (rd t245 (ji220))).f0), .int .i64 ((rd_T33 x5_1 (rd t245 (ji220))).f1)] 33 (0, 0)) (by (with_reducible repeat (first | refine blk_drewN ?_ _ | refine blk_drew ?_ | refine blk_alloc ?_ _)); exact BK267.out)) : gb273 ≠ gb267))
               have n12_ := Aside0.mk ((by rw [hg]; exact Nat.ne_of_lt (blk_lt (g := gb268) (o := .cells #[.int .i64 ((rd_T33 x5_1 (rd t245 x10_3)).f0), .int .i64 ((rd_T33 x5_1 (rd t245 x10_3)).f1)] 33 (0, 0)) (by (with_reducible repeat (first | refine blk_drewN ?_ _ | refine blk_drew ?_ | refine blk_alloc ?_ _)); exact BK268.out)) : gb268 ≠ gb273))
               have n13_ := Aside0.mk ((by rw [hg]; exact Nat.ne_of_gt (blk_lt (g := gb268) (o := .cells #[.int .i64 ((rd_T33 x5_1 (rd t245 x10_3)).f0), .int .i64 ((rd_T33 x5_1 (rd t245 x10_3)).f1)] 33 (0, 0)) (by (with_reducible repeat (first | refine blk_drewN ?_ _ | refine blk_drew ?_ | refine blk_alloc ?_ _)); exact BK268.out)) : gb273 ≠ gb268))
               clear HO_5
               clear HO_7
               clear HO_8
               clear HO_9
               clear BK267
               clear BK268
               clear HB
               have HO_5 := n0_
               have HO_7 := n1_
               have HO_8 := n2_
               have HO_9 := n3_
               have BK267 := n4_
               have BK268 := n5_
               have HB := n6_
               have BK273 := n7_
               have GW273 := n8_
               have GE273 := n9_
               have NB267_273 := n10_
               have NB273_267 := n11_
               have NB268_273 := n12_
               have NB273_268 := n13_
               clear n0_ n1_ n2_ n3_ n4_ n5_ n6_ n7_ n8_ n9_ n10_ n11_ n12_ n13_
               clear hb hbox hg
               refine hK.out _ _ ⟨HS0_, HS1_, HS2_, HS3_, HS4_, HS5_⟩ (fun hHeld => ?_)
               clear hK K
               refine norm_ (a' := ?_) ?_ ?_
               rotate_left
               ·show Act.put _ (some 13) _ = _
                simp only [Act.put, List.setIfInBounds_toArray, List.set_cons_zero, List.set_cons_succ, i64_w, i32_w]
                rfl
               refine one_ (i := 16) (N := some 14) #[true, true, true, true, true, true, true, true, true, true, true, true, true, true, true, true, true, false, false] rfl rfl (one_of HT_.out (by kernel_rfl)) (by decide) (fun K hK => ?_)
               refine box_step ?hg (N := 14) ?hd (cs := #[.int .i64 0, .int .i64 0]) (t := 33) ?hr ?_; (case hd => rfl); (case hg => rfl); (case hr => first | (go_simp; done) | (go_simp; rfl))
               intro gb274 hg w247 hbox hb
               have HS0_ := (hb.cell (World.block_lt_of_cell? _ _ (hHeld.1))).trans (hHeld.1)
               have HS1_ := (hb.cell (World.block_lt_of_cell? _ _ (hHeld.2.1))).trans (hHeld.2.1)
               have HS2_ := (hb.cell (World.block_lt_of_cell? _ _ (hHeld.2.2.1))).trans (hHeld.2.2.1)
               have HS3_ := (hb.cell (World.block_lt_of_cell? _ _ (hHeld.2.2.2.1))).trans (hHeld.2.2.2.1)
               have HS4_ := (hb.cell (World.block_lt_of_cell? _ _ (hHeld.2.2.2.2.1))).trans (hHeld.2.2.2.2.1)
               have HS5_ := (hb.cell (World.block_lt_of_cell? _ _ (hHeld.2.2.2.2.2))).trans (hHeld.2.2.2.2.2)
               have n0_ := Aside0.mk (Kd.R_below (Kd.R_elderB (by (with_reducible repeat (first | apply Kd.R_alloc | apply Kd.R_drewN | apply Kd.R_drew)); exact HO_5.out) gb274 (Nat.le_of_eq hg.symm)) hb)
               have n1_ := Aside0.mk (Kd.R_below (by (with_reducible repeat (first | apply Kd.R_alloc | apply Kd.R_drewN | apply Kd.R_drew)); exact HO_7.out) hb)
               have n2_ := Aside0.mk (Kd.R_below (by (with_reducible repeat (first | apply Kd.R_alloc | apply Kd.R_drewN | apply Kd.R_drew)); exact HO_8.out) hb)
               have n3_ := Aside0.mk (Kd.R_below (by (with_reducible repeat (first | apply Kd.R_alloc | apply Kd.R_drewN | apply Kd.R_drew)); exact HO_9.out) hb)
               have n4_ := Aside0.mk (blk_below (g := gb267) (o := .cells #[.int .i64 ((rd_T33 x5_1 (rd t245 (ji220))).f0), .int .i64 ((rd_T33 x5_1 (rd t245 (ji220))).f1)] 33 (0, 0)) (by (with_reducible repeat (first | refine blk_drewN ?_ _ | refine blk_drew ?_ | refine blk_alloc ?_ _)); exact BK267.out) hb)
               have n5_ := Aside0.mk (blk_below (g := gb268) (o := .cells #[.int .i64 ((rd_T33 x5_1 (rd t245 x10_3)).f0), .int .i64 ((rd_T33 x5_1 (rd t245 x10_3)).f1)] 33 (0, 0)) (by (with_reducible repeat (first | refine blk_drewN ?_ _ | refine blk_drew ?_ | refine blk_alloc ?_ _)); exact BK268.out) hb)
               have n6_ := Aside0.mk (blk_below (g := gb273) (o := .cells #[.int .i64 0, .int .i64 0] 33 (0, 0)) (by (with_reducible repeat (first | refine blk_drewN ?_ _ | refine blk_drew ?_ | refine blk_alloc ?_ _)); exact BK273.out) hb)
               have n7_ := Aside0.mk (below_step (by repeat (first | (with_reducible first | exact HB.out | apply below_alloc | apply pw_below_drewN | apply below_drew1 | refine below_set ?_ GE267.out | refine below_set ?_ GE268.out | refine below_set ?_ GE273.out) | exact HB.out)) hb)
               have n8_ := Aside0.mk (hbox)
               have n9_ := Aside0.mk ((by rw [hg]; exact (below_size (by repeat (first | (with_reducible first | exact HB.out | apply below_alloc | apply pw_below_drewN | apply below_drew1 | refine below_set ?_ GE267.out | refine below_set ?_ GE268.out | refine below_set ?_ GE273.out) | exact HB.out))) : w.heap.size ≤ gb274))
               have n10_ := Aside0.mk ((by rw [hg]; exact (below_size (by repeat (first | (with_reducible first | exact HB.out | apply below_alloc | apply pw_below_drewN | apply below_drew1 | refine below_set ?_ GE267.out | refine below_set ?_ GE268.out | refine below_set ?_ GE273.out) | exact HB.out))) : w.heap.size ≤ gb274))
               have n11_ := Aside0.mk ((by rw [hg]; exact Nat.ne_of_lt (blk_lt (g := gb267) (o := .cells #[.int .i64 ((rd_T33 x5_1 (rd t245 (ji220))).f0), .int .i64 ((rd_T33 x5_1 (rd t245 (ji220))).f1)] 33 (0, 0)) (by (with_reducible repeat (first | refine blk_drewN ?_ _ | refine blk_drew ?_ | refine blk_alloc ?_ _)); exact BK267.out)) : gb267 ≠ gb274))
               have n12_ := Aside0.mk ((by rw [hg]; exact Nat.ne_of_gt (blk_lt (g := gb267) (o := .cells #[.int .i64 ((rd_T33 x5_1 (rd t245 (ji220))).f0), .int .i64 ((rd_T33 x5_1 (rd t245 (ji220))).f1)] 33 (0, 0)) (by (with_reducible repeat (first | refine blk_drewN ?_ _ | refine blk_drew ?_ | refine blk_alloc ?_ _)); exact BK267.out)) : gb274 ≠ gb267))
               have n13_ := Aside0.mk ((by rw [hg]; exact Nat.ne_of_lt (blk_lt (g := gb268) (o := .cells #[.int .i64 ((rd_T33 x5_1 (rd t245 x10_3)).f0), .int .i64 ((rd_T33 x5_1 (rd t245 x10_3)).f1)] 33 (0, 0)) (by (with_reducible repeat (first | refine blk_drewN ?_ _ | refine blk_drew ?_ | refine blk_alloc ?_ _)); exact BK268.out)) : gb268 ≠ gb274))
               have n14_ := Aside0.mk ((by rw [hg]; exact Nat.ne_of_gt (blk_lt (g := gb268) (o := .cells #[.int .i64 ((rd_T33 x5_1 (rd t245 x10_3)).f0), .int .i64 ((rd_T33 x5_1 (rd t245 x10_3)).f1)] 33 (0, 0)) (by (with_reducible repeat (first | refine blk_drewN ?_ _ | refine blk_drew ?_ | refine blk_alloc ?_ _)); exact BK268.out)) : gb274 ≠ gb268))
               have n15_ := Aside0.mk ((by rw [hg]; exact Nat.ne_of_lt (blk_lt (g := gb273) (o := .cells #[.int .i64 0, .int .i64 0] 33 (0, 0)) (by (with_reducible repeat (first | refine blk_drewN ?_ _ | refine blk_drew ?_ | refine blk_alloc ?_ _)); exact BK273.out)) : gb273 ≠ gb274))
               have n16_ := Aside0.mk ((by rw [hg]; exact Nat.ne_of_gt (blk_lt (g := gb273) (o := .cells #[.int .i64 0, .int .i64 0] 33 (0, 0)) (by (with_reducible repeat (first | refine blk_drewN ?_ _ | refine blk_drew ?_ | refine blk_alloc ?_ _)); exact BK273.out)) : gb274 ≠ gb273))
               clear HO_5
               clear HO_7
               clear HO_8
               clear HO_9
               clear BK267
               clear BK268
               clear BK273
               clear HB
               have HO_5 := n0_
               have HO_7 := n1_
               have HO_8 := n2_
               have HO_9 := n3_
               have BK267 := n4_
               have BK268 := n5_
               have BK273 := n6_
               have HB := n7_
               have BK274 := n8_
               have GW274 := n9_
               have GE274 := n10_
               have NB267_274 := n11_
               have NB274_267 := n12_
               have NB268_274 := n13_
               have NB274_268 := n14_
               have NB273_274 := n15_
               have NB274_273 := n16_
               clear n0_ n1_ n2_ n3_ n4_ n5_ n6_ n7_ n8_ n9_ n10_ n11_ n12_ n13_ n14_ n15_ n16_
               clear hb hbox hg
               refine hK.out _ _ ⟨HS0_, HS1_, HS2_, HS3_, HS4_, HS5_⟩ (fun hHeld => ?_)
               clear hK K
               refine norm_ (a' := ?_) ?_ ?_
               rotate_left
               ·show Act.put _ (some 14) _ = _
                simp only [Act.put, List.setIfInBounds_toArray, List.set_cons_zero, List.set_cons_succ, i64_w, i32_w]
                rfl
               exact norm_ (by simp only [putAll, Act.put, List.setIfInBounds_toArray, List.set_cons_zero, List.set_cons_succ]) (hCont (gb273, gb274) _ ⟨hHeld, (by (with_reducible repeat (first | apply Kd.R_alloc | apply Kd.R_drewN | apply Kd.R_drew)); exact Kd.R_mono HO_5.out (fun _ hk => ⟨hk.1.1.1, ⟨hk.1.1.2, ⟨hk.1.2, hk.2⟩⟩⟩)), (by (with_reducible repeat (first | apply Kd.R_alloc | apply Kd.R_drewN | apply Kd.R_drew)); exact HO_7.out), (by (with_reducible repeat (first | apply Kd.R_alloc | apply Kd.R_drewN | apply Kd.R_drew)); exact HO_8.out), (by (with_reducible repeat (first | apply Kd.R_alloc | apply Kd.R_drewN | apply Kd.R_drew)); exact HO_9.out), (by (with_reducible repeat (first | refine blk_drewN ?_ _ | refine blk_drew ?_ | refine blk_alloc ?_ _)); exact BK267.out), (by (with_reducible repeat (first | refine blk_drewN ?_ _ | refine blk_drew ?_ | refine blk_alloc ?_ _)); exact BK268.out), (by (with_reducible repeat (first | refine blk_drewN ?_ _ | refine blk_drew ?_ | refine blk_alloc ?_ _)); exact BK273.out), (by (with_reducible repeat (first | refine blk_drewN ?_ _ | refine blk_drew ?_ | refine blk_alloc ?_ _)); exact BK274.out), GW273.out, GE273.out, NB267_273.out, NB273_267.out, NB268_273.out, NB273_268.out, NB274_273.out, NB273_274.out, GW274.out, GE274.out, NB267_274.out, NB274_267.out, NB268_274.out, NB274_268.out, (by repeat (first | (with_reducible first | exact HB.out | apply below_alloc | apply pw_below_drewN | apply below_drew1 | refine below_set ?_ GE267.out | refine below_set ?_ GE268.out | refine below_set ?_ GE273.out | refine below_set ?_ GE274.out) | exact HB.out))⟩)
              ·skip
               refine box_step ?hg (N := 14) ?hd (cs := #[.int .i64 0, .int .i64 0]) (t := 33) ?hr ?_; (case hd => rfl); (case hg => rfl); (case hr => first | (go_simp; done) | (go_simp; rfl))
               intro gb274 hg w246 hbox hb
               have HS0_ := (hb.cell (World.block_lt_of_cell? _ _ (hHeld.1))).trans (hHeld.1)
               have HS1_ := (hb.cell (World.block_lt_of_cell? _ _ (hHeld.2.1))).trans (hHeld.2.1)
               have HS2_ := (hb.cell (World.block_lt_of_cell? _ _ (hHeld.2.2.1))).trans (hHeld.2.2.1)
               have HS3_ := (hb.cell (World.block_lt_of_cell? _ _ (hHeld.2.2.2.1))).trans (hHeld.2.2.2.1)
               have HS4_ := (hb.cell (World.block_lt_of_cell? _ _ (hHeld.2.2.2.2.1))).trans (hHeld.2.2.2.2.1)
               have HS5_ := (hb.cell (World.block_lt_of_cell? _ _ (hHeld.2.2.2.2.2))).trans (hHeld.2.2.2.2.2)
               have n0_ := Aside0.mk (Kd.R_below (Kd.R_elderB (by (with_reducible repeat (first | apply Kd.R_alloc | apply Kd.R_drewN | apply Kd.R_drew)); exact HO_5.out) gb274 (Nat.le_of_eq hg.symm)) hb)
               have n1_ := Aside0.mk (Kd.R_below (by (with_reducible repeat (first | apply Kd.R_alloc | apply Kd.R_drewN | apply Kd.R_drew)); exact HO_7.out) hb)
               have n2_ := Aside0.mk (Kd.R_below (by (with_reducible repeat (first | apply Kd.R_alloc | apply Kd.R_drewN | apply Kd.R_drew)); exact HO_8.out) hb)
               have n3_ := Aside0.mk (Kd.R_below (by (with_reducible repeat (first | apply Kd.R_alloc | apply Kd.R_drewN | apply Kd.R_drew)); exact HO_9.out) hb)
               have n4_ := Aside0.mk (blk_below (g := gb267) (o := .cells #[.int .i64 ((rd_T33 x5_1 (rd t245 (ji220))).f0), .int .i64 ((rd_T33 x5_1 (rd t245 (ji220))).f1)] 33 (0, 0)) (by (with_reducible repeat (first | refine blk_drewN ?_ _ | refine blk_drew ?_ | refine blk_alloc ?_ _)); exact BK267.out) hb)
               have n5_ := Aside0.mk (blk_below (g := gb268) (o := .cells #[.int .i64 ((rd_T33 x5_1 (rd t245 x10_3)).f0), .int .i64 ((rd_T33 x5_1 (rd t245 x10_3)).f1)] 33 (0, 0)) (by (with_reducible repeat (first | refine blk_drewN ?_ _ | refine blk_drew ?_ | refine blk_alloc ?_ _)); exact BK268.out) hb)
               have n6_ := Aside0.mk (below_step (by repeat (first | (with_reducible first | exact HB.out | apply below_alloc | apply pw_below_drewN | apply below_drew1 | refine below_set ?_ GE267.out | refine below_set ?_ GE268.out) | exact HB.out)) hb)
               have n7_ := Aside0.mk (hbox)
               have n8_ := Aside0.mk ((by rw [hg]; exact (below_size (by repeat (first | (with_reducible first | exact HB.out | apply below_alloc | apply pw_below_drewN | apply below_drew1 | refine below_set ?_ GE267.out | refine below_set ?_ GE268.out) | exact HB.out))) : w.heap.size ≤ gb274))
               have n9_ := Aside0.mk ((by rw [hg]; exact (below_size (by repeat (first | (with_reducible first | exact HB.out | apply below_alloc | apply pw_below_drewN | apply below_drew1 | refine below_set ?_ GE267.out | refine below_set ?_ GE268.out) | exact HB.out))) : w.heap.size ≤ gb274))
               have n10_ := Aside0.mk ((by rw [hg]; exact Nat.ne_of_lt (blk_lt (g := gb267) (o := .cells #[.int .i64 ((rd_T33 x5_1 (rd t245 (ji220))).f0), .int .i64 ((rd_T33 x5_1 (rd t245 (ji220))).f1)] 33 (0, 0)) (by (with_reducible repeat (first | refine blk_drewN ?_ _ | refine blk_drew ?_ | refine blk_alloc ?_ _)); exact BK267.out)) : gb267 ≠ gb274))
               have n11_ := Aside0.mk ((by rw [hg]; exact Nat.ne_of_gt (blk_lt (g := gb267) (o := .cells #[.int .i64 ((rd_T33 x5_1 (rd t245 (ji220))).f0), .int .i64 ((rd_T33 x5_1 (rd t245 (ji220))).f1)] 33 (0, 0)) (by (with_reducible repeat (first | refine blk_drewN ?_ _ | refine blk_drew ?_ | refine blk_alloc ?_ _)); exact BK267.out)) : gb274 ≠ gb267))
               have n12_ := Aside0.mk ((by rw [hg]; exact Nat.ne_of_lt (blk_lt (g := gb268) (o := .cells #[.int .i64 ((rd_T33 x5_1 (rd t245 x10_3)).f0), .int .i64 ((rd_T33 x5_1 (rd t245 x10_3)).f1)] 33 (0, 0)) (by (with_reducible repeat (first | refine blk_drewN ?_ _ | refine blk_drew ?_ | refine blk_alloc ?_ _)); exact BK268.out)) : gb268 ≠ gb274))
               have n13_ := Aside0.mk ((by rw [hg]; exact Nat.ne_of_gt (blk_lt (g := gb268) (o := .cells #[.int .i64 ((rd_T33 x5_1 (rd t245 x10_3)).f0), .int .i64 ((rd_T33 x5_1 (rd t245 x10_3)).f1)] 33 (0, 0)) (by (with_reducible repeat (first | refine blk_drewN ?_ _ | refine blk_drew ?_ | refine blk_alloc ?_ _)); exact BK268.out)) : gb274 ≠ gb268))
               clear HO_5
               clear HO_7
               clear HO_8
               clear HO_9
               clear BK267
               clear BK268
               clear HB
               have HO_5 := n0_
               have HO_7 := n1_
               have HO_8 := n2_
               have HO_9 := n3_
               have BK267 := n4_
               have BK268 := n5_
               have HB := n6_
               have BK274 := n7_
               have GW274 := n8_
               have GE274 := n9_
               have NB267_274 := n10_
               have NB274_267 := n11_
               have NB268_274 := n12_
               have NB274_268 := n13_
               clear n0_ n1_ n2_ n3_ n4_ n5_ n6_ n7_ n8_ n9_ n10_ n11_ n12_ n13_
               clear hb hbox hg
               refine hK.out _ _ ⟨HS0_, HS1_, HS2_, HS3_, HS4_, HS5_⟩ (fun hHeld => ?_)
               clear hK K
               refine norm_ (a' := ?_) ?_ ?_
               rotate_left
               ·show Act.put _ (some 14) _ = _
                simp only [Act.put, List.setIfInBounds_toArray, List.set_cons_zero, List.set_cons_succ, i64_w, i32_w]
                rfl
               refine one_ (i := 15) (N := some 13) #[true, true, true, true, true, true, true, true, true, true, true, true, true, true, true, true, true, false, false] rfl rfl (one_of HT_.out (by kernel_rfl)) (by decide) (fun K hK => ?_)
               refine box_step ?hg (N := 13) ?hd (cs := #[.int .i64 0, .int .i64 0]) (t := 33) ?hr ?_; (case hd => rfl); (case hg => rfl); (case hr => first | (go_simp; done) | (go_simp; rfl))
               intro gb273 hg w247 hbox hb
               have HS0_ := (hb.cell (World.block_lt_of_cell? _ _ (hHeld.1))).trans (hHeld.1)
               have HS1_ := (hb.cell (World.block_lt_of_cell? _ _ (hHeld.2.1))).trans (hHeld.2.1)
               have HS2_ := (hb.cell (World.block_lt_of_cell? _ _ (hHeld.2.2.1))).trans (hHeld.2.2.1)
               have HS3_ := (hb.cell (World.block_lt_of_cell? _ _ (hHeld.2.2.2.1))).trans (hHeld.2.2.2.1)
               have HS4_ := (hb.cell (World.block_lt_of_cell? _ _ (hHeld.2.2.2.2.1))).trans (hHeld.2.2.2.2.1)
               have HS5_ := (hb.cell (World.block_lt_of_cell? _ _ (hHeld.2.2.2.2.2))).trans (hHeld.2.2.2.2.2)
               have n0_ := Aside0.mk (Kd.R_below (Kd.R_elderB (by (with_reducible repeat (first | apply Kd.R_alloc | apply Kd.R_drewN | apply Kd.R_drew)); exact HO_5.out) gb273 (Nat.le_of_eq hg.symm)) hb)
               have n1_ := Aside0.mk (Kd.R_below (by (with_reducible repeat (first | apply Kd.R_alloc | apply Kd.R_drewN | apply Kd.R_drew)); exact HO_7.out) hb)
               have n2_ := Aside0.mk (Kd.R_below (by (with_reducible repeat (first | apply Kd.R_alloc | apply Kd.R_drewN | apply Kd.R_drew)); exact HO_8.out) hb)
               have n3_ := Aside0.mk (Kd.R_below (by (with_reducible repeat (first | apply Kd.R_alloc | apply Kd.R_drewN | apply Kd.R_drew)); exact HO_9.out) hb)
               have n4_ := Aside0.mk (blk_below (g := gb267) (o := .cells #[.int .i64 ((rd_T33 x5_1 (rd t245 (ji220))).f0), .int .i64 ((rd_T33 x5_1 (rd t245 (ji220))).f1)] 33 (0, 0)) (by (with_reducible repeat (first | refine blk_drewN ?_ _ | refine blk_drew ?_ | refine blk_alloc ?_ _)); exact BK267.out) hb)
               have n5_ := Aside0.mk (blk_below (g := gb268) (o := .cells #[.int .i64 ((rd_T33 x5_1 (rd t245 x10_3)).f0), .int .i64 ((rd_T33 x5_1 (rd t245 x10_3)).f1)] 33 (0, 0)) (by (with_reducible repeat (first | refine blk_drewN ?_ _ | refine blk_drew ?_ | refine blk_alloc ?_ _)); exact BK268.out) hb)
               have n6_ := Aside0.mk (blk_below (g := gb274) (o := .cells #[.int .i64 0, .int .i64 0] 33 (0, 0)) (by (with_reducible repeat (first | refine blk_drewN ?_ _ | refine blk_drew ?_ | refine blk_alloc ?_ _)); exact BK274.out) hb)
               have n7_ := Aside0.mk (below_step (by repeat (first | (with_reducible first | exact HB.out | apply below_alloc | apply pw_below_drewN | apply below_drew1 | refine below_set ?_ GE267.out | refine below_set ?_ GE268.out | refine below_set ?_ GE274.out) | exact HB.out)) hb)
               have n8_ := Aside0.mk (hbox)
               have n9_ := Aside0.mk ((by rw [hg]; exact (below_size (by repeat (first | (with_reducible first | exact HB.out | apply below_alloc | apply pw_below_drewN | apply below_drew1 | refine below_set ?_ GE267.out | refine below_set ?_ GE268.out | refine below_set ?_ GE274.out) | exact HB.out))) : w.heap.size ≤ gb273))
               have n10_ := Aside0.mk ((by rw [hg]; exact (below_size (by repeat (first | (with_reducible first | exact HB.out | apply below_alloc | apply pw_below_drewN | apply below_drew1 | refine below_set ?_ GE267.out | refine below_set ?_ GE268.out | refine below_set ?_ GE274.out) | exact HB.out))) : w.heap.size ≤ gb273))
               have n11_ := Aside0.mk ((by rw [hg]; exact Nat.ne_of_lt (blk_lt (g := gb267) (o := .cells #[.int .i64 ((rd_T33 x5_1 (rd t245 (ji220))).f0), .int .i64 ((rd_T33 x5_1 (rd t245 (ji220))).f1)] 33 (0, 0)) (by (with_reducible repeat (first | refine blk_drewN ?_ _ | refine blk_drew ?_ | refine blk_alloc ?_ _)); exact BK267.out)) : gb267 ≠ gb273))
               have n12_ := Aside0.mk ((by rw [hg]; exact Nat.ne_of_gt (blk_lt (g := gb267) (o := .cells #[.int .i64 ((rd_T33 x5_1 (rd t245 (ji220))).f0), .int .i64 ((rd_T33 x5_1 (rd t245 (ji220))).f1)] 33 (0, 0)) (by (with_reducible repeat (first | refine blk_drewN ?_ _ | refine blk_drew ?_ | refine blk_alloc ?_ _)); exact BK267.out)) : gb273 ≠ gb267))
               have n13_ := Aside0.mk ((by rw [hg]; exact Nat.ne_of_lt (blk_lt (g := gb268) (o := .cells #[.int .i64 ((rd_T33 x5_1 (rd t245 x10_3)).f0), .int .i64 ((rd_T33 x5_1 (rd t245 x10_3)).f1)] 33 (0, 0)) (by (with_reducible repeat (first | refine blk_drewN ?_ _ | refine blk_drew ?_ | refine blk_alloc ?_ _)); exact BK268.out)) : gb268 ≠ gb273))
               have n14_ := Aside0.mk ((by rw [hg]; exact Nat.ne_of_gt (blk_lt (g := gb268) (o := .cells #[.int .i64 ((rd_T33 x5_1 (rd t245 x10_3)).f0), .int .i64 ((rd_T33 x5_1 (rd t245 x10_3)).f1)] 33 (0, 0)) (by (with_reducible repeat (first | refine blk_drewN ?_ _ | refine blk_drew ?_ | refine blk_alloc ?_ _)); exact BK268.out)) : gb273 ≠ gb268))
               have n15_ := Aside0.mk ((by rw [hg]; exact Nat.ne_of_lt (blk_lt (g := gb274) (o := .cells #[.int .i64 0, .int .i64 0] 33 (0, 0)) (by (with_reducible repeat (first | refine blk_drewN ?_ _ | refine blk_drew ?_ | refine blk_alloc ?_ _)); exact BK274.out)) : gb274 ≠ gb273))
               have n16_ := Aside0.mk ((by rw [hg]; exact Nat.ne_of_gt (blk_lt (g := gb274) (o := .cells #[.int .i64 0, .int .i64 0] 33 (0, 0)) (by (with_reducible repeat (first | refine blk_drewN ?_ _ | refine blk_drew ?_ | refine blk_alloc ?_ _)); exact BK274.out)) : gb273 ≠ gb274))
               clear HO_5
               clear HO_7
               clear HO_8
               clear HO_9
               clear BK267
               clear BK268
               clear BK274
               clear HB
               have HO_5 := n0_
               have HO_7 := n1_
               have HO_8 := n2_
               have HO_9 := n3_
               have BK267 := n4_
               have BK268 := n5_
               have BK274 := n6_
               have HB := n7_
               have BK273 := n8_
               have GW273 := n9_
               have GE273 := n10_
               have NB267_273 := n11_
               have NB273_267 := n12_
               have NB268_273 := n13_
               have NB273_268 := n14_
               have NB274_273 := n15_
               have NB273_274 := n16_
               clear n0_ n1_ n2_ n3_ n4_ n5_ n6_ n7_ n8_ n9_ n10_ n11_ n12_ n13_ n14_ n15_ n16_
               clear hb hbox hg
               refine hK.out _ _ ⟨HS0_, HS1_, HS2_, HS3_, HS4_, HS5_⟩ (fun hHeld => ?_)
               clear hK K
               refine norm_ (a' := ?_) ?_ ?_
               rotate_left
               ·show Act.put _ (some 13) _ = _
                simp only [Act.put, List.setIfInBounds_toArray, List.set_cons_zero, List.set_cons_succ, i64_w, i32_w]
                rfl
               exact norm_ (by simp only [putAll, Act.put, List.setIfInBounds_toArray, List.set_cons_zero, List.set_cons_succ]) (hCont (gb273, gb274) _ ⟨hHeld, (by (with_reducible repeat (first | apply Kd.R_alloc | apply Kd.R_drewN | apply Kd.R_drew)); exact Kd.R_mono HO_5.out (fun _ hk => ⟨hk.1.1.1, ⟨hk.1.1.2, ⟨hk.2, hk.1.2⟩⟩⟩)), (by (with_reducible repeat (first | apply Kd.R_alloc | apply Kd.R_drewN | apply Kd.R_drew)); exact HO_7.out), (by (with_reducible repeat (first | apply Kd.R_alloc | apply Kd.R_drewN | apply Kd.R_drew)); exact HO_8.out), (by (with_reducible repeat (first | apply Kd.R_alloc | apply Kd.R_drewN | apply Kd.R_drew)); exact HO_9.out), (by (with_reducible repeat (first | refine blk_drewN ?_ _ | refine blk_drew ?_ | refine blk_alloc ?_ _)); exact BK267.out), (by (with_reducible repeat (first | refine blk_drewN ?_ _ | refine blk_drew ?_ | refine blk_alloc ?_ _)); exact BK268.out), (by (with_reducible repeat (first | refine blk_drewN ?_ _ | refine blk_drew ?_ | refine blk_alloc ?_ _)); exact BK273.out), (by (with_reducible repeat (first | refine blk_drewN ?_ _ | refine blk_drew ?_ | refine blk_alloc ?_ _)); exact BK274.out), GW273.out, GE273.out, NB267_273.out, NB273_267.out, NB268_273.out, NB273_268.out, NB274_273.out, NB273_274.out, GW274.out, GE274.out, NB267_274.out, NB274_267.out, NB268_274.out, NB274_268.out, (by repeat (first | (with_reducible first | exact HB.out | apply below_alloc | apply pw_below_drewN | apply below_drew1 | refine below_set ?_ GE267.out | refine below_set ?_ GE268.out | refine below_set ?_ GE274.out | refine below_set ?_ GE273.out) | exact HB.out))⟩)
             rintro ⟨gb273, gb274⟩ w248 ⟨hS_, h0_, h1_, h2_, h3_, h4_, h5_, h6_, h7_, h8_, h9_, h10_, h11_, h12_, h13_, h14_, h15_, h16_, h17_, h18_, h19_, h20_, h21_, h22_⟩
             have n0_ : Aside0 (Kd.R k33 33 w248 w.heap.size (fun k_ => k_ ≠ gb267 ∧ k_ ≠ gb268 ∧ k_ ≠ gb273 ∧ k_ ≠ gb274) (.slice (some ad264) x5_1.length co179) x5_1) := ⟨h0_⟩
             have n1_ : Aside0 (Kd.R (Kd.int .i64) 3 w248 w.heap.size (fun k_ => some k_ ≠ (.slice (some ad269) t248.length co245 : Value).ownBlock) (.slice (some ad261) t245.length co198) t245) := ⟨h1_⟩
             have n2_ : Aside0 (Kd.R (Kd.int .i64) 3 w248 w.heap.size (fun k_ => some k_ ≠ (.slice (some ad261) t245.length co198 : Value).ownBlock) (.slice (some ad269) t248.length co245) t248) := ⟨h2_⟩
             have n3_ : Aside0 (Kd.R Kd.bool 4 w248 w.heap.size (fun _ => True) (.slice (some ⟨go216, 0, none⟩) x9_3.length co216) y262) := ⟨h3_⟩
             have n4_ : Aside0 (w248.heap[gb267]? = some (.cells #[.int .i64 ((rd_T33 x5_1 (rd t245 (ji220))).f0), .int .i64 ((rd_T33 x5_1 (rd t245 (ji220))).f1)] 33 (0, 0))) := ⟨h4_⟩
             have n5_ : Aside0 (w248.heap[gb268]? = some (.cells #[.int .i64 ((rd_T33 x5_1 (rd t245 x10_3)).f0), .int .i64 ((rd_T33 x5_1 (rd t245 x10_3)).f1)] 33 (0, 0))) := ⟨h5_⟩
             have n6_ : Aside0 (w248.heap[gb273]? = some (.cells #[.int .i64 0, .int .i64 0] 33 (0, 0))) := ⟨h6_⟩
             have n7_ : Aside0 (w248.heap[gb274]? = some (.cells #[.int .i64 0, .int .i64 0] 33 (0, 0))) := ⟨h7_⟩
             have n8_ : Aside0 (w.heap.size ≤ gb273) := ⟨h8_⟩
             have n9_ : Aside0 (w.heap.size ≤ gb273) := ⟨h9_⟩
             have n10_ : Aside0 (gb267 ≠ gb273) := ⟨h10_⟩
             have n11_ : Aside0 (gb273 ≠ gb267) := ⟨h11_⟩
             have n12_ : Aside0 (gb268 ≠ gb273) := ⟨h12_⟩
             have n13_ : Aside0 (gb273 ≠ gb268) := ⟨h13_⟩
             have n14_ : Aside0 (gb274 ≠ gb273) := ⟨h14_⟩
             have n15_ : Aside0 (gb273 ≠ gb274) := ⟨h15_⟩
             have n16_ : Aside0 (w.heap.size ≤ gb274) := ⟨h16_⟩
             have n17_ : Aside0 (w.heap.size ≤ gb274) := ⟨h17_⟩
             have n18_ : Aside0 (gb267 ≠ gb274) := ⟨h18_⟩
             have n19_ : Aside0 (gb274 ≠ gb267) := ⟨h19_⟩
             have n20_ : Aside0 (gb268 ≠ gb274) := ⟨h20_⟩
             have n21_ : Aside0 (gb274 ≠ gb268) := ⟨h21_⟩
             have n22_ : Aside0 (Below w.heap.size w w248) := ⟨h22_⟩
             clear HO_5
             clear HO_7
             clear HO_8
             clear HO_9
             clear BK267
             clear BK268
             clear HB
             clear h0_ h1_ h2_ h3_ h4_ h5_ h6_ h7_ h8_ h9_ h10_ h11_ h12_ h13_ h14_ h15_ h16_ h17_ h18_ h19_ h20_ h21_ h22_
             have HO_5 := n0_
             have HO_7 := n1_
             have HO_8 := n2_
             have HO_9 := n3_
             have BK267 := n4_
             have BK268 := n5_
             have BK273 := n6_
             have BK274 := n7_
             have GW273 := n8_
             have GE273 := n9_
             have NB267_273 := n10_
             have NB273_267 := n11_
             have NB268_273 := n12_
             have NB273_268 := n13_
             have NB274_273 := n14_
             have NB273_274 := n15_
             have GW274 := n16_
             have GE274 := n17_
             have NB267_274 := n18_
             have NB274_267 := n19_
             have NB268_274 := n20_
             have NB274_268 := n21_
             have HB := n22_
             clear n0_ n1_ n2_ n3_ n4_ n5_ n6_ n7_ n8_ n9_ n10_ n11_ n12_ n13_ n14_ n15_ n16_ n17_ n18_ n19_ n20_ n21_ n22_
             have hHeld : w248.cell? (ad269.add ((ji220)).toNat) = some (.int .i64 (rd t248 (ji220))) ∧ w248.cell? (ad264.add (((rd t248 (ji220))).toNat * 2)) = some (.int .i64 ((rd_T33 x5_1 (rd t248 (ji220))).f0)) ∧ w248.cell? ⟨(ad264.add (((rd t248 (ji220))).toNat * 2)).block, (ad264.add (((rd t248 (ji220))).toNat * 2)).off + 1, none⟩ = some (.int .i64 ((rd_T33 x5_1 (rd t248 (ji220))).f1)) ∧ w248.cell? (ad269.add (x10_3).toNat) = some (.int .i64 (rd t248 x10_3)) ∧ w248.cell? (ad264.add (((rd t248 x10_3)).toNat * 2)) = some (.int .i64 ((rd_T33 x5_1 (rd t248 x10_3)).f0)) ∧ w248.cell? ⟨(ad264.add (((rd t248 x10_3)).toNat * 2)).block, (ad264.add (((rd t248 x10_3)).toNat * 2)).off + 1, none⟩ = some (.int .i64 ((rd_T33 x5_1 (rd t248 x10_3)).f1)) := hS_
             refine norm_ (a' := ?_) ?_ ?_
             rotate_left
             ·simp only [putAll, Act.put, List.setIfInBounds_toArray, List.set_cons_zero, List.set_cons_succ]
              rfl
             refine one_ (i := 17) (N := none) #[true, true, true, true, true, true, true, true, true, true, true, true, true, true, true, true, true, true, false] rfl rfl (one_of HT_.out (by kernel_rfl)) (by decide) (fun K hK => ?_)
             have hs249 : w248.cell? ⟨gb273, 0, none⟩ = some (.int .i64 0) := (blk_cell BK273.out 0).trans rfl
             have hfs249 := blk_frozen BK273.out 0
             have hns249_0 := NB267_273.out
             have hns249_1 := NB268_273.out
             have hns249_3 := NB274_273.out
             have hms249_0 := NB273_267.out
             have hms249_1 := NB273_268.out
             have hms249_3 := NB273_274.out
             have hs250 : w248.cell? ⟨gb273, 1, none⟩ = some (.int .i64 0) := (blk_cell BK273.out 1).trans rfl
             have hfs250 := blk_frozen BK273.out 1
             have hns250_0 := NB267_273.out
             have hns250_1 := NB268_273.out
             have hns250_3 := NB274_273.out
             have hms250_0 := NB273_267.out
             have hms250_1 := NB273_268.out
             have hms250_3 := NB273_274.out
             refine skip_ (w1 := ?_) (by rfl) rfl ?_ ?_
             rotate_left
             ·go_simp
              rfl
             refine hK.out _ _ ⟨((cell_far (p := ⟨gb273, _, none⟩) (by first | exact Kd.own_blk (Kd.R_ne HO_8.out BK273.out (by decide)) | (rw [add_block]; exact Kd.own_blk (Kd.R_ne HO_8.out BK273.out (by decide))) | (show (Addr.add _ _).block ≠ _; rw [add_block]; exact Kd.own_blk (Kd.R_ne HO_8.out BK273.out (by decide))) | (dsimp only; exact Kd.own_blk (Kd.R_ne HO_8.out BK273.out (by decide)))) _).trans (((cell_far (p := ⟨gb273, _, none⟩) (by first | exact Kd.own_blk (Kd.R_ne HO_8.out BK273.out (by decide)) | (rw [add_block]; exact Kd.own_blk (Kd.R_ne HO_8.out BK273.out (by decide))) | (show (Addr.add _ _).block ≠ _; rw [add_block]; exact Kd.own_blk (Kd.R_ne HO_8.out BK273.out (by decide))) | (dsimp only; exact Kd.own_blk (Kd.R_ne HO_8.out BK273.out (by decide)))) _).trans (hHeld.1)))), ((cell_far (p := ⟨gb273, _, none⟩) (by first | exact Kd.own_blk (Kd.R_away HO_5.out (fun _ hk => hk.2.2.1)) | (rw [add_block]; exact Kd.own_blk (Kd.R_away HO_5.out (fun _ hk => hk.2.2.1))) | (show (Addr.add _ _).block ≠ _; rw [add_block]; exact Kd.own_blk (Kd.R_away HO_5.out (fun _ hk => hk.2.2.1))) | (dsimp only; exact Kd.own_blk (Kd.R_away HO_5.out (fun _ hk => hk.2.2.1)))) _).trans (((cell_far (p := ⟨gb273, _, none⟩) (by first | exact Kd.own_blk (Kd.R_away HO_5.out (fun _ hk => hk.2.2.1)) | (rw [add_block]; exact Kd.own_blk (Kd.R_away HO_5.out (fun _ hk => hk.2.2.1))) | (show (Addr.add _ _).block ≠ _; rw [add_block]; exact Kd.own_blk (Kd.R_away HO_5.out (fun _ hk => hk.2.2.1))) | (dsimp only; exact Kd.own_blk (Kd.R_away HO_5.out (fun _ hk => hk.2.2.1)))) _).trans (hHeld.2.1)))), ((cell_far (p := ⟨gb273, _, none⟩) (by first | exact Kd.own_blk (Kd.R_away HO_5.out (fun _ hk => hk.2.2.1)) | (rw [add_block]; exact Kd.own_blk (Kd.R_away HO_5.out (fun _ hk => hk.2.2.1))) | (show (Addr.add _ _).block ≠ _; rw [add_block]; exact Kd.own_blk (Kd.R_away HO_5.out (fun _ hk => hk.2.2.1))) | (dsimp only; exact Kd.own_blk (Kd.R_away HO_5.out (fun _ hk => hk.2.2.1)))) _).trans (((cell_far (p := ⟨gb273, _, none⟩) (by first | exact Kd.own_blk (Kd.R_away HO_5.out (fun _ hk => hk.2.2.1)) | (rw [add_block]; exact Kd.own_blk (Kd.R_away HO_5.out (fun _ hk => hk.2.2.1))) | (show (Addr.add _ _).block ≠ _; rw [add_block]; exact Kd.own_blk (Kd.R_away HO_5.out (fun _ hk => hk.2.2.1))) | (dsimp only; exact Kd.own_blk (Kd.R_away HO_5.out (fun _ hk => hk.2.2.1)))) _).trans (hHeld.2.2.1)))), ((cell_far (p := ⟨gb273, _, none⟩) (by first | exact Kd.own_blk (Kd.R_ne HO_8.out BK273.out (by decide)) | (rw [add_block]; exact Kd.own_blk (Kd.R_ne HO_8.out BK273.out (by decide))) | (show (Addr.add _ _).block ≠ _; rw [add_block]; exact Kd.own_blk (Kd.R_ne HO_8.out BK273.out (by decide))) | (dsimp only; exact Kd.own_blk (Kd.R_ne HO_8.out BK273.out (by decide)))) _).trans (((cell_far (p := ⟨gb273, _, none⟩) (by first | exact Kd.own_blk (Kd.R_ne HO_8.out BK273.out (by decide)) | (rw [add_block]; exact Kd.own_blk (Kd.R_ne HO_8.out BK273.out (by decide))) | (show (Addr.add _ _).block ≠ _; rw [add_block]; exact Kd.own_blk (Kd.R_ne HO_8.out BK273.out (by decide))) | (dsimp only; exact Kd.own_blk (Kd.R_ne HO_8.out BK273.out (by decide)))) _).trans (hHeld.2.2.2.1)))), ((cell_far (p := ⟨gb273, _, none⟩) (by first | exact Kd.own_blk (Kd.R_away HO_5.out (fun _ hk => hk.2.2.1)) | (rw [add_block]; exact Kd.own_blk (Kd.R_away HO_5.out (fun _ hk => hk.2.2.1))) | (show (Addr.add _ _).block ≠ _; rw [add_block]; exact Kd.own_blk (Kd.R_away HO_5.out (fun _ hk => hk.2.2.1))) | (dsimp only; exact Kd.own_blk (Kd.R_away HO_5.out (fun _ hk => hk.2.2.1)))) _).trans (((cell_far (p := ⟨gb273, _, none⟩) (by first | exact Kd.own_blk (Kd.R_away HO_5.out (fun _ hk => hk.2.2.1)) | (rw [add_block]; exact Kd.own_blk (Kd.R_away HO_5.out (fun _ hk => hk.2.2.1))) | (show (Addr.add _ _).block ≠ _; rw [add_block]; exact Kd.own_blk (Kd.R_away HO_5.out (fun _ hk => hk.2.2.1))) | (dsimp only; exact Kd.own_blk (Kd.R_away HO_5.out (fun _ hk => hk.2.2.1)))) _).trans (hHeld.2.2.2.2.1)))), ((cell_far (p := ⟨gb273, _, none⟩) (by first | exact Kd.own_blk (Kd.R_away HO_5.out (fun _ hk => hk.2.2.1)) | (rw [add_block]; exact Kd.own_blk (Kd.R_away HO_5.out (fun _ hk => hk.2.2.1))) | (show (Addr.add _ _).block ≠ _; rw [add_block]; exact Kd.own_blk (Kd.R_away HO_5.out (fun _ hk => hk.2.2.1))) | (dsimp only; exact Kd.own_blk (Kd.R_away HO_5.out (fun _ hk => hk.2.2.1)))) _).trans (((cell_far (p := ⟨gb273, _, none⟩) (by first | exact Kd.own_blk (Kd.R_away HO_5.out (fun _ hk => hk.2.2.1)) | (rw [add_block]; exact Kd.own_blk (Kd.R_away HO_5.out (fun _ hk => hk.2.2.1))) | (show (Addr.add _ _).block ≠ _; rw [add_block]; exact Kd.own_blk (Kd.R_away HO_5.out (fun _ hk => hk.2.2.1))) | (dsimp only; exact Kd.own_blk (Kd.R_away HO_5.out (fun _ hk => hk.2.2.1)))) _).trans (hHeld.2.2.2.2.2))))⟩ (fun hHeld => ?_)
             clear hK K
             refine one_ (i := 18) (N := none) #[true, true, true, true, true, true, true, true, true, true, true, true, true, true, true, true, true, true, true] rfl rfl (one_of HT_.out (by kernel_rfl)) (by decide) (fun K hK => ?_)
             have hs251 : w248.cell? ⟨gb274, 0, none⟩ = some (.int .i64 0) := (blk_cell BK274.out 0).trans rfl
             have hfs251 := blk_frozen BK274.out 0
             have hns251_0 := NB267_274.out
             have hns251_1 := NB268_274.out
             have hns251_2 := NB273_274.out
             have hms251_0 := NB274_267.out
             have hms251_1 := NB274_268.out
             have hms251_2 := NB274_273.out
             have hs252 : w248.cell? ⟨gb274, 1, none⟩ = some (.int .i64 0) := (blk_cell BK274.out 1).trans rfl
             have hfs252 := blk_frozen BK274.out 1
             have hns252_0 := NB267_274.out
             have hns252_1 := NB268_274.out
             have hns252_2 := NB273_274.out
             have hms252_0 := NB274_267.out
             have hms252_1 := NB274_268.out
             have hms252_2 := NB274_273.out
             refine skip_ (w1 := ?_) (by rfl) rfl ?_ ?_
             rotate_left
             ·go_simp
              rfl
             refine hK.out _ _ ⟨((cell_far (p := ⟨gb274, _, none⟩) (by first | exact Kd.own_blk (Kd.R_ne HO_8.out BK274.out (by decide)) | (rw [add_block]; exact Kd.own_blk (Kd.R_ne HO_8.out BK274.out (by decide))) | (show (Addr.add _ _).block ≠ _; rw [add_block]; exact Kd.own_blk (Kd.R_ne HO_8.out BK274.out (by decide))) | (dsimp only; exact Kd.own_blk (Kd.R_ne HO_8.out BK274.out (by decide)))) _).trans (((cell_far (p := ⟨gb274, _, none⟩) (by first | exact Kd.own_blk (Kd.R_ne HO_8.out BK274.out (by decide)) | (rw [add_block]; exact Kd.own_blk (Kd.R_ne HO_8.out BK274.out (by decide))) | (show (Addr.add _ _).block ≠ _; rw [add_block]; exact Kd.own_blk (Kd.R_ne HO_8.out BK274.out (by decide))) | (dsimp only; exact Kd.own_blk (Kd.R_ne HO_8.out BK274.out (by decide)))) _).trans (hHeld.1)))), ((cell_far (p := ⟨gb274, _, none⟩) (by first | exact Kd.own_blk (Kd.R_away HO_5.out (fun _ hk => hk.2.2.2)) | (rw [add_block]; exact Kd.own_blk (Kd.R_away HO_5.out (fun _ hk => hk.2.2.2))) | (show (Addr.add _ _).block ≠ _; rw [add_block]; exact Kd.own_blk (Kd.R_away HO_5.out (fun _ hk => hk.2.2.2))) | (dsimp only; exact Kd.own_blk (Kd.R_away HO_5.out (fun _ hk => hk.2.2.2)))) _).trans (((cell_far (p := ⟨gb274, _, none⟩) (by first | exact Kd.own_blk (Kd.R_away HO_5.out (fun _ hk => hk.2.2.2)) | (rw [add_block]; exact Kd.own_blk (Kd.R_away HO_5.out (fun _ hk => hk.2.2.2))) | (show (Addr.add _ _).block ≠ _; rw [add_block]; exact Kd.own_blk (Kd.R_away HO_5.out (fun _ hk => hk.2.2.2))) | (dsimp only; exact Kd.own_blk (Kd.R_away HO_5.out (fun _ hk => hk.2.2.2)))) _).trans (hHeld.2.1)))), ((cell_far (p := ⟨gb274, _, none⟩) (by first | exact Kd.own_blk (Kd.R_away HO_5.out (fun _ hk => hk.2.2.2)) | (rw [add_block]; exact Kd.own_blk (Kd.R_away HO_5.out (fun _ hk => hk.2.2.2))) | (show (Addr.add _ _).block ≠ _; rw [add_block]; exact Kd.own_blk (Kd.R_away HO_5.out (fun _ hk => hk.2.2.2))) | (dsimp only; exact Kd.own_blk (Kd.R_away HO_5.out (fun _ hk => hk.2.2.2)))) _).trans (((cell_far (p := ⟨gb274, _, none⟩) (by first | exact Kd.own_blk (Kd.R_away HO_5.out (fun _ hk => hk.2.2.2)) | (rw [add_block]; exact Kd.own_blk (Kd.R_away HO_5.out (fun _ hk => hk.2.2.2))) | (show (Addr.add _ _).block ≠ _; rw [add_block]; exact Kd.own_blk (Kd.R_away HO_5.out (fun _ hk => hk.2.2.2))) | (dsimp only; exact Kd.own_blk (Kd.R_away HO_5.out (fun _ hk => hk.2.2.2)))) _).trans (hHeld.2.2.1)))), ((cell_far (p := ⟨gb274, _, none⟩) (by first | exact Kd.own_blk (Kd.R_ne HO_8.out BK274.out (by decide)) | (rw [add_block]; exact Kd.own_blk (Kd.R_ne HO_8.out BK274.out (by decide))) | (show (Addr.add _ _).block ≠ _; rw [add_block]; exact Kd.own_blk (Kd.R_ne HO_8.out BK274.out (by decide))) | (dsimp only; exact Kd.own_blk (Kd.R_ne HO_8.out BK274.out (by decide)))) _).trans (((cell_far (p := ⟨gb274, _, none⟩) (by first | exact Kd.own_blk (Kd.R_ne HO_8.out BK274.out (by decide)) | (rw [add_block]; exact Kd.own_blk (Kd.R_ne HO_8.out BK274.out (by decide))) | (show (Addr.add _ _).block ≠ _; rw [add_block]; exact Kd.own_blk (Kd.R_ne HO_8.out BK274.out (by decide))) | (dsimp only; exact Kd.own_blk (Kd.R_ne HO_8.out BK274.out (by decide)))) _).trans (hHeld.2.2.2.1)))), ((cell_far (p := ⟨gb274, _, none⟩) (by first | exact Kd.own_blk (Kd.R_away HO_5.out (fun _ hk => hk.2.2.2)) | (rw [add_block]; exact Kd.own_blk (Kd.R_away HO_5.out (fun _ hk => hk.2.2.2))) | (show (Addr.add _ _).block ≠ _; rw [add_block]; exact Kd.own_blk (Kd.R_away HO_5.out (fun _ hk => hk.2.2.2))) | (dsimp only; exact Kd.own_blk (Kd.R_away HO_5.out (fun _ hk => hk.2.2.2)))) _).trans (((cell_far (p := ⟨gb274, _, none⟩) (by first | exact Kd.own_blk (Kd.R_away HO_5.out (fun _ hk => hk.2.2.2)) | (rw [add_block]; exact Kd.own_blk (Kd.R_away HO_5.out (fun _ hk => hk.2.2.2))) | (show (Addr.add _ _).block ≠ _; rw [add_block]; exact Kd.own_blk (Kd.R_away HO_5.out (fun _ hk => hk.2.2.2))) | (dsimp only; exact Kd.own_blk (Kd.R_away HO_5.out (fun _ hk => hk.2.2.2)))) _).trans (hHeld.2.2.2.2.1)))), ((cell_far (p := ⟨gb274, _, none⟩) (by first | exact Kd.own_blk (Kd.R_away HO_5.out (fun _ hk => hk.2.2.2)) | (rw [add_block]; exact Kd.own_blk (Kd.R_away HO_5.out (fun _ hk => hk.2.2.2))) | (show (Addr.add _ _).block ≠ _; rw [add_block]; exact Kd.own_blk (Kd.R_away HO_5.out (fun _ hk => hk.2.2.2))) | (dsimp only; exact Kd.own_blk (Kd.R_away HO_5.out (fun _ hk => hk.2.2.2)))) _).trans (((cell_far (p := ⟨gb274, _, none⟩) (by first | exact Kd.own_blk (Kd.R_away HO_5.out (fun _ hk => hk.2.2.2)) | (rw [add_block]; exact Kd.own_blk (Kd.R_away HO_5.out (fun _ hk => hk.2.2.2))) | (show (Addr.add _ _).block ≠ _; rw [add_block]; exact Kd.own_blk (Kd.R_away HO_5.out (fun _ hk => hk.2.2.2))) | (dsimp only; exact Kd.own_blk (Kd.R_away HO_5.out (fun _ hk => hk.2.2.2)))) _).trans (hHeld.2.2.2.2.2))))⟩ (fun hHeld => ?_)
             clear hK K
             refine done_ (done_of HT_.out (by kernel_rfl)) ?_
             go_upto_region 23 with (fail)
             go_cut [190] (fun v190 wc => ∃ (kq : Nat) (x190_231 : Bool), v190 = .bool x190_231 ∧ Aside0 (scarflaw03_RankBy.j9 kq x5_1 t245 t248 y262 x10_3 x190_231 = some r) ∧ Aside0 (kq ≤ kj196) ∧ Aside0 (Kd.R k33 33 wc w.heap.size (fun k_ => k_ ≠ gb267 ∧ k_ ≠ gb268 ∧ k_ ≠ gb273 ∧ k_ ≠ gb274) (.slice (some ad264) x5_1.length co179) x5_1) ∧ Aside0 (Kd.R (Kd.int .i64) 3 wc w.heap.size (fun k_ => some k_ ≠ ((.slice (some ad269) t248.length co245) : Value).ownBlock) (.slice (some ad261) t245.length co198) t245) ∧ Aside0 (Kd.R (Kd.int .i64) 3 wc w.heap.size (fun k_ => some k_ ≠ ((.slice (some ad261) t245.length co198) : Value).ownBlock) (.slice (some ad269) t248.length co245) t248) ∧ Aside0 (Kd.R Kd.bool 4 wc w.heap.size (fun _ => True) (.slice (some ⟨go216, 0, none⟩) x9_3.length co216) y262) ∧ Aside0 (wc.heap[gb267]? = some (.cells #[.int .i64 ((rd_T33 x5_1 (rd t245 (ji220))).f0), .int .i64 ((rd_T33 x5_1 (rd t245 (ji220))).f1)] 33 (0, 0))) ∧ Aside0 (wc.heap[gb268]? = some (.cells #[.int .i64 ((rd_T33 x5_1 (rd t245 x10_3)).f0), .int .i64 ((rd_T33 x5_1 (rd t245 x10_3)).f1)] 33 (0, 0))) ∧ Aside0 (wc.heap[gb273]? = some (.cells #[.int .i64 ((rd_T33 x5_1 (rd t248 (ji220))).f0), .int .i64 ((rd_T33 x5_1 (rd t248 (ji220))).f1)] 33 (0, 0))) ∧ Aside0 (wc.heap[gb274]? = some (.cells #[.int .i64 ((rd_T33 x5_1 (rd t248 x10_3)).f0), .int .i64 ((rd_T33 x5_1 (rd t248 x10_3)).f1)] 33 (0, 0))) ∧ Aside0 (Below w.heap.size w wc))
             case first =>
              have H := HC232.out
              clear HC232
              by_cases c253 : ((rd_T33 x5_1 (rd t245 (ji220))).f0) > ((rd_T33 x5_1 (rd t245 x10_3)).f0)
              ·rw [if_pos c253] at H
               have c253b0 : decide (((rd_T33 x5_1 (rd t245 x10_3)).f0) < ((rd_T33 x5_1 (rd t245 (ji220))).f0)) = true := decide_eq_true c253
               clear c253
               (first | rw [c253b0] | (simp only [i64_w, i32_w]; rw [c253b0]) | skip)
               have H' := Aside0.mk H
               clear H
               have hnb254 := NB267_268.out
               have hnc254 := NB268_267.out
               have hnb255 := NB267_273.out
               have hnc255 := NB273_267.out
               have hnb256 := NB267_274.out
               have hnc256 := NB274_267.out
               have hcz257_0 : w248.cell? ⟨gb267, 0, none⟩ = some (.int .i64 ((rd_T33 x5_1 (rd t245 (ji220))).f0)) := (blk_cell BK267.out 0).trans rfl
               have hcz257_1 : w248.cell? ⟨gb267, 1, none⟩ = some (.int .i64 ((rd_T33 x5_1 (rd t245 (ji220))).f1)) := (blk_cell BK267.out 1).trans rfl
               have hfz257_0 := blk_frozen BK267.out 0
               have hfz257_1 := blk_frozen BK267.out 1
               have hnb258 := NB268_273.out
               have hnc258 := NB273_268.out
               have hnb259 := NB268_274.out
               have hnc259 := NB274_268.out
               have hcz260_0 : w248.cell? ⟨gb268, 0, none⟩ = some (.int .i64 ((rd_T33 x5_1 (rd t245 x10_3)).f0)) := (blk_cell BK268.out 0).trans rfl
               have hcz260_1 : w248.cell? ⟨gb268, 1, none⟩ = some (.int .i64 ((rd_T33 x5_1 (rd t245 x10_3)).f1)) := (blk_cell BK268.out 1).trans rfl
               have hfz260_0 := blk_frozen BK268.out 0
               have hfz260_1 := blk_frozen BK268.out 1
               go_wp2
               go_meet
               case rel => exact ⟨_, (true), (by first | rfl | (simp; done) | (simp [*]; done)), H', ⟨by have := HK1.out; have := HJ177.out; have := HK3.out; have := HJ196.out; first | omega | exact Nat.le_refl _⟩, ⟨by (with_reducible repeat (first | apply Kd.R_alloc | apply Kd.R_drewN | apply Kd.R_drew)); exact Kd.R_mono (Kd.R_far (p := ⟨gb274, 1, none⟩) (Kd.R_far (p := ⟨gb274, 0, none⟩) (Kd.R_far (p := ⟨gb273, 1, none⟩) (Kd.R_far (p := ⟨gb273, 0, none⟩) (Kd.R_mono (Kd.R_mono HO_5.out (fun k_ hk => (⟨hk, hk.2.2.1⟩ : _ ∧ k_ ≠ gb273))) (fun k_ hk => (⟨hk, hk.1.2.2.2⟩ : _ ∧ k_ ≠ gb274))) (fun _ hk => hk.1.2) (.int .i64 ((rd_T33 x5_1 (rd t248 (ji220))).f0))) (fun _ hk => hk.1.2) (.int .i64 ((rd_T33 x5_1 (rd t248 (ji220))).f1))) (fun _ hk => hk.2) (.int .i64 ((rd_T33 x5_1 (rd t248 x10_3)).f0))) (fun _ hk => hk.2) (.int .i64 ((rd_T33 x5_1 (rd t248 x10_3)).f1))) (fun _ hk => ⟨hk.1.1.1, ⟨hk.1.1.2.1, ⟨hk.1.1.2.2.1, hk.1.1.2.2.2⟩⟩⟩)⟩, ⟨by (with_reducible repeat (first | apply Kd.R_alloc | apply Kd.R_drewN | apply Kd.R_drew)); exact Kd.R_mono (Kd.R_far (p := ⟨gb274, 1, none⟩) (Kd.R_far (p := ⟨gb274, 0, none⟩) (Kd.R_far (p := ⟨gb273, 1, none⟩) (Kd.R_far (p := ⟨gb273, 0, none⟩) (Kd.R_types (Kd.R_types HO_7.out BK273.out (by decide)) BK274.out (by decide)) (fun _ hk => hk.1.2) (.int .i64 ((rd_T33 x5_1 (rd t248 (ji220))).f0))) (fun _ hk => hk.1.2) (.int .i64 ((rd_T33 x5_1 (rd t248 (ji220))).f1))) (fun _ hk => hk.2) (.int .i64 ((rd_T33 x5_1 (rd t248 x10_3)).f0))) (fun _ hk => hk.2) (.int .i64 ((rd_T33 x5_1 (rd t248 x10_3)).f1))) (fun _ hk => hk.1.1)⟩, ⟨by (with_reducible repeat (first | apply Kd.R_alloc | apply Kd.R_drewN | apply Kd.R_drew)); exact Kd.R_mono (Kd.R_far (p := ⟨gb274, 1, none⟩) (Kd.R_far (p := ⟨gb274, 0, none⟩) (Kd.R_far (p := ⟨gb273, 1, none⟩) (Kd.R_far (p := ⟨gb273, 0, none⟩) (Kd.R_types (Kd.R_types HO_8.out BK273.out (by decide)) BK274.out (by decide)) (fun _ hk => hk.1.2) (.int .i64 ((rd_T33 x5_1 (rd t248 (ji220))).f0))) (fun _ hk => hk.1.2) (.int .i64 ((rd_T33 x5_1 (rd t248 (ji220))).f1))) (fun _ hk => hk.2) (.int .i64 ((rd_T33 x5_1 (rd t248 x10_3)).f0))) (fun _ hk => hk.2) (.int .i64 ((rd_T33 x5_1 (rd t248 x10_3)).f1))) (fun _ hk => hk.1.1)⟩, ⟨by (with_reducible repeat (first | apply Kd.R_alloc | apply Kd.R_drewN | apply Kd.R_drew)); exact Kd.R_mono (Kd.R_far (p := ⟨gb274, 1, none⟩) (Kd.R_far (p := ⟨gb274, 0, none⟩) (Kd.R_far (p := ⟨gb273, 1, none⟩) (Kd.R_far (p := ⟨gb273, 0, none⟩) (Kd.R_types (Kd.R_types HO_9.out BK273.out (by decide)) BK274.out (by decide)) (fun _ hk => hk.1.2) (.int .i64 ((rd_T33 x5_1 (rd t248 (ji220))).f0))) (fun _ hk => hk.1.2) (.int .i64 ((rd_T33 x5_1 (rd t248 (ji220))).f1))) (fun _ hk => hk.2) (.int .i64 ((rd_T33 x5_1 (rd t248 x10_3)).f0))) (fun _ hk => hk.2) (.int .i64 ((rd_T33 x5_1 (rd t248 x10_3)).f1))) (fun _ hk => trivial)⟩, ⟨by (with_reducible repeat (first | refine blk_drewN ?_ _ | refine blk_drew ?_ | refine blk_alloc ?_ _)); refine blk_far ?_ NB267_274.out _; (with_reducible repeat (first | refine blk_drewN ?_ _ | refine blk_drew ?_ | refine blk_alloc ?_ _)); refine blk_far ?_ NB267_274.out _; (with_reducible repeat (first | refine blk_drewN ?_ _ | refine blk_drew ?_ | refine blk_alloc ?_ _)); refine blk_far ?_ NB267_273.out _; (with_reducible repeat (first | refine blk_drewN ?_ _ | refine blk_drew ?_ | refine blk_alloc ?_ _)); refine blk_far ?_ NB267_273.out _; (with_reducible repeat (first | refine blk_drewN ?_ _ | refine blk_drew ?_ | refine blk_alloc ?_ _)); exact BK267.out⟩, ⟨by (with_reducible repeat (first | refine blk_drewN ?_ _ | refine blk_drew ?_ | refine blk_alloc ?_ _)); refine blk_far ?_ NB268_274.out _; (with_reducible repeat (first | refine blk_drewN ?_ _ | refine blk_drew ?_ | refine blk_alloc ?_ _)); refine blk_far ?_ NB268_274.out _; (with_reducible repeat (first | refine blk_drewN ?_ _ | refine blk_drew ?_ | refine blk_alloc ?_ _)); refine blk_far ?_ NB268_273.out _; (with_reducible repeat (first | refine blk_drewN ?_ _ | refine blk_drew ?_ | refine blk_alloc ?_ _)); refine blk_far ?_ NB268_273.out _; (with_reducible repeat (first | refine blk_drewN ?_ _ | refine blk_drew ?_ | refine blk_alloc ?_ _)); exact BK268.out⟩, ⟨by (with_reducible repeat (first | refine blk_drewN ?_ _ | refine blk_drew ?_ | refine blk_alloc ?_ _)); refine blk_far ?_ NB273_274.out _; (with_reducible repeat (first | refine blk_drewN ?_ _ | refine blk_drew ?_ | refine blk_alloc ?_ _)); refine blk_far ?_ NB273_274.out _; (with_reducible repeat (first | refine blk_drewN ?_ _ | refine blk_drew ?_ | refine blk_alloc ?_ _)); refine blk_put (cs := #[.int .i64 ((rd_T33 x5_1 (rd t248 (ji220))).f0), .int .i64 0]) ?_ 1 _ rfl; (with_reducible repeat (first | refine blk_drewN ?_ _ | refine blk_drew ?_ | refine blk_alloc ?_ _)); refine blk_put (cs := #[.int .i64 0, .int .i64 0]) ?_ 0 _ rfl; (with_reducible repeat (first | refine blk_drewN ?_ _ | refine blk_drew ?_ | refine blk_alloc ?_ _)); exact BK273.out⟩, ⟨by (with_reducible repeat (first | refine blk_drewN ?_ _ | refine blk_drew ?_ | refine blk_alloc ?_ _)); refine blk_put (cs := #[.int .i64 ((rd_T33 x5_1 (rd t248 x10_3)).f0), .int .i64 0]) ?_ 1 _ rfl; (with_reducible repeat (first | refine blk_drewN ?_ _ | refine blk_drew ?_ | refine blk_alloc ?_ _)); refine blk_put (cs := #[.int .i64 0, .int .i64 0]) ?_ 0 _ rfl; (with_reducible repeat (first | refine blk_drewN ?_ _ | refine blk_drew ?_ | refine blk_alloc ?_ _)); refine blk_far ?_ NB274_273.out _; (with_reducible repeat (first | refine blk_drewN ?_ _ | refine blk_drew ?_ | refine blk_alloc ?_ _)); refine blk_far ?_ NB274_273.out _; (with_reducible repeat (first | refine blk_drewN ?_ _ | refine blk_drew ?_ | refine blk_alloc ?_ _)); exact BK274.out⟩, ⟨by repeat (first | (with_reducible first | exact HB.out | apply below_alloc | apply pw_below_drewN | apply below_drew1 | refine below_set ?_ GE267.out | refine below_set ?_ GE268.out | refine below_set ?_ GE273.out | refine below_set ?_ GE274.out) | exact HB.out)⟩⟩
              rw [if_neg c253] at H
              have c253b0 : decide (((rd_T33 x5_1 (rd t245 x10_3)).f0) < ((rd_T33 x5_1 (rd t245 (ji220))).f0)) = false := decide_eq_false c253
              clear c253
              (first | rw [c253b0] | (simp only [i64_w, i32_w]; rw [c253b0]) | skip)
              by_cases c261 : ((rd_T33 x5_1 (rd t245 (ji220))).f0) = ((rd_T33 x5_1 (rd t245 x10_3)).f0)
              rotate_left
              ·rw [if_neg c261] at H
               have c261b0 : (((rd_T33 x5_1 (rd t245 (ji220))).f0) == ((rd_T33 x5_1 (rd t245 x10_3)).f0)) = false := beq_eq_false_iff_ne.mpr c261
               have c261b1 : (((rd_T33 x5_1 (rd t245 (ji220))).f0) != ((rd_T33 x5_1 (rd t245 x10_3)).f0)) = true := bne_iff_ne.mpr c261
               by_cases c302 : ((rd_T33 x5_1 (rd t248 (ji220))).f0) < ((rd_T33 x5_1 (rd t248 x10_3)).f0)
               ·rw [if_pos c302] at H
                have c302b0 : decide (((rd_T33 x5_1 (rd t248 (ji220))).f0) < ((rd_T33 x5_1 (rd t248 x10_3)).f0)) = true := decide_eq_true c302
                clear c302
                have H' := Aside0.mk H
                clear H
                have hnb303 := NB267_268.out
                have hnc303 := NB268_267.out
                have hnb304 := NB267_273.out
                have hnc304 := NB273_267.out
                have hnb305 := NB267_274.out
                have hnc305 := NB274_267.out
                have hcz306_0 : w248.cell? ⟨gb267, 0, none⟩ = some (.int .i64 ((rd_T33 x5_1 (rd t245 (ji220))).f0)) := (blk_cell BK267.out 0).trans rfl
                have hcz306_1 : w248.cell? ⟨gb267, 1, none⟩ = some (.int .i64 ((rd_T33 x5_1 (rd t245 (ji220))).f1)) := (blk_cell BK267.out 1).trans rfl
                have hfz306_0 := blk_frozen BK267.out 0
                have hfz306_1 := blk_frozen BK267.out 1
                have hnb307 := NB268_273.out
                have hnc307 := NB273_268.out
                have hnb308 := NB268_274.out
                have hnc308 := NB274_268.out
                have hcz309_0 : w248.cell? ⟨gb268, 0, none⟩ = some (.int .i64 ((rd_T33 x5_1 (rd t245 x10_3)).f0)) := (blk_cell BK268.out 0).trans rfl
                have hcz309_1 : w248.cell? ⟨gb268, 1, none⟩ = some (.int .i64 ((rd_T33 x5_1 (rd t245 x10_3)).f1)) := (blk_cell BK268.out 1).trans rfl
                have hfz309_0 := blk_frozen BK268.out 0
                have hfz309_1 := blk_frozen BK268.out 1
                have hnb310 := NB273_274.out
                have hnc310 := NB274_273.out
                have hcz311_0 : w248.cell? ⟨gb273, 0, none⟩ = some (.int .i64 0) := (blk_cell BK273.out 0).trans rfl
                have hcz311_1 : w248.cell? ⟨gb273, 1, none⟩ = some (.int .i64 0) := (blk_cell BK273.out 1).trans rfl
                have hfz311_0 := blk_frozen BK273.out 0
                have hfz311_1 := blk_frozen BK273.out 1
                have hcz312_0 : w248.cell? ⟨gb274, 0, none⟩ = some (.int .i64 0) := (blk_cell BK274.out 0).trans rfl
                have hcz312_1 : w248.cell? ⟨gb274, 1, none⟩ = some (.int .i64 0) := (blk_cell BK274.out 1).trans rfl
                have hfz312_0 := blk_frozen BK274.out 0
                have hfz312_1 := blk_frozen BK274.out 1
                go_wp2
                go_meet
                case rel => exact ⟨_, (true), (by first | rfl | (simp; done) | (simp [*]; done)), H', ⟨by have := HK1.out; have := HJ177.out; have := HK3.out; have := HJ196.out; first | omega | exact Nat.le_refl _⟩, ⟨by (with_reducible repeat (first | apply Kd.R_alloc | apply Kd.R_drewN | apply Kd.R_drew)); exact Kd.R_mono (Kd.R_far (p := ⟨gb274, 1, none⟩) (Kd.R_far (p := ⟨gb274, 0, none⟩) (Kd.R_far (p := ⟨gb273, 1, none⟩) (Kd.R_far (p := ⟨gb273, 0, none⟩) (Kd.R_mono (Kd.R_mono HO_5.out (fun k_ hk => (⟨hk, hk.2.2.1⟩ : _ ∧ k_ ≠ gb273))) (fun k_ hk => (⟨hk, hk.1.2.2.2⟩ : _ ∧ k_ ≠ gb274))) (fun _ hk => hk.1.2) (.int .i64 ((rd_T33 x5_1 (rd t248 (ji220))).f0))) (fun _ hk => hk.1.2) (.int .i64 ((rd_T33 x5_1 (rd t248 (ji220))).f1))) (fun _ hk => hk.2) (.int .i64 ((rd_T33 x5_1 (rd t248 x10_3)).f0))) (fun _ hk => hk.2) (.int .i64 ((rd_T33 x5_1 (rd t248 x10_3)).f1))) (fun _ hk => ⟨hk.1.1.1, ⟨hk.1.1.2.1, ⟨hk.1.1.2.2.1, hk.1.1.2.2.2⟩⟩⟩)⟩, ⟨by (with_reducible repeat (first | apply Kd.R_alloc | apply Kd.R_drewN | apply Kd.R_drew)); exact Kd.R_mono (Kd.R_far (p := ⟨gb274, 1, none⟩) (Kd.R_far (p := ⟨gb274, 0, none⟩) (Kd.R_far (p := ⟨gb273, 1, none⟩) (Kd.R_far (p := ⟨gb273, 0, none⟩) (Kd.R_types (Kd.R_types HO_7.out BK273.out (by decide)) BK274.out (by decide)) (fun _ hk => hk.1.2) (.int .i64 ((rd_T33 x5_1 (rd t248 (ji220))).f0))) (fun _ hk => hk.1.2) (.int .i64 ((rd_T33 x5_1 (rd t248 (ji220))).f1))) (fun _ hk => hk.2) (.int .i64 ((rd_T33 x5_1 (rd t248 x10_3)).f0))) (fun _ hk => hk.2) (.int .i64 ((rd_T33 x5_1 (rd t248 x10_3)).f1))) (fun _ hk => hk.1.1)⟩, ⟨by (with_reducible repeat (first | apply Kd.R_alloc | apply Kd.R_drewN | apply Kd.R_drew)); exact Kd.R_mono (Kd.R_far (p := ⟨gb274, 1, none⟩) (Kd.R_far (p := ⟨gb274, 0, none⟩) (Kd.R_far (p := ⟨gb273, 1, none⟩) (Kd.R_far (p := ⟨gb273, 0, none⟩) (Kd.R_types (Kd.R_types HO_8.out BK273.out (by decide)) BK274.out (by decide)) (fun _ hk => hk.1.2) (.int .i64 ((rd_T33 x5_1 (rd t248 (ji220))).f0))) (fun _ hk => hk.1.2) (.int .i64 ((rd_T33 x5_1 (rd t248 (ji220))).f1))) (fun _ hk => hk.2) (.int .i64 ((rd_T33 x5_1 (rd t248 x10_3)).f0))) (fun _ hk => hk.2) (.int .i64 ((rd_T33 x5_1 (rd t248 x10_3)).f1))) (fun _ hk => hk.1.1)⟩, ⟨by (with_reducible repeat (first | apply Kd.R_alloc | apply Kd.R_drewN | apply Kd.R_drew)); exact Kd.R_mono (Kd.R_far (p := ⟨gb274, 1, none⟩) (Kd.R_far (p := ⟨gb274, 0, none⟩) (Kd.R_far (p := ⟨gb273, 1, none⟩) (Kd.R_far (p := ⟨gb273, 0, none⟩) (Kd.R_types (Kd.R_types HO_9.out BK273.out (by decide)) BK274.out (by decide)) (fun _ hk => hk.1.2) (.int .i64 ((rd_T33 x5_1 (rd t248 (ji220))).f0))) (fun _ hk => hk.1.2) (.int .i64 ((rd_T33 x5_1 (rd t248 (ji220))).f1))) (fun _ hk => hk.2) (.int .i64 ((rd_T33 x5_1 (rd t248 x10_3)).f0))) (fun _ hk => hk.2) (.int .i64 ((rd_T33 x5_1 (rd t248 x10_3)).f1))) (fun _ hk => trivial)⟩, ⟨by (with_reducible repeat (first | refine blk_drewN ?_ _ | refine blk_drew ?_ | refine blk_alloc ?_ _)); refine blk_far ?_ NB267_274.out _; (with_reducible repeat (first | refine blk_drewN ?_ _ | refine blk_drew ?_ | refine blk_alloc ?_ _)); refine blk_far ?_ NB267_274.out _; (with_reducible repeat (first | refine blk_drewN ?_ _ | refine blk_drew ?_ | refine blk_alloc ?_ _)); refine blk_far ?_ NB267_273.out _; (with_reducible repeat (first | refine blk_drewN ?_ _ | refine blk_drew ?_ | refine blk_alloc ?_ _)); refine blk_far ?_ NB267_273.out _; (with_reducible repeat (first | refine blk_drewN ?_ _ | refine blk_drew ?_ | refine blk_alloc ?_ _)); exact BK267.out⟩, ⟨by (with_reducible repeat (first | refine blk_drewN ?_ _ | refine blk_drew ?_ | refine blk_alloc ?_ _)); refine blk_far ?_ NB268_274.out _; (with_reducible repeat (first | refine blk_drewN ?_ _ | refine blk_drew ?_ | refine blk_alloc ?_ _)); refine blk_far ?_ NB268_274.out _; (with_reducible repeat (first | refine blk_drewN ?_ _ | refine blk_drew ?_ | refine blk_alloc ?_ _)); refine blk_far ?_ NB268_273.out _; (with_reducible repeat (first | refine blk_drewN ?_ _ | refine blk_drew ?_ | refine blk_alloc ?_ _)); refine blk_far ?_ NB268_273.out _; (with_reducible repeat (first | refine blk_drewN ?_ _ | refine blk_drew ?_ | refine blk_alloc ?_ _)); exact BK268.out⟩, ⟨by (with_reducible repeat (first | refine blk_drewN ?_ _ | refine blk_drew ?_ | refine blk_alloc ?_ _)); refine blk_far ?_ NB273_274.out _; (with_reducible repeat (first | refine blk_drewN ?_ _ | refine blk_drew ?_ | refine blk_alloc ?_ _)); refine blk_far ?_ NB273_274.out _; (with_reducible repeat (first | refine blk_drewN ?_ _ | refine blk_drew ?_ | refine blk_alloc ?_ _)); refine blk_put (cs := #[.int .i64 ((rd_T33 x5_1 (rd t248 (ji220))).f0), .int .i64 0]) ?_ 1 _ rfl; (with_reducible repeat (first | refine blk_drewN ?_ _ | refine blk_drew ?_ | refine blk_alloc ?_ _)); refine blk_put (cs := #[.int .i64 0, .int .i64 0]) ?_ 0 _ rfl; (with_reducible repeat (first | refine blk_drewN ?_ _ | refine blk_drew ?_ | refine blk_alloc ?_ _)); exact BK273.out⟩, ⟨by (with_reducible repeat (first | refine blk_drewN ?_ _ | refine blk_drew ?_ | refine blk_alloc ?_ _)); refine blk_put (cs := #[.int .i64 ((rd_T33 x5_1 (rd t248 x10_3)).f0), .int .i64 0]) ?_ 1 _ rfl; (with_reducible repeat (first | refine blk_drewN ?_ _ | refine blk_drew ?_ | refine blk_alloc ?_ _)); refine blk_put (cs := #[.int .i64 0, .int .i64 0]) ?_ 0 _ rfl; (with_reducible repeat (first | refine blk_drewN ?_ _ | refine blk_drew ?_ | refine blk_alloc ?_ _)); refine blk_far ?_ NB274_273.out _; (with_reducible repeat (first | refine blk_drewN ?_ _ | refine blk_drew ?_ | refine blk_alloc ?_ _)); refine blk_far ?_ NB274_273.out _; (with_reducible repeat (first | refine blk_drewN ?_ _ | refine blk_drew ?_ | refine blk_alloc ?_ _)); exact BK274.out⟩, ⟨by repeat (first | (with_reducible first | exact HB.out | apply below_alloc | apply pw_below_drewN | apply below_drew1 | refine below_set ?_ GE267.out | refine below_set ?_ GE268.out | refine below_set ?_ GE273.out | refine below_set ?_ GE274.out) | exact HB.out)⟩⟩
               rw [if_neg c302] at H
               have c302b0 : decide (((rd_T33 x5_1 (rd t248 (ji220))).f0) < ((rd_T33 x5_1 (rd t248 x10_3)).f0)) = false := decide_eq_false c302
               clear c302
               by_cases c313 : ((rd_T33 x5_1 (rd t248 (ji220))).f0) = ((rd_T33 x5_1 (rd t248 x10_3)).f0)
               rotate_left
               ·rw [if_neg c313] at H
                have c313b0 : (((rd_T33 x5_1 (rd t248 (ji220))).f0) == ((rd_T33 x5_1 (rd t248 x10_3)).f0)) = false := beq_eq_false_iff_ne.mpr c313
                have c313b1 : (((rd_T33 x5_1 (rd t248 (ji220))).f0) != ((rd_T33 x5_1 (rd t248 x10_3)).f0)) = true := bne_iff_ne.mpr c313
                have H' := Aside0.mk H
                clear H
                have hnb324 := NB267_268.out
                have hnc324 := NB268_267.out
                have hnb325 := NB267_273.out
                have hnc325 := NB273_267.out
                have hnb326 := NB267_274.out
                have hnc326 := NB274_267.out
                have hcz327_0 : w248.cell? ⟨gb267, 0, none⟩ = some (.int .i64 ((rd_T33 x5_1 (rd t245 (ji220))).f0)) := (blk_cell BK267.out 0).trans rfl
                have hcz327_1 : w248.cell? ⟨gb267, 1, none⟩ = some (.int .i64 ((rd_T33 x5_1 (rd t245 (ji220))).f1)) := (blk_cell BK267.out 1).trans rfl
                have hfz327_0 := blk_frozen BK267.out 0
                have hfz327_1 := blk_frozen BK267.out 1
                have hnb328 := NB268_273.out
                have hnc328 := NB273_268.out
                have hnb329 := NB268_274.out
                have hnc329 := NB274_268.out
                have hcz330_0 : w248.cell? ⟨gb268, 0, none⟩ = some (.int .i64 ((rd_T33 x5_1 (rd t245 x10_3)).f0)) := (blk_cell BK268.out 0).trans rfl
                have hcz330_1 : w248.cell? ⟨gb268, 1, none⟩ = some (.int .i64 ((rd_T33 x5_1 (rd t245 x10_3)).f1)) := (blk_cell BK268.out 1).trans rfl
                have hfz330_0 := blk_frozen BK268.out 0
                have hfz330_1 := blk_frozen BK268.out 1
                have hnb331 := NB273_274.out
                have hnc331 := NB274_273.out
                have hcz332_0 : w248.cell? ⟨gb273, 0, none⟩ = some (.int .i64 0) := (blk_cell BK273.out 0).trans rfl
                have hcz332_1 : w248.cell? ⟨gb273, 1, none⟩ = some (.int .i64 0) := (blk_cell BK273.out 1).trans rfl
                have hfz332_0 := blk_frozen BK273.out 0
                have hfz332_1 := blk_frozen BK273.out 1
                have hcz333_0 : w248.cell? ⟨gb274, 0, none⟩ = some (.int .i64 0) := (blk_cell BK274.out 0).trans rfl
                have hcz333_1 : w248.cell? ⟨gb274, 1, none⟩ = some (.int .i64 0) := (blk_cell BK274.out 1).trans rfl
                have hfz333_0 := blk_frozen BK274.out 0
                have hfz333_1 := blk_frozen BK274.out 1
                go_wp2
                go_meet
                case rel => exact ⟨_, (false), (by first | rfl | (simp; done) | (simp [*]; done)), H', ⟨by have := HK1.out; have := HJ177.out; have := HK3.out; have := HJ196.out; first | omega | exact Nat.le_refl _⟩, ⟨by (with_reducible repeat (first | apply Kd.R_alloc | apply Kd.R_drewN | apply Kd.R_drew)); exact Kd.R_mono (Kd.R_far (p := ⟨gb274, 1, none⟩) (Kd.R_far (p := ⟨gb274, 0, none⟩) (Kd.R_far (p := ⟨gb273, 1, none⟩) (Kd.R_far (p := ⟨gb273, 0, none⟩) (Kd.R_mono (Kd.R_mono HO_5.out (fun k_ hk => (⟨hk, hk.2.2.1⟩ : _ ∧ k_ ≠ gb273))) (fun k_ hk => (⟨hk, hk.1.2.2.2⟩ : _ ∧ k_ ≠ gb274))) (fun _ hk => hk.1.2) (.int .i64 ((rd_T33 x5_1 (rd t248 (ji220))).f0))) (fun _ hk => hk.1.2) (.int .i64 ((rd_T33 x5_1 (rd t248 (ji220))).f1))) (fun _ hk => hk.2) (.int .i64 ((rd_T33 x5_1 (rd t248 x10_3)).f0))) (fun _ hk => hk.2) (.int .i64 ((rd_T33 x5_1 (rd t248 x10_3)).f1))) (fun _ hk => ⟨hk.1.1.1, ⟨hk.1.1.2.1, ⟨hk.1.1.2.2.1, hk.1.1.2.2.2⟩⟩⟩)⟩, ⟨by (with_reducible repeat (first | apply Kd.R_alloc | apply Kd.R_drewN | apply Kd.R_drew)); exact Kd.R_mono (Kd.R_far (p := ⟨gb274, 1, none⟩) (Kd.R_far (p := ⟨gb274, 0, none⟩) (Kd.R_far (p := ⟨gb273, 1, none⟩) (Kd.R_far (p := ⟨gb273, 0, none⟩) (Kd.R_types (Kd.R_types HO_7.out BK273.out (by decide)) BK274.out (by decide)) (fun _ hk => hk.1.2) (.int .i64 ((rd_T33 x5_1 (rd t248 (ji220))).f0))) (fun _ hk => hk.1.2) (.int .i64 ((rd_T33 x5_1 (rd t248 (ji220))).f1))) (fun _ hk => hk.2) (.int .i64 ((rd_T33 x5_1 (rd t248 x10_3)).f0))) (fun _ hk => hk.2) (.int .i64 ((rd_T33 x5_1 (rd t248 x10_3)).f1))) (fun _ hk => hk.1.1)⟩, ⟨by (with_reducible repeat (first | apply Kd.R_alloc | apply Kd.R_drewN | apply Kd.R_drew)); exact Kd.R_mono (Kd.R_far (p := ⟨gb274, 1, none⟩) (Kd.R_far (p := ⟨gb274, 0, none⟩) (Kd.R_far (p := ⟨gb273, 1, none⟩) (Kd.R_far (p := ⟨gb273, 0, none⟩) (Kd.R_types (Kd.R_types HO_8.out BK273.out (by decide)) BK274.out (by decide)) (fun _ hk => hk.1.2) (.int .i64 ((rd_T33 x5_1 (rd t248 (ji220))).f0))) (fun _ hk => hk.1.2) (.int .i64 ((rd_T33 x5_1 (rd t248 (ji220))).f1))) (fun _ hk => hk.2) (.int .i64 ((rd_T33 x5_1 (rd t248 x10_3)).f0))) (fun _ hk => hk.2) (.int .i64 ((rd_T33 x5_1 (rd t248 x10_3)).f1))) (fun _ hk => hk.1.1)⟩, ⟨by (with_reducible repeat (first | apply Kd.R_alloc | apply Kd.R_drewN | apply Kd.R_drew)); exact Kd.R_mono (Kd.R_far (p := ⟨gb274, 1, none⟩) (Kd.R_far (p := ⟨gb274, 0, none⟩) (Kd.R_far (p := ⟨gb273, 1, none⟩) (Kd.R_far (p := ⟨gb273, 0, none⟩) (Kd.R_types (Kd.R_types HO_9.out BK273.out (by decide)) BK274.out (by decide)) (fun _ hk => hk.1.2) (.int .i64 ((rd_T33 x5_1 (rd t248 (ji220))).f0))) (fun _ hk => hk.1.2) (.int .i64 ((rd_T33 x5_1 (rd t248 (ji220))).f1))) (fun _ hk => hk.2) (.int .i64 ((rd_T33 x5_1 (rd t248 x10_3)).f0))) (fun _ hk => hk.2) (.int .i64 ((rd_T33 x5_1 (rd t248 x10_3)).f1))) (fun _ hk => trivial)⟩, ⟨by (with_reducible repeat (first | refine blk_drewN ?_ _ | refine blk_drew ?_ | refine blk_alloc ?_ _)); refine blk_far ?_ NB267_274.out _; (with_reducible repeat (first | refine blk_drewN ?_ _ | refine blk_drew ?_ | refine blk_alloc ?_ _)); refine blk_far ?_ NB267_274.out _; (with_reducible repeat (first | refine blk_drewN ?_ _ | refine blk_drew ?_ | refine blk_alloc ?_ _)); refine blk_far ?_ NB267_273.out _; (with_reducible repeat (first | refine blk_drewN ?_ _ | refine blk_drew ?_ | refine blk_alloc ?_ _)); refine blk_far ?_ NB267_273.out _; (with_reducible repeat (first | refine blk_drewN ?_ _ | refine blk_drew ?_ | refine blk_alloc ?_ _)); exact BK267.out⟩, ⟨by (with_reducible repeat (first | refine blk_drewN ?_ _ | refine blk_drew ?_ | refine blk_alloc ?_ _)); refine blk_far ?_ NB268_274.out _; (with_reducible repeat (first | refine blk_drewN ?_ _ | refine blk_drew ?_ | refine blk_alloc ?_ _)); refine blk_far ?_ NB268_274.out _; (with_reducible repeat (first | refine blk_drewN ?_ _ | refine blk_drew ?_ | refine blk_alloc ?_ _)); refine blk_far ?_ NB268_273.out _; (with_reducible repeat (first | refine blk_drewN ?_ _ | refine blk_drew ?_ | refine blk_alloc ?_ _)); refine blk_far ?_ NB268_273.out _; (with_reducible repeat (first | refine blk_drewN ?_ _ | refine blk_drew ?_ | refine blk_alloc ?_ _)); exact BK268.out⟩, ⟨by (with_reducible repeat (first | refine blk_drewN ?_ _ | refine blk_drew ?_ | refine blk_alloc ?_ _)); refine blk_far ?_ NB273_274.out _; (with_reducible repeat (first | refine blk_drewN ?_ _ | refine blk_drew ?_ | refine blk_alloc ?_ _)); refine blk_far ?_ NB273_274.out _; (with_reducible repeat (first | refine blk_drewN ?_ _ | refine blk_drew ?_ | refine blk_alloc ?_ _)); refine blk_put (cs := #[.int .i64 ((rd_T33 x5_1 (rd t248 (ji220))).f0), .int .i64 0]) ?_ 1 _ rfl; (with_reducible repeat (first | refine blk_drewN ?_ _ | refine blk_drew ?_ | refine blk_alloc ?_ _)); refine blk_put (cs := #[.int .i64 0, .int .i64 0]) ?_ 0 _ rfl; (with_reducible repeat (first | refine blk_drewN ?_ _ | refine blk_drew ?_ | refine blk_alloc ?_ _)); exact BK273.out⟩, ⟨by (with_reducible repeat (first | refine blk_drewN ?_ _ | refine blk_drew ?_ | refine blk_alloc ?_ _)); refine blk_put (cs := #[.int .i64 ((rd_T33 x5_1 (rd t248 x10_3)).f0), .int .i64 0]) ?_ 1 _ rfl; (with_reducible repeat (first | refine blk_drewN ?_ _ | refine blk_drew ?_ | refine blk_alloc ?_ _)); refine blk_put (cs := #[.int .i64 0, .int .i64 0]) ?_ 0 _ rfl; (with_reducible repeat (first | refine blk_drewN ?_ _ | refine blk_drew ?_ | refine blk_alloc ?_ _)); refine blk_far ?_ NB274_273.out _; (with_reducible repeat (first | refine blk_drewN ?_ _ | refine blk_drew ?_ | refine blk_alloc ?_ _)); refine blk_far ?_ NB274_273.out _; (with_reducible repeat (first | refine blk_drewN ?_ _ | refine blk_drew ?_ | refine blk_alloc ?_ _)); exact BK274.out⟩, ⟨by repeat (first | (with_reducible first | exact HB.out | apply below_alloc | apply pw_below_drewN | apply below_drew1 | refine below_set ?_ GE267.out | refine below_set ?_ GE268.out | refine below_set ?_ GE273.out | refine below_set ?_ GE274.out) | exact HB.out)⟩⟩
               rw [if_pos c313] at H
               have c313b0 : (((rd_T33 x5_1 (rd t248 (ji220))).f0) == ((rd_T33 x5_1 (rd t248 x10_3)).f0)) = true := beq_iff_eq.mpr c313
               have c313b1 : (((rd_T33 x5_1 (rd t248 (ji220))).f0) != ((rd_T33 x5_1 (rd t248 x10_3)).f0)) = false := bne_eq_false_iff_eq.mpr c313
               clear c313
               have H' := Aside0.mk H
               clear H
               have hnb314 := NB267_268.out
               have hnc314 := NB268_267.out
               have hnb315 := NB267_273.out
               have hnc315 := NB273_267.out
               have hnb316 := NB267_274.out
               have hnc316 := NB274_267.out
               have hcz317_0 : w248.cell? ⟨gb267, 0, none⟩ = some (.int .i64 ((rd_T33 x5_1 (rd t245 (ji220))).f0)) := (blk_cell BK267.out 0).trans rfl
               have hcz317_1 : w248.cell? ⟨gb267, 1, none⟩ = some (.int .i64 ((rd_T33 x5_1 (rd t245 (ji220))).f1)) := (blk_cell BK267.out 1).trans rfl
               have hfz317_0 := blk_frozen BK267.out 0
               have hfz317_1 := blk_frozen BK267.out 1
               have hnb318 := NB268_273.out
               have hnc318 := NB273_268.out
               have hnb319 := NB268_274.out
               have hnc319 := NB274_268.out
               have hcz320_0 : w248.cell? ⟨gb268, 0, none⟩ = some (.int .i64 ((rd_T33 x5_1 (rd t245 x10_3)).f0)) := (blk_cell BK268.out 0).trans rfl
               have hcz320_1 : w248.cell? ⟨gb268, 1, none⟩ = some (.int .i64 ((rd_T33 x5_1 (rd t245 x10_3)).f1)) := (blk_cell BK268.out 1).trans rfl
               have hfz320_0 := blk_frozen BK268.out 0
               have hfz320_1 := blk_frozen BK268.out 1
               have hnb321 := NB273_274.out
               have hnc321 := NB274_273.out
               have hcz322_0 : w248.cell? ⟨gb273, 0, none⟩ = some (.int .i64 0) := (blk_cell BK273.out 0).trans rfl
               have hcz322_1 : w248.cell? ⟨gb273, 1, none⟩ = some (.int .i64 0) := (blk_cell BK273.out 1).trans rfl
               have hfz322_0 := blk_frozen BK273.out 0
               have hfz322_1 := blk_frozen BK273.out 1
               have hcz323_0 : w248.cell? ⟨gb274, 0, none⟩ = some (.int .i64 0) := (blk_cell BK274.out 0).trans rfl
               have hcz323_1 : w248.cell? ⟨gb274, 1, none⟩ = some (.int .i64 0) := (blk_cell BK274.out 1).trans rfl
               have hfz323_0 := blk_frozen BK274.out 0
               have hfz323_1 := blk_frozen BK274.out 1
               go_wp2
               go_meet
               case rel => exact ⟨_, (decide (((rd_T33 x5_1 (rd t248 (ji220))).f1) ≥ ((rd_T33 x5_1 (rd t248 x10_3)).f1))), (by first | rfl | (simp; done) | (simp only [← hji220] <;> (first | rfl | simp)) | (simp [*]; done)), H', ⟨by have := HK1.out; have := HJ177.out; have := HK3.out; have := HJ196.out; first | omega | exact Nat.le_refl _⟩, ⟨by (with_reducible repeat (first | apply Kd.R_alloc | apply Kd.R_drewN | apply Kd.R_drew)); exact Kd.R_mono (Kd.R_far (p := ⟨gb274, 1, none⟩) (Kd.R_far (p := ⟨gb274, 0, none⟩) (Kd.R_far (p := ⟨gb273, 1, none⟩) (Kd.R_far (p := ⟨gb273, 0, none⟩) (Kd.R_mono (Kd.R_mono HO_5.out (fun k_ hk => (⟨hk, hk.2.2.1⟩ : _ ∧ k_ ≠ gb273))) (fun k_ hk => (⟨hk, hk.1.2.2.2⟩ : _ ∧ k_ ≠ gb274))) (fun _ hk => hk.1.2) (.int .i64 ((rd_T33 x5_1 (rd t248 (ji220))).f0))) (fun _ hk => hk.1.2) (.int .i64 ((rd_T33 x5_1 (rd t248 (ji220))).f1))) (fun _ hk => hk.2) (.int .i64 ((rd_T33 x5_1 (rd t248 x10_3)).f0))) (fun _ hk => hk.2) (.int .i64 ((rd_T33 x5_1 (rd t248 x10_3)).f1))) (fun _ hk => ⟨hk.1.1.1, ⟨hk.1.1.2.1, ⟨hk.1.1.2.2.1, hk.1.1.2.2.2⟩⟩⟩)⟩, ⟨by (with_reducible repeat (first | apply Kd.R_alloc | apply Kd.R_drewN | apply Kd.R_drew)); exact Kd.R_mono (Kd.R_far (p := ⟨gb274, 1, none⟩) (Kd.R_far (p := ⟨gb274, 0, none⟩) (Kd.R_far (p := ⟨gb273, 1, none⟩) (Kd.R_far (p := ⟨gb273, 0, none⟩) (Kd.R_types (Kd.R_types HO_7.out BK273.out (by decide)) BK274.out (by decide)) (fun _ hk => hk.1.2) (.int .i64 ((rd_T33 x5_1 (rd t248 (ji220))).f0))) (fun _ hk => hk.1.2) (.int .i64 ((rd_T33 x5_1 (rd t248 (ji220))).f1))) (fun _ hk => hk.2) (.int .i64 ((rd_T33 x5_1 (rd t248 x10_3)).f0))) (fun _ hk => hk.2) (.int .i64 ((rd_T33 x5_1 (rd t248 x10_3)).f1))) (fun _ hk => hk.1.1)⟩, ⟨by (with_reducible repeat (first | apply Kd.R_alloc | apply Kd.R_drewN | apply Kd.R_drew)); exact Kd.R_mono (Kd.R_far (p := ⟨gb274, 1, none⟩) (Kd.R_far (p := ⟨gb274, 0, none⟩) (Kd.R_far (p := ⟨gb273, 1, none⟩) (Kd.R_far (p := ⟨gb273, 0, none⟩) (Kd.R_types (Kd.R_types HO_8.out BK273.out (by decide)) BK274.out (by decide)) (fun _ hk => hk.1.2) (.int .i64 ((rd_T33 x5_1 (rd t248 (ji220))).f0))) (fun _ hk => hk.1.2) (.int .i64 ((rd_T33 x5_1 (rd t248 (ji220))).f1))) (fun _ hk => hk.2) (.int .i64 ((rd_T33 x5_1 (rd t248 x10_3)).f0))) (fun _ hk => hk.2) (.int .i64 ((rd_T33 x5_1 (rd t248 x10_3)).f1))) (fun _ hk => hk.1.1)⟩, ⟨by (with_reducible repeat (first | apply Kd.R_alloc | apply Kd.R_drewN | apply Kd.R_drew)); exact Kd.R_mono (Kd.R_far (p := ⟨gb274, 1, none⟩) (Kd.R_far (p := ⟨gb274, 0, none⟩) (Kd.R_far (p := ⟨gb273, 1, none⟩) (Kd.R_far (p := ⟨gb273, 0, none⟩) (Kd.R_types (Kd.R_types HO_9.out BK273.out (by decide)) BK274.out (by decide)) (fun _ hk => hk.1.2) (.int .i64 ((rd_T33 x5_1 (rd t248 (ji220))).f0))) (fun _ hk => hk.1.2) (.int .i64 ((rd_T33 x5_1 (rd t248 (ji220))).f1))) (fun _ hk => hk.2) (.int .i64 ((rd_T33 x5_1 (rd t248 x10_3)).f0))) (fun _ hk => hk.2) (.int .i64 ((rd_T33 x5_1 (rd t248 x10_3)).f1))) (fun _ hk => trivial)⟩, ⟨by (with_reducible repeat (first | refine blk_drewN ?_ _ | refine blk_drew ?_ | refine blk_alloc ?_ _)); refine blk_far ?_ NB267_274.out _; (with_reducible repeat (first | refine blk_drewN ?_ _ | refine blk_drew ?_ | refine blk_alloc ?_ _)); refine blk_far ?_ NB267_274.out _; (with_reducible repeat (first | refine blk_drewN ?_ _ | refine blk_drew ?_ | refine blk_alloc ?_ _)); refine blk_far ?_ NB267_273.out _; (with_reducible repeat (first | refine blk_drewN ?_ _ | refine blk_drew ?_ | refine blk_alloc ?_ _)); refine blk_far ?_ NB267_273.out _; (with_reducible repeat (first | refine blk_drewN ?_ _ | refine blk_drew ?_ | refine blk_alloc ?_ _)); exact BK267.out⟩, ⟨by (with_reducible repeat (first | refine blk_drewN ?_ _ | refine blk_drew ?_ | refine blk_alloc ?_ _)); refine blk_far ?_ NB268_274.out _; (with_reducible repeat (first | refine blk_drewN ?_ _ | refine blk_drew ?_ | refine blk_alloc ?_ _)); refine blk_far ?_ NB268_274.out _; (with_reducible repeat (first | refine blk_drewN ?_ _ | refine blk_drew ?_ | refine blk_alloc ?_ _)); refine blk_far ?_ NB268_273.out _; (with_reducible repeat (first | refine blk_drewN ?_ _ | refine blk_drew ?_ | refine blk_alloc ?_ _)); refine blk_far ?_ NB268_273.out _; (with_reducible repeat (first | refine blk_drewN ?_ _ | refine blk_drew ?_ | refine blk_alloc ?_ _)); exact BK268.out⟩, ⟨by (with_reducible repeat (first | refine blk_drewN ?_ _ | refine blk_drew ?_ | refine blk_alloc ?_ _)); refine blk_far ?_ NB273_274.out _; (with_reducible repeat (first | refine blk_drewN ?_ _ | refine blk_drew ?_ | refine blk_alloc ?_ _)); refine blk_far ?_ NB273_274.out _; (with_reducible repeat (first | refine blk_drewN ?_ _ | refine blk_drew ?_ | refine blk_alloc ?_ _)); refine blk_put (cs := #[.int .i64 ((rd_T33 x5_1 (rd t248 (ji220))).f0), .int .i64 0]) ?_ 1 _ rfl; (with_reducible repeat (first | refine blk_drewN ?_ _ | refine blk_drew ?_ | refine blk_alloc ?_ _)); refine blk_put (cs := #[.int .i64 0, .int .i64 0]) ?_ 0 _ rfl; (with_reducible repeat (first | refine blk_drewN ?_ _ | refine blk_drew ?_ | refine blk_alloc ?_ _)); exact BK273.out⟩, ⟨by (with_reducible repeat (first | refine blk_drewN ?_ _ | refine blk_drew ?_ | refine blk_alloc ?_ _)); refine blk_put (cs := #[.int .i64 ((rd_T33 x5_1 (rd t248 x10_3)).f0), .int .i64 0]) ?_ 1 _ rfl; (with_reducible repeat (first | refine blk_drewN ?_ _ | refine blk_drew ?_ | refine blk_alloc ?_ _)); refine blk_put (cs := #[.int .i64 0, .int .i64 0]) ?_ 0 _ rfl; (with_reducible repeat (first | refine blk_drewN ?_ _ | refine blk_drew ?_ | refine blk_alloc ?_ _)); refine blk_far ?_ NB274_273.out _; (with_reducible repeat (first | refine blk_drewN ?_ _ | refine blk_drew ?_ | refine blk_alloc ?_ _)); refine blk_far ?_ NB274_273.out _; (with_reducible repeat (first | refine blk_drewN ?_ _ | refine blk_drew ?_ | refine blk_alloc ?_ _)); exact BK274.out⟩, ⟨by repeat (first | (with_reducible first | exact HB.out | apply below_alloc | apply pw_below_drewN | apply below_drew1 | refine below_set ?_ GE267.out | refine below_set ?_ GE268.out | refine below_set ?_ GE273.out | refine below_set ?_ GE274.out) | exact HB.out)⟩⟩
              rw [if_pos c261] at H
              have c261b0 : (((rd_T33 x5_1 (rd t245 (ji220))).f0) == ((rd_T33 x5_1 (rd t245 x10_3)).f0)) = true := beq_iff_eq.mpr c261
              have c261b1 : (((rd_T33 x5_1 (rd t245 (ji220))).f0) != ((rd_T33 x5_1 (rd t245 x10_3)).f0)) = false := bne_eq_false_iff_eq.mpr c261
              clear c261
              by_cases c262 : ((rd_T33 x5_1 (rd t245 (ji220))).f1) ≥ ((rd_T33 x5_1 (rd t245 x10_3)).f1)
              ·rw [if_pos c262] at H
               have c262b0 : decide (((rd_T33 x5_1 (rd t245 x10_3)).f1) ≤ ((rd_T33 x5_1 (rd t245 (ji220))).f1)) = true := decide_eq_true c262
               clear c262
               have H' := Aside0.mk H
               clear H
               have hnb263 := NB267_268.out
               have hnc263 := NB268_267.out
               have hnb264 := NB267_273.out
               have hnc264 := NB273_267.out
               have hnb265 := NB267_274.out
               have hnc265 := NB274_267.out
               have hcz266_0 : w248.cell? ⟨gb267, 0, none⟩ = some (.int .i64 ((rd_T33 x5_1 (rd t245 (ji220))).f0)) := (blk_cell BK267.out 0).trans rfl
               have hcz266_1 : w248.cell? ⟨gb267, 1, none⟩ = some (.int .i64 ((rd_T33 x5_1 (rd t245 (ji220))).f1)) := (blk_cell BK267.out 1).trans rfl
               have hfz266_0 := blk_frozen BK267.out 0
               have hfz266_1 := blk_frozen BK267.out 1
               have hnb267 := NB268_273.out
               have hnc267 := NB273_268.out
               have hnb268 := NB268_274.out
               have hnc268 := NB274_268.out
               have hcz269_0 : w248.cell? ⟨gb268, 0, none⟩ = some (.int .i64 ((rd_T33 x5_1 (rd t245 x10_3)).f0)) := (blk_cell BK268.out 0).trans rfl
               have hcz269_1 : w248.cell? ⟨gb268, 1, none⟩ = some (.int .i64 ((rd_T33 x5_1 (rd t245 x10_3)).f1)) := (blk_cell BK268.out 1).trans rfl
               have hfz269_0 := blk_frozen BK268.out 0
               have hfz269_1 := blk_frozen BK268.out 1
               go_wp2
               go_meet
               case rel => exact ⟨_, (true), (by first | rfl | (simp; done) | (simp [*]; done)), H', ⟨by have := HK1.out; have := HJ177.out; have := HK3.out; have := HJ196.out; first | omega | exact Nat.le_refl _⟩, ⟨by (with_reducible repeat (first | apply Kd.R_alloc | apply Kd.R_drewN | apply Kd.R_drew)); exact Kd.R_mono (Kd.R_far (p := ⟨gb274, 1, none⟩) (Kd.R_far (p := ⟨gb274, 0, none⟩) (Kd.R_far (p := ⟨gb273, 1, none⟩) (Kd.R_far (p := ⟨gb273, 0, none⟩) (Kd.R_mono (Kd.R_mono HO_5.out (fun k_ hk => (⟨hk, hk.2.2.1⟩ : _ ∧ k_ ≠ gb273))) (fun k_ hk => (⟨hk, hk.1.2.2.2⟩ : _ ∧ k_ ≠ gb274))) (fun _ hk => hk.1.2) (.int .i64 ((rd_T33 x5_1 (rd t248 (ji220))).f0))) (fun _ hk => hk.1.2) (.int .i64 ((rd_T33 x5_1 (rd t248 (ji220))).f1))) (fun _ hk => hk.2) (.int .i64 ((rd_T33 x5_1 (rd t248 x10_3)).f0))) (fun _ hk => hk.2) (.int .i64 ((rd_T33 x5_1 (rd t248 x10_3)).f1))) (fun _ hk => ⟨hk.1.1.1, ⟨hk.1.1.2.1, ⟨hk.1.1.2.2.1, hk.1.1.2.2.2⟩⟩⟩)⟩, ⟨by (with_reducible repeat (first | apply Kd.R_alloc | apply Kd.R_drewN | apply Kd.R_drew)); exact Kd.R_mono (Kd.R_far (p := ⟨gb274, 1, none⟩) (Kd.R_far (p := ⟨gb274, 0, none⟩) (Kd.R_far (p := ⟨gb273, 1, none⟩) (Kd.R_far (p := ⟨gb273, 0, none⟩) (Kd.R_types (Kd.R_types HO_7.out BK273.out (by decide)) BK274.out (by decide)) (fun _ hk => hk.1.2) (.int .i64 ((rd_T33 x5_1 (rd t248 (ji220))).f0))) (fun _ hk => hk.1.2) (.int .i64 ((rd_T33 x5_1 (rd t248 (ji220))).f1))) (fun _ hk => hk.2) (.int .i64 ((rd_T33 x5_1 (rd t248 x10_3)).f0))) (fun _ hk => hk.2) (.int .i64 ((rd_T33 x5_1 (rd t248 x10_3)).f1))) (fun _ hk => hk.1.1)⟩, ⟨by (with_reducible repeat (first | apply Kd.R_alloc | apply Kd.R_drewN | apply Kd.R_drew)); exact Kd.R_mono (Kd.R_far (p := ⟨gb274, 1, none⟩) (Kd.R_far (p := ⟨gb274, 0, none⟩) (Kd.R_far (p := ⟨gb273, 1, none⟩) (Kd.R_far (p := ⟨gb273, 0, none⟩) (Kd.R_types (Kd.R_types HO_8.out BK273.out (by decide)) BK274.out (by decide)) (fun _ hk => hk.1.2) (.int .i64 ((rd_T33 x5_1 (rd t248 (ji220))).f0))) (fun _ hk => hk.1.2) (.int .i64 ((rd_T33 x5_1 (rd t248 (ji220))).f1))) (fun _ hk => hk.2) (.int .i64 ((rd_T33 x5_1 (rd t248 x10_3)).f0))) (fun _ hk => hk.2) (.int .i64 ((rd_T33 x5_1 (rd t248 x10_3)).f1))) (fun _ hk => hk.1.1)⟩, ⟨by (with_reducible repeat (first | apply Kd.R_alloc | apply Kd.R_drewN | apply Kd.R_drew)); exact Kd.R_mono (Kd.R_far (p := ⟨gb274, 1, none⟩) (Kd.R_far (p := ⟨gb274, 0, none⟩) (Kd.R_far (p := ⟨gb273, 1, none⟩) (Kd.R_far (p := ⟨gb273, 0, none⟩) (Kd.R_types (Kd.R_types HO_9.out BK273.out (by decide)) BK274.out (by decide)) (fun _ hk => hk.1.2) (.int .i64 ((rd_T33 x5_1 (rd t248 (ji220))).f0))) (fun _ hk => hk.1.2) (.int .i64 ((rd_T33 x5_1 (rd t248 (ji220))).f1))) (fun _ hk => hk.2) (.int .i64 ((rd_T33 x5_1 (rd t248 x10_3)).f0))) (fun _ hk => hk.2) (.int .i64 ((rd_T33 x5_1 (rd t248 x10_3)).f1))) (fun _ hk => trivial)⟩, ⟨by (with_reducible repeat (first | refine blk_drewN ?_ _ | refine blk_drew ?_ | refine blk_alloc ?_ _)); refine blk_far ?_ NB267_274.out _; (with_reducible repeat (first | refine blk_drewN ?_ _ | refine blk_drew ?_ | refine blk_alloc ?_ _)); refine blk_far ?_ NB267_274.out _; (with_reducible repeat (first | refine blk_drewN ?_ _ | refine blk_drew ?_ | refine blk_alloc ?_ _)); refine blk_far ?_ NB267_273.out _; (with_reducible repeat (first | refine blk_drewN ?_ _ | refine blk_drew ?_ | refine blk_alloc ?_ _)); refine blk_far ?_ NB267_273.out _; (with_reducible repeat (first | refine blk_drewN ?_ _ | refine blk_drew ?_ | refine blk_alloc ?_ _)); exact BK267.out⟩, ⟨by (with_reducible repeat (first | refine blk_drewN ?_ _ | refine blk_drew ?_ | refine blk_alloc ?_ _)); refine blk_far ?_ NB268_274.out _; (with_reducible repeat (first | refine blk_drewN ?_ _ | refine blk_drew ?_ | refine blk_alloc ?_ _)); refine blk_far ?_ NB268_274.out _; (with_reducible repeat (first | refine blk_drewN ?_ _ | refine blk_drew ?_ | refine blk_alloc ?_ _)); refine blk_far ?_ NB268_273.out _; (with_reducible repeat (first | refine blk_drewN ?_ _ | refine blk_drew ?_ | refine blk_alloc ?_ _)); refine blk_far ?_ NB268_273.out _; (with_reducible repeat (first | refine blk_drewN ?_ _ | refine blk_drew ?_ | refine blk_alloc ?_ _)); exact BK268.out⟩, ⟨by (with_reducible repeat (first | refine blk_drewN ?_ _ | refine blk_drew ?_ | refine blk_alloc ?_ _)); refine blk_far ?_ NB273_274.out _; (with_reducible repeat (first | refine blk_drewN ?_ _ | refine blk_drew ?_ | refine blk_alloc ?_ _)); refine blk_far ?_ NB273_274.out _; (with_reducible repeat (first | refine blk_drewN ?_ _ | refine blk_drew ?_ | refine blk_alloc ?_ _)); refine blk_put (cs := #[.int .i64 ((rd_T33 x5_1 (rd t248 (ji220))).f0), .int .i64 0]) ?_ 1 _ rfl; (with_reducible repeat (first | refine blk_drewN ?_ _ | refine blk_drew ?_ | refine blk_alloc ?_ _)); refine blk_put (cs := #[.int .i64 0, .int .i64 0]) ?_ 0 _ rfl; (with_reducible repeat (first | refine blk_drewN ?_ _ | refine blk_drew ?_ | refine blk_alloc ?_ _)); exact BK273.out⟩, ⟨by (with_reducible repeat (first | refine blk_drewN ?_ _ | refine blk_drew ?_ | refine blk_alloc ?_ _)); refine blk_put (cs := #[.int .i64 ((rd_T33 x5_1 (rd t248 x10_3)).f0), .int .i64 0]) ?_ 1 _ rfl; (with_reducible repeat (first | refine blk_drewN ?_ _ | refine blk_drew ?_ | refine blk_alloc ?_ _)); refine blk_put (cs := #[.int .i64 0, .int .i64 0]) ?_ 0 _ rfl; (with_reducible repeat (first | refine blk_drewN ?_ _ | refine blk_drew ?_ | refine blk_alloc ?_ _)); refine blk_far ?_ NB274_273.out _; (with_reducible repeat (first | refine blk_drewN ?_ _ | refine blk_drew ?_ | refine blk_alloc ?_ _)); refine blk_far ?_ NB274_273.out _; (with_reducible repeat (first | refine blk_drewN ?_ _ | refine blk_drew ?_ | refine blk_alloc ?_ _)); exact BK274.out⟩, ⟨by repeat (first | (with_reducible first | exact HB.out | apply below_alloc | apply pw_below_drewN | apply below_drew1 | refine below_set ?_ GE267.out | refine below_set ?_ GE268.out | refine below_set ?_ GE273.out | refine below_set ?_ GE274.out) | exact HB.out)⟩⟩
              rw [if_neg c262] at H
              have c262b0 : decide (((rd_T33 x5_1 (rd t245 x10_3)).f1) ≤ ((rd_T33 x5_1 (rd t245 (ji220))).f1)) = false := decide_eq_false c262
              clear c262
              by_cases c270 : ((rd_T33 x5_1 (rd t248 (ji220))).f0) < ((rd_T33 x5_1 (rd t248 x10_3)).f0)
              ·rw [if_pos c270] at H
               have c270b0 : decide (((rd_T33 x5_1 (rd t248 (ji220))).f0) < ((rd_T33 x5_1 (rd t248 x10_3)).f0)) = true := decide_eq_true c270
               clear c270
               have H' := Aside0.mk H
               clear H
               have hnb271 := NB267_268.out
               have hnc271 := NB268_267.out
               have hnb272 := NB267_273.out
               have hnc272 := NB273_267.out
               have hnb273 := NB267_274.out
               have hnc273 := NB274_267.out
               have hcz274_0 : w248.cell? ⟨gb267, 0, none⟩ = some (.int .i64 ((rd_T33 x5_1 (rd t245 (ji220))).f0)) := (blk_cell BK267.out 0).trans rfl
               have hcz274_1 : w248.cell? ⟨gb267, 1, none⟩ = some (.int .i64 ((rd_T33 x5_1 (rd t245 (ji220))).f1)) := (blk_cell BK267.out 1).trans rfl
               have hfz274_0 := blk_frozen BK267.out 0
               have hfz274_1 := blk_frozen BK267.out 1
               have hnb275 := NB268_273.out
               have hnc275 := NB273_268.out
               have hnb276 := NB268_274.out
               have hnc276 := NB274_268.out
               have hcz277_0 : w248.cell? ⟨gb268, 0, none⟩ = some (.int .i64 ((rd_T33 x5_1 (rd t245 x10_3)).f0)) := (blk_cell BK268.out 0).trans rfl
               have hcz277_1 : w248.cell? ⟨gb268, 1, none⟩ = some (.int .i64 ((rd_T33 x5_1 (rd t245 x10_3)).f1)) := (blk_cell BK268.out 1).trans rfl
               have hfz277_0 := blk_frozen BK268.out 0
               have hfz277_1 := blk_frozen BK268.out 1
               have hnb278 := NB273_274.out
               have hnc278 := NB274_273.out
               have hcz279_0 : w248.cell? ⟨gb273, 0, none⟩ = some (.int .i64 0) := (blk_cell BK273.out 0).trans rfl
               have hcz279_1 : w248.cell? ⟨gb273, 1, none⟩ = some (.int .i64 0) := (blk_cell BK273.out 1).trans rfl
               have hfz279_0 := blk_frozen BK273.out 0
               have hfz279_1 := blk_frozen BK273.out 1
               have hcz280_0 : w248.cell? ⟨gb274, 0, none⟩ = some (.int .i64 0) := (blk_cell BK274.out 0).trans rfl
               have hcz280_1 : w248.cell? ⟨gb274, 1, none⟩ = some (.int .i64 0) := (blk_cell BK274.out 1).trans rfl
               have hfz280_0 := blk_frozen BK274.out 0
               have hfz280_1 := blk_frozen BK274.out 1
               go_wp2
               go_meet
               case rel => exact ⟨_, (true), (by first | rfl | (simp; done) | (simp [*]; done)), H', ⟨by have := HK1.out; have := HJ177.out; have := HK3.out; have := HJ196.out; first | omega | exact Nat.le_refl _⟩, ⟨by (with_reducible repeat (first | apply Kd.R_alloc | apply Kd.R_drewN | apply Kd.R_drew)); exact Kd.R_mono (Kd.R_far (p := ⟨gb274, 1, none⟩) (Kd.R_far (p := ⟨gb274, 0, none⟩) (Kd.R_far (p := ⟨gb273, 1, none⟩) (Kd.R_far (p := ⟨gb273, 0, none⟩) (Kd.R_mono (Kd.R_mono HO_5.out (fun k_ hk => (⟨hk, hk.2.2.1⟩ : _ ∧ k_ ≠ gb273))) (fun k_ hk => (⟨hk, hk.1.2.2.2⟩ : _ ∧ k_ ≠ gb274))) (fun _ hk => hk.1.2) (.int .i64 ((rd_T33 x5_1 (rd t248 (ji220))).f0))) (fun _ hk => hk.1.2) (.int .i64 ((rd_T33 x5_1 (rd t248 (ji220))).f1))) (fun _ hk => hk.2) (.int .i64 ((rd_T33 x5_1 (rd t248 x10_3)).f0))) (fun _ hk => hk.2) (.int .i64 ((rd_T33 x5_1 (rd t248 x10_3)).f1))) (fun _ hk => ⟨hk.1.1.1, ⟨hk.1.1.2.1, ⟨hk.1.1.2.2.1, hk.1.1.2.2.2⟩⟩⟩)⟩, ⟨by (with_reducible repeat (first | apply Kd.R_alloc | apply Kd.R_drewN | apply Kd.R_drew)); exact Kd.R_mono (Kd.R_far (p := ⟨gb274, 1, none⟩) (Kd.R_far (p := ⟨gb274, 0, none⟩) (Kd.R_far (p := ⟨gb273, 1, none⟩) (Kd.R_far (p := ⟨gb273, 0, none⟩) (Kd.R_types (Kd.R_types HO_7.out BK273.out (by decide)) BK274.out (by decide)) (fun _ hk => hk.1.2) (.int .i64 ((rd_T33 x5_1 (rd t248 (ji220))).f0))) (fun _ hk => hk.1.2) (.int .i64 ((rd_T33 x5_1 (rd t248 (ji220))).f1))) (fun _ hk => hk.2) (.int .i64 ((rd_T33 x5_1 (rd t248 x10_3)).f0))) (fun _ hk => hk.2) (.int .i64 ((rd_T33 x5_1 (rd t248 x10_3)).f1))) (fun _ hk => hk.1.1)⟩, ⟨by (with_reducible repeat (first | apply Kd.R_alloc | apply Kd.R_drewN | apply Kd.R_drew)); exact Kd.R_mono (Kd.R_far (p := ⟨gb274, 1, none⟩) (Kd.R_far (p := ⟨gb274, 0, none⟩) (Kd.R_far (p := ⟨gb273, 1, none⟩) (Kd.R_far (p := ⟨gb273, 0, none⟩) (Kd.R_types (Kd.R_types HO_8.out BK273.out (by decide)) BK274.out (by decide)) (fun _ hk => hk.1.2) (.int .i64 ((rd_T33 x5_1 (rd t248 (ji220))).f0))) (fun _ hk => hk.1.2) (.int .i64 ((rd_T33 x5_1 (rd t248 (ji220))).f1))) (fun _ hk => hk.2) (.int .i64 ((rd_T33 x5_1 (rd t248 x10_3)).f0))) (fun _ hk => hk.2) (.int .i64 ((rd_T33 x5_1 (rd t248 x10_3)).f1))) (fun _ hk => hk.1.1)⟩, ⟨by (with_reducible repeat (first | apply Kd.R_alloc | apply Kd.R_drewN | apply Kd.R_drew)); exact Kd.R_mono (Kd.R_far (p := ⟨gb274, 1, none⟩) (Kd.R_far (p := ⟨gb274, 0, none⟩) (Kd.R_far (p := ⟨gb273, 1, none⟩) (Kd.R_far (p := ⟨gb273, 0, none⟩) (Kd.R_types (Kd.R_types HO_9.out BK273.out (by decide)) BK274.out (by decide)) (fun _ hk => hk.1.2) (.int .i64 ((rd_T33 x5_1 (rd t248 (ji220))).f0))) (fun _ hk => hk.1.2) (.int .i64 ((rd_T33 x5_1 (rd t248 (ji220))).f1))) (fun _ hk => hk.2) (.int .i64 ((rd_T33 x5_1 (rd t248 x10_3)).f0))) (fun _ hk => hk.2) (.int .i64 ((rd_T33 x5_1 (rd t248 x10_3)).f1))) (fun _ hk => trivial)⟩, ⟨by (with_reducible repeat (first | refine blk_drewN ?_ _ | refine blk_drew ?_ | refine blk_alloc ?_ _)); refine blk_far ?_ NB267_274.out _; (with_reducible repeat (first | refine blk_drewN ?_ _ | refine blk_drew ?_ | refine blk_alloc ?_ _)); refine blk_far ?_ NB267_274.out _; (with_reducible repeat (first | refine blk_drewN ?_ _ | refine blk_drew ?_ | refine blk_alloc ?_ _)); refine blk_far ?_ NB267_273.out _; (with_reducible repeat (first | refine blk_drewN ?_ _ | refine blk_drew ?_ | refine blk_alloc ?_ _)); refine blk_far ?_ NB267_273.out _; (with_reducible repeat (first | refine blk_drewN ?_ _ | refine blk_drew ?_ | refine blk_alloc ?_ _)); exact BK267.out⟩, ⟨by (with_reducible repeat (first | refine blk_drewN ?_ _ | refine blk_drew ?_ | refine blk_alloc ?_ _)); refine blk_far ?_ NB268_274.out _; (with_reducible repeat (first | refine blk_drewN ?_ _ | refine blk_drew ?_ | refine blk_alloc ?_ _)); refine blk_far ?_ NB268_274.out _; (with_reducible repeat (first | refine blk_drewN ?_ _ | refine blk_drew ?_ | refine blk_alloc ?_ _)); refine blk_far ?_ NB268_273.out _; (with_reducible repeat (first | refine blk_drewN ?_ _ | refine blk_drew ?_ | refine blk_alloc ?_ _)); refine blk_far ?_ NB268_273.out _; (with_reducible repeat (first | refine blk_drewN ?_ _ | refine blk_drew ?_ | refine blk_alloc ?_ _)); exact BK268.out⟩, ⟨by (with_reducible repeat (first | refine blk_drewN ?_ _ | refine blk_drew ?_ | refine blk_alloc ?_ _)); refine blk_far ?_ NB273_274.out _; (with_reducible repeat (first | refine blk_drewN ?_ _ | refine blk_drew ?_ | refine blk_alloc ?_ _)); refine blk_far ?_ NB273_274.out _; (with_reducible repeat (first | refine blk_drewN ?_ _ | refine blk_drew ?_ | refine blk_alloc ?_ _)); refine blk_put (cs := #[.int .i64 ((rd_T33 x5_1 (rd t248 (ji220))).f0), .int .i64 0]) ?_ 1 _ rfl; (with_reducible repeat (first | refine blk_drewN ?_ _ | refine blk_drew ?_ | refine blk_alloc ?_ _)); refine blk_put (cs := #[.int .i64 0, .int .i64 0]) ?_ 0 _ rfl; (with_reducible repeat (first | refine blk_drewN ?_ _ | refine blk_drew ?_ | refine blk_alloc ?_ _)); exact BK273.out⟩, ⟨by (with_reducible repeat (first | refine blk_drewN ?_ _ | refine blk_drew ?_ | refine blk_alloc ?_ _)); refine blk_put (cs := #[.int .i64 ((rd_T33 x5_1 (rd t248 x10_3)).f0), .int .i64 0]) ?_ 1 _ rfl; (with_reducible repeat (first | refine blk_drewN ?_ _ | refine blk_drew ?_ | refine blk_alloc ?_ _)); refine blk_put (cs := #[.int .i64 0, .int .i64 0]) ?_ 0 _ rfl; (with_reducible repeat (first | refine blk_drewN ?_ _ | refine blk_drew ?_ | refine blk_alloc ?_ _)); refine blk_far ?_ NB274_273.out _; (with_reducible repeat (first | refine blk_drewN ?_ _ | refine blk_drew ?_ | refine blk_alloc ?_ _)); refine blk_far ?_ NB274_273.out _; (with_reducible repeat (first | refine blk_drewN ?_ _ | refine blk_drew ?_ | refine blk_alloc ?_ _)); exact BK274.out⟩, ⟨by repeat (first | (with_reducible first | exact HB.out | apply below_alloc | apply pw_below_drewN | apply below_drew1 | refine below_set ?_ GE267.out | refine below_set ?_ GE268.out | refine below_set ?_ GE273.out | refine below_set ?_ GE274.out) | exact HB.out)⟩⟩
              rw [if_neg c270] at H
              have c270b0 : decide (((rd_T33 x5_1 (rd t248 (ji220))).f0) < ((rd_T33 x5_1 (rd t248 x10_3)).f0)) = false := decide_eq_false c270
              clear c270
              by_cases c281 : ((rd_T33 x5_1 (rd t248 (ji220))).f0) = ((rd_T33 x5_1 (rd t248 x10_3)).f0)
              rotate_left
              ·rw [if_neg c281] at H
               have c281b0 : (((rd_T33 x5_1 (rd t248 (ji220))).f0) == ((rd_T33 x5_1 (rd t248 x10_3)).f0)) = false := beq_eq_false_iff_ne.mpr c281
               have c281b1 : (((rd_T33 x5_1 (rd t248 (ji220))).f0) != ((rd_T33 x5_1 (rd t248 x10_3)).f0)) = true := bne_iff_ne.mpr c281
               have H' := Aside0.mk H
               clear H
               have hnb292 := NB267_268.out
               have hnc292 := NB268_267.out
               have hnb293 := NB267_273.out
               have hnc293 := NB273_267.out
               have hnb294 := NB267_274.out
               have hnc294 := NB274_267.out
               have hcz295_0 : w248.cell? ⟨gb267, 0, none⟩ = some (.int .i64 ((rd_T33 x5_1 (rd t245 (ji220))).f0)) := (blk_cell BK267.out 0).trans rfl
               have hcz295_1 : w248.cell? ⟨gb267, 1, none⟩ = some (.int .i64 ((rd_T33 x5_1 (rd t245 (ji220))).f1)) := (blk_cell BK267.out 1).trans rfl
               have hfz295_0 := blk_frozen BK267.out 0
               have hfz295_1 := blk_frozen BK267.out 1
               have hnb296 := NB268_273.out
               have hnc296 := NB273_268.out
               have hnb297 := NB268_274.out
               have hnc297 := NB274_268.out
               have hcz298_0 : w248.cell? ⟨gb268, 0, none⟩ = some (.int .i64 ((rd_T33 x5_1 (rd t245 x10_3)).f0)) := (blk_cell BK268.out 0).trans rfl
               have hcz298_1 : w248.cell? ⟨gb268, 1, none⟩ = some (.int .i64 ((rd_T33 x5_1 (rd t245 x10_3)).f1)) := (blk_cell BK268.out 1).trans rfl
               have hfz298_0 := blk_frozen BK268.out 0
               have hfz298_1 := blk_frozen BK268.out 1
               have hnb299 := NB273_274.out
               have hnc299 := NB274_273.out
               have hcz300_0 : w248.cell? ⟨gb273, 0, none⟩ = some (.int .i64 0) := (blk_cell BK273.out 0).trans rfl
               have hcz300_1 : w248.cell? ⟨gb273, 1, none⟩ = some (.int .i64 0) := (blk_cell BK273.out 1).trans rfl
               have hfz300_0 := blk_frozen BK273.out 0
               have hfz300_1 := blk_frozen BK273.out 1
               have hcz301_0 : w248.cell? ⟨gb274, 0, none⟩ = some (.int .i64 0) := (blk_cell BK274.out 0).trans rfl
               have hcz301_1 : w248.cell? ⟨gb274, 1, none⟩ = some (.int .i64 0) := (blk_cell BK274.out 1).trans rfl
               have hfz301_0 := blk_frozen BK274.out 0
               have hfz301_1 := blk_frozen BK274.out 1
               go_wp2
               go_meet
               case rel => exact ⟨_, (false), (by first | rfl | (simp; done) | (simp [*]; done)), H', ⟨by have := HK1.out; have := HJ177.out; have := HK3.out; have := HJ196.out; first | omega | exact Nat.le_refl _⟩, ⟨by (with_reducible repeat (first | apply Kd.R_alloc | apply Kd.R_drewN | apply Kd.R_drew)); exact Kd.R_mono (Kd.R_far (p := ⟨gb274, 1, none⟩) (Kd.R_far (p := ⟨gb274, 0, none⟩) (Kd.R_far (p := ⟨gb273, 1, none⟩) (Kd.R_far (p := ⟨gb273, 0, none⟩) (Kd.R_mono (Kd.R_mono HO_5.out (fun k_ hk => (⟨hk, hk.2.2.1⟩ : _ ∧ k_ ≠ gb273))) (fun k_ hk => (⟨hk, hk.1.2.2.2⟩ : _ ∧ k_ ≠ gb274))) (fun _ hk => hk.1.2) (.int .i64 ((rd_T33 x5_1 (rd t248 (ji220))).f0))) (fun _ hk => hk.1.2) (.int .i64 ((rd_T33 x5_1 (rd t248 (ji220))).f1))) (fun _ hk => hk.2) (.int .i64 ((rd_T33 x5_1 (rd t248 x10_3)).f0))) (fun _ hk => hk.2) (.int .i64 ((rd_T33 x5_1 (rd t248 x10_3)).f1))) (fun _ hk => ⟨hk.1.1.1, ⟨hk.1.1.2.1, ⟨hk.1.1.2.2.1, hk.1.1.2.2.2⟩⟩⟩)⟩, ⟨by (with_reducible repeat (first | apply Kd.R_alloc | apply Kd.R_drewN | apply Kd.R_drew)); exact Kd.R_mono (Kd.R_far (p := ⟨gb274, 1, none⟩) (Kd.R_far (p := ⟨gb274, 0, none⟩) (Kd.R_far (p := ⟨gb273, 1, none⟩) (Kd.R_far (p := ⟨gb273, 0, none⟩) (Kd.R_types (Kd.R_types HO_7.out BK273.out (by decide)) BK274.out (by decide)) (fun _ hk => hk.1.2) (.int .i64 ((rd_T33 x5_1 (rd t248 (ji220))).f0))) (fun _ hk => hk.1.2) (.int .i64 ((rd_T33 x5_1 (rd t248 (ji220))).f1))) (fun _ hk => hk.2) (.int .i64 ((rd_T33 x5_1 (rd t248 x10_3)).f0))) (fun _ hk => hk.2) (.int .i64 ((rd_T33 x5_1 (rd t248 x10_3)).f1))) (fun _ hk => hk.1.1)⟩, ⟨by (with_reducible repeat (first | apply Kd.R_alloc | apply Kd.R_drewN | apply Kd.R_drew)); exact Kd.R_mono (Kd.R_far (p := ⟨gb274, 1, none⟩) (Kd.R_far (p := ⟨gb274, 0, none⟩) (Kd.R_far (p := ⟨gb273, 1, none⟩) (Kd.R_far (p := ⟨gb273, 0, none⟩) (Kd.R_types (Kd.R_types HO_8.out BK273.out (by decide)) BK274.out (by decide)) (fun _ hk => hk.1.2) (.int .i64 ((rd_T33 x5_1 (rd t248 (ji220))).f0))) (fun _ hk => hk.1.2) (.int .i64 ((rd_T33 x5_1 (rd t248 (ji220))).f1))) (fun _ hk => hk.2) (.int .i64 ((rd_T33 x5_1 (rd t248 x10_3)).f0))) (fun _ hk => hk.2) (.int .i64 ((rd_T33 x5_1 (rd t248 x10_3)).f1))) (fun _ hk => hk.1.1)⟩, ⟨by (with_reducible repeat (first | apply Kd.R_alloc | apply Kd.R_drewN | apply Kd.R_drew)); exact Kd.R_mono (Kd.R_far (p := ⟨gb274, 1, none⟩) (Kd.R_far (p := ⟨gb274, 0, none⟩) (Kd.R_far (p := ⟨gb273, 1, none⟩) (Kd.R_far (p := ⟨gb273, 0, none⟩) (Kd.R_types (Kd.R_types HO_9.out BK273.out (by decide)) BK274.out (by decide)) (fun _ hk => hk.1.2) (.int .i64 ((rd_T33 x5_1 (rd t248 (ji220))).f0))) (fun _ hk => hk.1.2) (.int .i64 ((rd_T33 x5_1 (rd t248 (ji220))).f1))) (fun _ hk => hk.2) (.int .i64 ((rd_T33 x5_1 (rd t248 x10_3)).f0))) (fun _ hk => hk.2) (.int .i64 ((rd_T33 x5_1 (rd t248 x10_3)).f1))) (fun _ hk => trivial)⟩, ⟨by (with_reducible repeat (first | refine blk_drewN ?_ _ | refine blk_drew ?_ | refine blk_alloc ?_ _)); refine blk_far ?_ NB267_274.out _; (with_reducible repeat (first | refine blk_drewN ?_ _ | refine blk_drew ?_ | refine blk_alloc ?_ _)); refine blk_far ?_ NB267_274.out _; (with_reducible repeat (first | refine blk_drewN ?_ _ | refine blk_drew ?_ | refine blk_alloc ?_ _)); refine blk_far ?_ NB267_273.out _; (with_reducible repeat (first | refine blk_drewN ?_ _ | refine blk_drew ?_ | refine blk_alloc ?_ _)); refine blk_far ?_ NB267_273.out _; (with_reducible repeat (first | refine blk_drewN ?_ _ | refine blk_drew ?_ | refine blk_alloc ?_ _)); exact BK267.out⟩, ⟨by (with_reducible repeat (first | refine blk_drewN ?_ _ | refine blk_drew ?_ | refine blk_alloc ?_ _)); refine blk_far ?_ NB268_274.out _; (with_reducible repeat (first | refine blk_drewN ?_ _ | refine blk_drew ?_ | refine blk_alloc ?_ _)); refine blk_far ?_ NB268_274.out _; (with_reducible repeat (first | refine blk_drewN ?_ _ | refine blk_drew ?_ | refine blk_alloc ?_ _)); refine blk_far ?_ NB268_273.out _; (with_reducible repeat (first | refine blk_drewN ?_ _ | refine blk_drew ?_ | refine blk_alloc ?_ _)); refine blk_far ?_ NB268_273.out _; (with_reducible repeat (first | refine blk_drewN ?_ _ | refine blk_drew ?_ | refine blk_alloc ?_ _)); exact BK268.out⟩, ⟨by (with_reducible repeat (first | refine blk_drewN ?_ _ | refine blk_drew ?_ | refine blk_alloc ?_ _)); refine blk_far ?_ NB273_274.out _; (with_reducible repeat (first | refine blk_drewN ?_ _ | refine blk_drew ?_ | refine blk_alloc ?_ _)); refine blk_far ?_ NB273_274.out _; (with_reducible repeat (first | refine blk_drewN ?_ _ | refine blk_drew ?_ | refine blk_alloc ?_ _)); refine blk_put (cs := #[.int .i64 ((rd_T33 x5_1 (rd t248 (ji220))).f0), .int .i64 0]) ?_ 1 _ rfl; (with_reducible repeat (first | refine blk_drewN ?_ _ | refine blk_drew ?_ | refine blk_alloc ?_ _)); refine blk_put (cs := #[.int .i64 0, .int .i64 0]) ?_ 0 _ rfl; (with_reducible repeat (first | refine blk_drewN ?_ _ | refine blk_drew ?_ | refine blk_alloc ?_ _)); exact BK273.out⟩, ⟨by (with_reducible repeat (first | refine blk_drewN ?_ _ | refine blk_drew ?_ | refine blk_alloc ?_ _)); refine blk_put (cs := #[.int .i64 ((rd_T33 x5_1 (rd t248 x10_3)).f0), .int .i64 0]) ?_ 1 _ rfl; (with_reducible repeat (first | refine blk_drewN ?_ _ | refine blk_drew ?_ | refine blk_alloc ?_ _)); refine blk_put (cs := #[.int .i64 0, .int .i64 0]) ?_ 0 _ rfl; (with_reducible repeat (first | refine blk_drewN ?_ _ | refine blk_drew ?_ | refine blk_alloc ?_ _)); refine blk_far ?_ NB274_273.out _; (with_reducible repeat (first | refine blk_drewN ?_ _ | refine blk_drew ?_ | refine blk_alloc ?_ _)); refine blk_far ?_ NB274_273.out _; (with_reducible repeat (first | refine blk_drewN ?_ _ | refine blk_drew ?_ | refine blk_alloc ?_ _)); exact BK274.out⟩, ⟨by repeat (first | (with_reducible first | exact HB.out | apply below_alloc | apply pw_below_drewN | apply below_drew1 | refine below_set ?_ GE267.out | refine below_set ?_ GE268.out | refine below_set ?_ GE273.out | refine below_set ?_ GE274.out) | exact HB.out)⟩⟩
              rw [if_pos c281] at H
              have c281b0 : (((rd_T33 x5_1 (rd t248 (ji220))).f0) == ((rd_T33 x5_1 (rd t248 x10_3)).f0)) = true := beq_iff_eq.mpr c281
              have c281b1 : (((rd_T33 x5_1 (rd t248 (ji220))).f0) != ((rd_T33 x5_1 (rd t248 x10_3)).f0)) = false := bne_eq_false_iff_eq.mpr c281
              clear c281
              have H' := Aside0.mk H
              clear H
              have hnb282 := NB267_268.out
              have hnc282 := NB268_267.out
              have hnb283 := NB267_273.out
              have hnc283 := NB273_267.out
              have hnb284 := NB267_274.out
              have hnc284 := NB274_267.out
              have hcz285_0 : w248.cell? ⟨gb267, 0, none⟩ = some (.int .i64 ((rd_T33 x5_1 (rd t245 (ji220))).f0)) := (blk_cell BK267.out 0).trans rfl
              have hcz285_1 : w248.cell? ⟨gb267, 1, none⟩ = some (.int .i64 ((rd_T33 x5_1 (rd t245 (ji220))).f1)) := (blk_cell BK267.out 1).trans rfl
              have hfz285_0 := blk_frozen BK267.out 0
              have hfz285_1 := blk_frozen BK267.out 1
              have hnb286 := NB268_273.out
              have hnc286 := NB273_268.out
              have hnb287 := NB268_274.out
              have hnc287 := NB274_268.out
              have hcz288_0 : w248.cell? ⟨gb268, 0, none⟩ = some (.int .i64 ((rd_T33 x5_1 (rd t245 x10_3)).f0)) := (blk_cell BK268.out 0).trans rfl
              have hcz288_1 : w248.cell? ⟨gb268, 1, none⟩ = some (.int .i64 ((rd_T33 x5_1 (rd t245 x10_3)).f1)) := (blk_cell BK268.out 1).trans rfl
              have hfz288_0 := blk_frozen BK268.out 0
              have hfz288_1 := blk_frozen BK268.out 1
              have hnb289 := NB273_274.out
              have hnc289 := NB274_273.out
              have hcz290_0 : w248.cell? ⟨gb273, 0, none⟩ = some (.int .i64 0) := (blk_cell BK273.out 0).trans rfl
              have hcz290_1 : w248.cell? ⟨gb273, 1, none⟩ = some (.int .i64 0) := (blk_cell BK273.out 1).trans rfl
              have hfz290_0 := blk_frozen BK273.out 0
              have hfz290_1 := blk_frozen BK273.out 1
              have hcz291_0 : w248.cell? ⟨gb274, 0, none⟩ = some (.int .i64 0) := (blk_cell BK274.out 0).trans rfl
              have hcz291_1 : w248.cell? ⟨gb274, 1, none⟩ = some (.int .i64 0) := (blk_cell BK274.out 1).trans rfl
              have hfz291_0 := blk_frozen BK274.out 0
              have hfz291_1 := blk_frozen BK274.out 1
              go_wp2
              go_meet
              case rel => exact ⟨_, (decide (((rd_T33 x5_1 (rd t248 (ji220))).f1) ≥ ((rd_T33 x5_1 (rd t248 x10_3)).f1))), (by first | rfl | (simp; done) | (simp only [← hji220] <;> (first | rfl | simp)) | (simp [*]; done)), H', ⟨by have := HK1.out; have := HJ177.out; have := HK3.out; have := HJ196.out; first | omega | exact Nat.le_refl _⟩, ⟨by (with_reducible repeat (first | apply Kd.R_alloc | apply Kd.R_drewN | apply Kd.R_drew)); exact Kd.R_mono (Kd.R_far (p := ⟨gb274, 1, none⟩) (Kd.R_far (p := ⟨gb274, 0, none⟩) (Kd.R_far (p := ⟨gb273, 1, none⟩) (Kd.R_far (p := ⟨gb273, 0, none⟩) (Kd.R_mono (Kd.R_mono HO_5.out (fun k_ hk => (⟨hk, hk.2.2.1⟩ : _ ∧ k_ ≠ gb273))) (fun k_ hk => (⟨hk, hk.1.2.2.2⟩ : _ ∧ k_ ≠ gb274))) (fun _ hk => hk.1.2) (.int .i64 ((rd_T33 x5_1 (rd t248 (ji220))).f0))) (fun _ hk => hk.1.2) (.int .i64 ((rd_T33 x5_1 (rd t248 (ji220))).f1))) (fun _ hk => hk.2) (.int .i64 ((rd_T33 x5_1 (rd t248 x10_3)).f0))) (fun _ hk => hk.2) (.int .i64 ((rd_T33 x5_1 (rd t248 x10_3)).f1))) (fun _ hk => ⟨hk.1.1.1, ⟨hk.1.1.2.1, ⟨hk.1.1.2.2.1, hk.1.1.2.2.2⟩⟩⟩)⟩, ⟨by (with_reducible repeat (first | apply Kd.R_alloc | apply Kd.R_drewN | apply Kd.R_drew)); exact Kd.R_mono (Kd.R_far (p := ⟨gb274, 1, none⟩) (Kd.R_far (p := ⟨gb274, 0, none⟩) (Kd.R_far (p := ⟨gb273, 1, none⟩) (Kd.R_far (p := ⟨gb273, 0, none⟩) (Kd.R_types (Kd.R_types HO_7.out BK273.out (by decide)) BK274.out (by decide)) (fun _ hk => hk.1.2) (.int .i64 ((rd_T33 x5_1 (rd t248 (ji220))).f0))) (fun _ hk => hk.1.2) (.int .i64 ((rd_T33 x5_1 (rd t248 (ji220))).f1))) (fun _ hk => hk.2) (.int .i64 ((rd_T33 x5_1 (rd t248 x10_3)).f0))) (fun _ hk => hk.2) (.int .i64 ((rd_T33 x5_1 (rd t248 x10_3)).f1))) (fun _ hk => hk.1.1)⟩, ⟨by (with_reducible repeat (first | apply Kd.R_alloc | apply Kd.R_drewN | apply Kd.R_drew)); exact Kd.R_mono (Kd.R_far (p := ⟨gb274, 1, none⟩) (Kd.R_far (p := ⟨gb274, 0, none⟩) (Kd.R_far (p := ⟨gb273, 1, none⟩) (Kd.R_far (p := ⟨gb273, 0, none⟩) (Kd.R_types (Kd.R_types HO_8.out BK273.out (by decide)) BK274.out (by decide)) (fun _ hk => hk.1.2) (.int .i64 ((rd_T33 x5_1 (rd t248 (ji220))).f0))) (fun _ hk => hk.1.2) (.int .i64 ((rd_T33 x5_1 (rd t248 (ji220))).f1))) (fun _ hk => hk.2) (.int .i64 ((rd_T33 x5_1 (rd t248 x10_3)).f0))) (fun _ hk => hk.2) (.int .i64 ((rd_T33 x5_1 (rd t248 x10_3)).f1))) (fun _ hk => hk.1.1)⟩, ⟨by (with_reducible repeat (first | apply Kd.R_alloc | apply Kd.R_drewN | apply Kd.R_drew)); exact Kd.R_mono (Kd.R_far (p := ⟨gb274, 1, none⟩) (Kd.R_far (p := ⟨gb274, 0, none⟩) (Kd.R_far (p := ⟨gb273, 1, none⟩) (Kd.R_far (p := ⟨gb273, 0, none⟩) (Kd.R_types (Kd.R_types HO_9.out BK273.out (by decide)) BK274.out (by decide)) (fun _ hk => hk.1.2) (.int .i64 ((rd_T33 x5_1 (rd t248 (ji220))).f0))) (fun _ hk => hk.1.2) (.int .i64 ((rd_T33 x5_1 (rd t248 (ji220))).f1))) (fun _ hk => hk.2) (.int .i64 ((rd_T33 x5_1 (rd t248 x10_3)).f0))) (fun _ hk => hk.2) (.int .i64 ((rd_T33 x5_1 (rd t248 x10_3)).f1))) (fun _ hk => trivial)⟩, ⟨by (with_reducible repeat (first | refine blk_drewN ?_ _ | refine blk_drew ?_ | refine blk_alloc ?_ _)); refine blk_far ?_ NB267_274.out _; (with_reducible repeat (first | refine blk_drewN ?_ _ | refine blk_drew ?_ | refine blk_alloc ?_ _)); refine blk_far ?_ NB267_274.out _; (with_reducible repeat (first | refine blk_drewN ?_ _ | refine blk_drew ?_ | refine blk_alloc ?_ _)); refine blk_far ?_ NB267_273.out _; (with_reducible repeat (first | refine blk_drewN ?_ _ | refine blk_drew ?_ | refine blk_alloc ?_ _)); refine blk_far ?_ NB267_273.out _; (with_reducible repeat (first | refine blk_drewN ?_ _ | refine blk_drew ?_ | refine blk_alloc ?_ _)); exact BK267.out⟩, ⟨by (with_reducible repeat (first | refine blk_drewN ?_ _ | refine blk_drew ?_ | refine blk_alloc ?_ _)); refine blk_far ?_ NB268_274.out _; (with_reducible repeat (first | refine blk_drewN ?_ _ | refine blk_drew ?_ | refine blk_alloc ?_ _)); refine blk_far ?_ NB268_274.out _; (with_reducible repeat (first | refine blk_drewN ?_ _ | refine blk_drew ?_ | refine blk_alloc ?_ _)); refine blk_far ?_ NB268_273.out _; (with_reducible repeat (first | refine blk_drewN ?_ _ | refine blk_drew ?_ | refine blk_alloc ?_ _)); refine blk_far ?_ NB268_273.out _; (with_reducible repeat (first | refine blk_drewN ?_ _ | refine blk_drew ?_ | refine blk_alloc ?_ _)); exact BK268.out⟩, ⟨by (with_reducible repeat (first | refine blk_drewN ?_ _ | refine blk_drew ?_ | refine blk_alloc ?_ _)); refine blk_far ?_ NB273_274.out _; (with_reducible repeat (first | refine blk_drewN ?_ _ | refine blk_drew ?_ | refine blk_alloc ?_ _)); refine blk_far ?_ NB273_274.out _; (with_reducible repeat (first | refine blk_drewN ?_ _ | refine blk_drew ?_ | refine blk_alloc ?_ _)); refine blk_put (cs := #[.int .i64 ((rd_T33 x5_1 (rd t248 (ji220))).f0), .int .i64 0]) ?_ 1 _ rfl; (with_reducible repeat (first | refine blk_drewN ?_ _ | refine blk_drew ?_ | refine blk_alloc ?_ _)); refine blk_put (cs := #[.int .i64 0, .int .i64 0]) ?_ 0 _ rfl; (with_reducible repeat (first | refine blk_drewN ?_ _ | refine blk_drew ?_ | refine blk_alloc ?_ _)); exact BK273.out⟩, ⟨by (with_reducible repeat (first | refine blk_drewN ?_ _ | refine blk_drew ?_ | refine blk_alloc ?_ _)); refine blk_put (cs := #[.int .i64 ((rd_T33 x5_1 (rd t248 x10_3)).f0), .int .i64 0]) ?_ 1 _ rfl; (with_reducible repeat (first | refine blk_drewN ?_ _ | refine blk_drew ?_ | refine blk_alloc ?_ _)); refine blk_put (cs := #[.int .i64 0, .int .i64 0]) ?_ 0 _ rfl; (with_reducible repeat (first | refine blk_drewN ?_ _ | refine blk_drew ?_ | refine blk_alloc ?_ _)); refine blk_far ?_ NB274_273.out _; (with_reducible repeat (first | refine blk_drewN ?_ _ | refine blk_drew ?_ | refine blk_alloc ?_ _)); refine blk_far ?_ NB274_273.out _; (with_reducible repeat (first | refine blk_drewN ?_ _ | refine blk_drew ?_ | refine blk_alloc ?_ _)); exact BK274.out⟩, ⟨by repeat (first | (with_reducible first | exact HB.out | apply below_alloc | apply pw_below_drewN | apply below_drew1 | refine below_set ?_ GE267.out | refine below_set ?_ GE268.out | refine below_set ?_ GE273.out | refine below_set ?_ GE274.out) | exact HB.out)⟩⟩
             case rest =>
              as_aux_lemma =>
               clear HC232
               try clear c2
               try clear p2
               try clear c3
               try clear c25
               try clear c26
               try clear c27
               try clear c28
               try clear c29
               try clear c30
               try clear c31
               try clear c32
               try clear c33
               try clear c253
               try clear c253b0
               try clear c254
               try clear c255
               try clear c256
               try clear c258
               try clear c259
               try clear c261
               try clear c261b0
               try clear c261b1
               try clear c262
               try clear c262b0
               try clear c263
               try clear c264
               try clear c265
               try clear c267
               try clear c268
               try clear c270
               try clear c270b0
               try clear c271
               try clear c272
               try clear c273
               try clear c275
               try clear c276
               try clear c278
               try clear c281
               try clear c281b0
               try clear c281b1
               try clear c282
               try clear c283
               try clear c284
               try clear c286
               try clear c287
               try clear c289
               try clear c292
               try clear c293
               try clear c294
               try clear c296
               try clear c297
               try clear c299
               try clear c302
               try clear c302b0
               try clear c303
               try clear c304
               try clear c305
               try clear c307
               try clear c308
               try clear c310
               try clear c313
               try clear c313b0
               try clear c313b1
               try clear c314
               try clear c315
               try clear c316
               try clear c318
               try clear c319
               try clear c321
               try clear c324
               try clear c325
               try clear c326
               try clear c328
               try clear c329
               try clear c331
               try clear hcz257_0
               try clear hcz257_1
               try clear hcz260_0
               try clear hcz260_1
               try clear hcz266_0
               try clear hcz266_1
               try clear hcz269_0
               try clear hcz269_1
               try clear hcz274_0
               try clear hcz274_1
               try clear hcz277_0
               try clear hcz277_1
               try clear hcz279_0
               try clear hcz279_1
               try clear hcz280_0
               try clear hcz280_1
               try clear hcz285_0
               try clear hcz285_1
               try clear hcz288_0
               try clear hcz288_1
               try clear hcz290_0
               try clear hcz290_1
               try clear hcz291_0
               try clear hcz291_1
               try clear hcz295_0
               try clear hcz295_1
               try clear hcz298_0
               try clear hcz298_1
               try clear hcz300_0
               try clear hcz300_1
               try clear hcz301_0
               try clear hcz301_1
               try clear hcz306_0
               try clear hcz306_1
               try clear hcz309_0
               try clear hcz309_1
               try clear hcz311_0
               try clear hcz311_1
               try clear hcz312_0
               try clear hcz312_1
               try clear hcz317_0
               try clear hcz317_1
               try clear hcz320_0
               try clear hcz320_1
               try clear hcz322_0
               try clear hcz322_1
               try clear hcz323_0
               try clear hcz323_1
               try clear hcz327_0
               try clear hcz327_1
               try clear hcz330_0
               try clear hcz330_1
               try clear hcz332_0
               try clear hcz332_1
               try clear hcz333_0
               try clear hcz333_1
               try clear hfz257_0
               try clear hfz257_1
               try clear hfz260_0
               try clear hfz260_1
               try clear hfz266_0
               try clear hfz266_1
               try clear hfz269_0
               try clear hfz269_1
               try clear hfz274_0
               try clear hfz274_1
               try clear hfz277_0
               try clear hfz277_1
               try clear hfz279_0
               try clear hfz279_1
               try clear hfz280_0
               try clear hfz280_1
               try clear hfz285_0
               try clear hfz285_1
               try clear hfz288_0
               try clear hfz288_1
               try clear hfz290_0
               try clear hfz290_1
               try clear hfz291_0
               try clear hfz291_1
               try clear hfz295_0
               try clear hfz295_1
               try clear hfz298_0
               try clear hfz298_1
               try clear hfz300_0
               try clear hfz300_1
               try clear hfz301_0
               try clear hfz301_1
               try clear hfz306_0
               try clear hfz306_1
               try clear hfz309_0
               try clear hfz309_1
               try clear hfz311_0
               try clear hfz311_1
               try clear hfz312_0
               try clear hfz312_1
               try clear hfz317_0
               try clear hfz317_1
               try clear hfz320_0
               try clear hfz320_1
               try clear hfz322_0
               try clear hfz322_1
               try clear hfz323_0
               try clear hfz323_1
               try clear hfz327_0
               try clear hfz327_1
               try clear hfz330_0
               try clear hfz330_1
               try clear hfz332_0
               try clear hfz332_1
               try clear hfz333_0
               try clear hfz333_1
               obtain ⟨kq, x190_231, rfl, HA, HJ231, HO_5, HO_7, HO_8, HO_9, BK267, BK268, BK273, BK274, HB⟩ := hcut
               have hl9_231 := (Kd.R_reads' HO_9.out).1
               rw [hl9_231] at HO_9
               (try simp only [hl9_231])
               (try simp only [hl9_231] at BK267)
               (try simp only [hl9_231] at BK268)
               (try simp only [hl9_231] at BK273)
               (try simp only [hl9_231] at BK274)
               (try simp only [hl9_231] at HO_5)
               (try simp only [hl9_231] at HO_7)
               (try simp only [hl9_231] at HO_8)
               cases kq with
               | zero => exact absurd HA.out (by simp [scarflaw03_RankBy.j9])
               | succ kj231 =>
                have H := HA.out
                clear HA
                simp only [scarflaw03_RankBy.j9] at H
                by_cases c334 : x190_231 = true
                ·subst c334
                 have H1 : (some false) = some r := by rw [if_pos rfl] at H; exact H
                 clear H
                 have H := H1
                 clear H1
                 obtain rfl := Option.some.inj H
                 go_wp2
                 go_ret
                 exact ⟨by first | rfl | (simp [errW_none, errW_some] <;> rfl) | (simp only [← hji220]; first | rfl | (simp [errW_none, errW_some] <;> rfl)) | (simp [*, errW_none, errW_some] <;> rfl), by repeat (first | (with_reducible first | exact HB.out | apply below_alloc | apply pw_below_drewN | apply below_drew1 | refine below_set ?_ GE267.out | refine below_set ?_ GE268.out | refine below_set ?_ GE273.out | refine below_set ?_ GE274.out) | exact HB.out)⟩
                replace c334 := Bool.eq_false_iff.mpr c334
                subst c334
                have H1 : (scarflaw03_RankBy.l3 kj231 x5_1 t245 t248 y262 (wrap64 (x10_3 + 1))) = some r := by rw [if_neg (show ¬ (false = true) by decide)] at H; exact H
                clear H
                have H := H1
                clear H1
                have H' := Aside0.mk H
                clear H
                go_wp2
                (try simp only [← hl9_231])
                go_roundg kj231
                case measure => have := HK1.out; have := HJ177.out; have := HK3.out; have := HJ196.out; have := HJ231.out; omega
                case rel => exact ⟨(y262), (wrap64 (x10_3 + 1)), (by first | rfl | (simp; done) | (simp [*]; done)), H', ⟨by have := HK1.out; have := HJ177.out; have := HK3.out; have := HJ196.out; have := HJ231.out; omega⟩, ⟨by (try simp only [hl9_231]); (with_reducible repeat (first | apply Kd.R_alloc | apply Kd.R_drewN | apply Kd.R_drew)); exact Kd.R_mono HO_5.out (fun _ hk => trivial)⟩, ⟨by (try simp only [hl9_231]); (with_reducible repeat (first | apply Kd.R_alloc | apply Kd.R_drewN | apply Kd.R_drew)); exact HO_7.out⟩, ⟨by (try simp only [hl9_231]); (with_reducible repeat (first | apply Kd.R_alloc | apply Kd.R_drewN | apply Kd.R_drew)); exact HO_8.out⟩, ⟨by (try simp only [hl9_231]); (with_reducible repeat (first | apply Kd.R_alloc | apply Kd.R_drewN | apply Kd.R_drew)); exact HO_9.out⟩, ⟨by repeat (first | (with_reducible first | exact HB.out | apply below_alloc | apply pw_below_drewN | apply below_drew1 | refine below_set ?_ GE267.out | refine below_set ?_ GE268.out | refine below_set ?_ GE273.out | refine below_set ?_ GE274.out) | exact HB.out)⟩⟩

/-- THE ONE PURE STATEMENT of scarflaw03_RankBy: yours. -/
def scarflaw03_RankBy.Pure : Prop := ∀ (l0 : List Int) (a1 : Int), l0.length ≤ maxLen → l0.length * 8 ≤ 140737488351232 → (∀ x ∈ l0, (Lit.int .i64 x).wf = true) → (Lit.int .i64 a1).wf = true → ∃ k, scarflaw03_RankBy.f k l0 a1 = some true
theorem scarflaw03_RankBy.walk (P : scarflaw03_RankBy.Pure) (a0 : Option Addr) (len0 cap0 : Nat) (z0 : List Int) (a1 : Int) (w : World) (w0 : (a0 = none ∧ len0 = 0 ∧ cap0 = 0 ∧ z0 = []) ∨ ∃ x, a0 = some x ∧ len0 ≤ cap0 ∧ cap0 ≤ maxLen ∧ z0.length = cap0 ∧ (∀ i, i < z0.length → w.cell? (x.add i) = some (.int .i64 (z0.getD i 0))) ∧ ∀ n ∈ z0, (Lit.int .i64 n).wf = true) (y0 : len0 * 8 ≤ 140737488351232) (w1 : (Lit.int .i64 a1).wf = true) :
    Calls Try.prog 5 #[.slice a0 len0 cap0, .int .i64 a1] w fun e w' => e = .returned (.bool true) ∧ Below w.heap.size w w' := by
  obtain ⟨l0, rfl, hr0, hm0, hw0, hc0⟩ := ReadsInt.ofRowC w0
  obtain ⟨k, h⟩ := P l0 a1 hm0 y0 hw0 w1
  refine (scarflaw03_RankBy.calls k _ _ l0 a1 true w (Kd.C_of_reads (d := (0 : Int)) (h1 := fun _ => rfl) hr0) hc0 h).mono ?_
  rintro e w' ⟨rfl, hd⟩
  exact ⟨rfl, hd⟩

end Go.Proofs.Ytlpopkknamigoaa.Q

