/- line.Starts, in the print's form. -/
import Derived.Test.YtdekcmaakdpmaaaXLineB
namespace Go.Proofs.Ytdekcmaakdpmaaa.Q
open Go.RowKit Go.Proofs.YtdekcmaakdpmaaaW.PrintWords Go.Proofs.YtdekcmaakdpmaaaW.PrintLast Go.Proofs.YtdekcmaakdpmaaaW.PrintMore
set_option linter.unusedVariables false
set_option linter.unusedSimpArgs false
attribute [local go_sem] Oper.semAt_some

theorem infoL3 : (Try.prog.info? 3).map (fun i => (i.zero, i.size, i.bytes)) = some (some (.int .i64 0), 1, 8) := by kernel_rfl
/-- what Starts holds between two rounds: the row in a box (H + 1), the iterator's box (H + 2) -/
def HoldT (w : World) (ls : List Int) (W : World) : Prop :=
  ∃ v, Boxed W (w.heap.size + 1) 26 v ∧ Kd.R (Kd.int .i64) 3 W w.heap.size (fun k => k ≠ w.heap.size + 1 ∧ k ≠ w.heap.size + 2) v ls ∧ Below w.heap.size w W
theorem HoldT.alloc {w : World} {ls : List Int} {W : World} (h : HoldT w ls W) (o : Obj) : HoldT w ls (W.alloc o) := by
  obtain ⟨v, hv, hs, hb⟩ := h
  exact ⟨v, hv.alloc o, Kd.R_alloc hs o, below_alloc hb o⟩
theorem HoldT.put {w : World} {ls : List Int} {W : World} (h : HoldT w ls W) {k : Nat} {o o' : Obj} (hk : w.heap.size + 3 ≤ k) (ho : W.heap[k]? = some o) (hc : o.isCells = false) : HoldT w ls (W.putObj k o') := by
  obtain ⟨v, hv, hs, hb⟩ := h
  refine ⟨v, hv.kept (grownBy_putObj' W k o') (by intro e; injection e with e; omega), ?_, hb.grown (grownBy_putObj' W k o') hb.size (fun j e => by cases e; omega)⟩
  refine Kd.R_mono (Kd.R_move (Kd.R_bound hs) (fun j hj => ?_)) (fun _ hj => hj.1)
  refine World.putObj_heap_other (fun e => ?_)
  subst e
  obtain ⟨_, _, _, _, _, cells, hcs⟩ := hj
  rw [ho] at hcs
  cases hcs
  cases hc
theorem HoldT.set {w : World} {ls : List Int} {W : World} (h : HoldT w ls W) (v : Value) : HoldT w ls (W.setCell ⟨w.heap.size + 2, 0, none⟩ v) := by
  obtain ⟨u, hu, hs, hb⟩ := h
  exact ⟨u, hu.kept (grownBy_setCell' W (w.heap.size + 2) v) (by intro e; injection e with e; omega), Kd.R_far hs (fun k hk => hk.2) v, hb.setCell (p := ⟨w.heap.size + 2, 0, none⟩) (by show w.heap.size ≤ w.heap.size + 2; omega) v⟩
def flatV (pre : List (Option Addr × Nat × List Int)) : List Int := (pre.map (fun x => x.2.2)).flatten
def IT (w : World) (pre : List (Option Addr × Nat × List Int)) (W : World) : Prop := HoldT w (0 :: startsL 0 (flatV pre)) W

set_option maxHeartbeats 8000000 in
set_option maxRecDepth 100000 in
theorem line_Starts.calls (A0 : Option Addr) (c0 : Nat) (l0 : List Int) (r : List Int) (w : World) (hr0 : Kd.C (Kd.int .u8) w A0 l0.length l0) (hc0 : l0.length ≤ c0) (h : line_Starts.f l0 = some r) :
    Calls Try.prog 10 #[.slice A0 l0.length c0] w fun e w' => ∃ v0_ : Value, e = .returned (v0_) ∧ Kd.R (Kd.int .i64) 3 w' w.heap.size (fun _ => True) v0_ r ∧ Below w.heap.size w w' := by
  unfold line_Starts.f at h
  split at h
  case isFalse => cases h
  case isTrue hbs =>
  obtain rfl := Option.some.inj h
  simp only [Bool.and_eq_true, decide_eq_true_eq] at hbs
  obtain ⟨hb, hsz⟩ := hbs
  have HR := Aside0.mk hr0
  clear hr0 h
  refine (callsIn_wide (n := 2)).1 ?_
  refine callsIn_of_wp_marks Try.func10 rfl trivial ?_ rfl
  simp only [Try.ntmps10, List.size_toArray, List.length_cons, List.length_nil, Nat.reduceAdd, Nat.reduceSub, Array.replicate_succ, Array.replicate_zero, List.push_toArray, List.append_toArray, List.nil_append, List.cons_append]
  gi_wp2_with (refine ⟨trivial, ?_⟩; gi_at_call 18; refine (callsIn_wide.2 (lines_calls A0 l0.length c0 _)).mono ?_; rintro e w' ⟨rfl, rfl⟩)
  have bR : Kd.R (Kd.int .i64) 3 (w.alloc (.cells #[.int .i64 0] 3)) w.heap.size (fun k => k ≠ w.heap.size + 1 ∧ k ≠ w.heap.size + 2) (.slice (some ⟨w.heap.size, 0, none⟩) 1 1) [0] := by
    refine Kd.R_of_own (by simpa [encs] using World.ownsRow_lit (base := w.heap.size) (e := 3) (size := 1) w #[.int .i64 0] 1 (Nat.le_refl _) (by decide) rfl) (fun k hk => ?_)
    simp [Value.ownBlock] at hk
    omega
  have bO := Boxed.new (w.alloc (.cells #[.int .i64 0] 3)) 26 (.slice (some ⟨w.heap.size, 0, none⟩) 1 1)
  have bN := Boxed.new ((w.alloc (.cells #[.int .i64 0] 3)).alloc (.cells #[.slice (some ⟨w.heap.size, 0, none⟩) 1 1] 26)) 22 (.slice A0 l0.length c0)
  rw [World.size_alloc] at bO
  rw [World.size_alloc, World.size_alloc] at bN
  have hB0 : Below w.heap.size w (((w.alloc (.cells #[.int .i64 0] 3)).alloc (.cells #[.slice (some ⟨w.heap.size, 0, none⟩) 1 1] 26)).alloc (.cells #[.slice A0 l0.length c0] 22)) := (((Below.refl _ w).alloc (Nat.le_refl _) _).alloc (by simp) _).alloc (by simp; omega) _
  have hsize : (((w.alloc (.cells #[.int .i64 0] 3)).alloc (.cells #[.slice (some ⟨w.heap.size, 0, none⟩) 1 1] 26)).alloc (.cells #[.slice A0 l0.length c0] 22)).heap.size = w.heap.size + 3 := by simp
  have hmem := linesV_mem l0.length l0 A0 c0 (Nat.le_refl _) HR.out hc0
  have h00 : IT w [] (((w.alloc (.cells #[.int .i64 0] 3)).alloc (.cells #[.slice (some ⟨w.heap.size, 0, none⟩) 1 1] 26)).alloc (.cells #[.slice A0 l0.length c0] 22)) := ⟨_, bO.alloc _, Kd.R_alloc (Kd.R_alloc bR _) _, hB0⟩
  generalize (((w.alloc (.cells #[.int .i64 0] 3)).alloc (.cells #[.slice (some ⟨w.heap.size, 0, none⟩) 1 1] 26)).alloc (.cells #[.slice A0 l0.length c0] 22)) = W0 at *
  clear bR bO
  refine wpIn_rangeBox (gf := 23) (lb := #[.pointer (some ⟨w.heap.size + 1 + 1, 0, none⟩)]) rfl (Go.Proofs.enters_of Try.func23 (by kernel_rfl) rfl)
    (fun x : Option Addr × Nat × List Int => #[Value.slice x.1 x.2.2.length x.2.1]) (fun _ => rfl) (w.heap.size + 1 + 1) (by omega)
    (KpL w.heap.size (w.heap.size + 1 + 1)) KpL_t (KpL_put (by omega) (by omega)) (KpL_alloc (by omega) (by omega)) ⟨Below.refl _ _, Nat.le_refl _, rfl⟩
    (linesV A0 c0 (splitL l0)) (IT w) (fun _ _ o h => HoldT.alloc h o) (fun _ _ k o o' h hk ho hc => HoldT.put h (by omega) ho hc) (fun _ _ v h => HoldT.set h v) h00 ?seq
    (fun x => { tmps := #[.slice A0 l0.length c0, undef, .slice none 0 0, .pointer (some ⟨w.heap.size + 1, 0, none⟩), .slice x.1 x.2.2.length x.2.1, .slice (some ⟨w.heap.size, 0, none⟩) 1 1, .slice A0 l0.length c0, .func (.func 23) #[] #[.pointer (some ⟨w.heap.size + 1 + 1, 0, none⟩)], .slice x.1 x.2.2.length x.2.1, undef, undef, undef, undef, undef, undef, undef, undef, undef, undef, undef, undef, undef, undef, undef, undef, undef, undef, undef, undef], defers := [] }) ?assign ?body ?done
  case seq =>
    intro k J W hkp hJb hY h0
    exact lines1 (n := 2) w k (w.heap.size + 1 + 1) A0 c0 l0 HR.out hc0 hb hsz (by omega) W (hB0.trans hkp.1) (hkp.2.2.trans bN) J hJb hY h0
  case assign =>
    intro l x W K hK
    gi_wp2
    exact hK
  case body =>
    rintro k pre ⟨A, c, l⟩ W hI hpre hWs
    obtain ⟨hCl, hcl, hnel, hll⟩ := hmem _ (hpre.subset (List.mem_append_right _ (List.mem_singleton.2 rfl)))
    dsimp only at hCl hcl hnel hll
    have hlp : 0 < l.length := List.length_pos_iff.2 hnel
    obtain ⟨restv, hrestv⟩ := hpre
    have hls : splitL l0 = pre.map (fun x => x.2.2) ++ l :: restv.map (fun x => x.2.2) := by
      have := congrArg (List.map (fun x : Option Addr × Nat × List Int => x.2.2)) hrestv
      rw [linesV_snd] at this
      rw [← this]
      simp
    obtain ⟨hPn, hxn⟩ := splitL_lines l0.length l0 (Nat.le_refl _) _ _ _ hls
    obtain ⟨Qs, hQs⟩ := starts_last _ 0 hPn
    have hflen : (flatV pre).length + l.length ≤ l0.length := by
      have := congrArg (fun z => (List.flatten z).length) hls
      simp only [splitL_flat] at this
      rw [List.flatten_append, List.flatten_cons, List.length_append, List.length_append] at this
      show (pre.map (fun x => x.2.2)).flatten.length + l.length ≤ l0.length
      omega
    obtain ⟨v, hv, hS, hB⟩ := hI
    have hstep : (0 : Int) :: startsL 0 (flatV (pre ++ [(A, c, l)])) = (0 :: startsL 0 (flatV pre)) ++ startsL (flatV pre).length l := by
      unfold flatV
      rw [List.map_append, List.flatten_append, startsL_app]
      simp
    have hS2 := hS
    have hlenS : (0 :: startsL 0 (flatV pre)).length ≤ 1000001 := by
      have := startsL_len 0 (flatV pre)
      simp only [List.length_cons]
      omega
    have hw1 : wrap64 ((l.length : Int) - 1) = (l.length : Int) - 1 := by unfold wrap64; omega
    obtain ⟨ad, e119, hx119⟩ := Kd.at_int hCl ((l.length : Int) - 1) (by omega) (by omega)
    cases e119
    replace hx119 := (hB.cell (World.block_lt_of_cell? w _ hx119)).trans hx119
    have htn : ((l.length : Int) - 1).toNat = l.length - 1 := by omega
    rw [htn] at hx119
    have hd1 : decide (0 ≤ (l.length : Int) - 1) = true := decide_eq_true (by omega)
    have hd2 : decide ((l.length : Int) - 1 < (l.length : Int)) = true := decide_eq_true (by omega)
    have hq1 : (0 ≤ (l.length : Int) - 1) = True := eq_true (by omega)
    have hq2 : ((l.length : Int) - 1 < (l.length : Int)) = True := eq_true (by omega)
    have hrd : rd l ((l.length : Int) - 1) = l.getD (l.length - 1) 0 := by
      unfold rd
      rw [htn]
    obtain ⟨z, hz⟩ : ∃ z, z = rd l ((l.length : Int) - 1) := ⟨_, rfl⟩
    rw [← hz] at hx119
    have hlastl : ∀ p : List Int, l = p ++ [10] → rd l ((l.length : Int) - 1) = 10 := by
      intro p hp
      rw [hrd, hp]
      simp
    have hnone : ¬ rd l ((l.length : Int) - 1) = 10 → startsL (flatV pre).length l = [] := by
      intro hn
      rcases hxn with ⟨p, hp, _⟩ | ⟨_, h2, _⟩
      · exact absurd (hlastl p hp) hn
      · exact startsL_none _ _ h2
    have hsome : rd l ((l.length : Int) - 1) = 10 → startsL (flatV pre).length l = [((flatV pre).length : Int) + (l.length : Int)] := by
      intro hn
      rcases hxn with ⟨p, hp, hpn⟩ | ⟨_, h2, _⟩
      · rw [hp, startsL_end hpn]
        simp
        omega
      · exfalso
        apply h2
        rw [hrd, List.getD_eq_getElem?_getD, List.getElem?_eq_getElem (by omega)] at hn
        rw [← hn]
        exact List.getElem_mem _
    rw [← hz] at hnone hsome
    clear hlastl hrd hz
    by_cases h10 : z = 10
    · have hb10 : (z == 10) = true := beq_iff_eq.2 h10
      gi_wp2
      have hNeg : 0 < (0 :: startsL 0 (flatV pre)).length := by simp
      obtain ⟨g, cap, rfl, hg0, hg1, hgc⟩ := Kd.R_form hS hNeg
      obtain ⟨N, hN⟩ : ∃ N, N = (0 :: startsL 0 (flatV pre)).length := ⟨_, rfl⟩
      rw [← hN] at hS hv hlenS hNeg
      have hwN : wrap64 ((N : Int) - 1) = (N : Int) - 1 := by unfold wrap64; omega
      have hlast : rd (0 :: startsL 0 (flatV pre)) ((N : Int) - 1) = (flatV pre).length := by
        have e1 : (0 : Int) :: startsL 0 (flatV pre) = Qs ++ [0 + ((flatV pre).length : Int)] := hQs
        have e2 : N = Qs.length + 1 := by rw [hN, e1]; simp
        have e3 : ((N : Int) - 1).toNat = Qs.length := by omega
        unfold rd
        rw [e3, e1]
        simp
      have hrow := (Kd.R_celln (enc := Value.int .i64) (h1 := fun _ => rfl) (0 : Int) hS ((N : Int) - 1) (by omega) (by omega)).1
      have htN : ((N : Int) - 1).toNat = N - 1 := by omega
      rw [htN] at hrow
      have hrow2 : W.cell? ⟨g, N - 1, none⟩ = some (.int .i64 (flatV pre).length) := by rw [hrow]; exact congrArg (fun z => some (Value.int .i64 z)) hlast
      have HN := Aside0.mk hN
      clear hN
      have hdN1 : decide (0 ≤ (N : Int) - 1) = true := decide_eq_true (by omega)
      have hdN2 : decide ((N : Int) - 1 < (N : Int)) = true := decide_eq_true (by omega)
      have hqN3 : (1 ≤ (N : Int)) = True := eq_true (by omega)
      have hqN1 : (0 ≤ (N : Int) - 1) = True := eq_true (by omega)
      have hqN2 : ((N : Int) - 1 < (N : Int)) = True := eq_true (by omega)
      have hSd := Kd.R_drew hS
      have hBd : Below w.heap.size w W.drew := below_drew1 hB
      have hvd : Boxed W.drew (w.heap.size + 1) 26 (.slice (some ⟨g, 0, none⟩) N cap) := hv
      have hk0 : KpL w.heap.size (w.heap.size + 1 + 1) W W.drew := ⟨⟨rfl, rfl, rfl, Nat.le_refl _, fun _ _ => rfl⟩, Nat.le_refl _, rfl⟩
      have hf0 : KeepsFrom W0.heap.size W W.drew := (KeepsOthers.drew W).from _
      have hsz0 : W0.heap.size + 1 < W.drew.heap.size := hWs
      have haw := Kd.R_away hSd (g := w.heap.size + 1) (fun k hk => hk.1)
      refine startIn_ (k := 13) (S := fun w' => w'.cell? ⟨w.heap.size + 1, 0, none⟩ = some (.slice (some ⟨g, 0, none⟩) N cap) ∧ w'.cell? ⟨g, N - 1, none⟩ = some (.int .i64 (flatV pre).length)) (ds := [11, 12]) #[false, false, false, false, false, false, false, false, false, false, false, false, false] (by kernel_rfl) (by kernel_rfl) (by rintro ⟨_, _, h⟩; exact nomatch (show _ ∧ _ from h).1) rfl rfl ⟨hvd.cell, hrow2⟩ (fun hHeld => ?_)
      have hrow : W.drew.cell? ⟨g, N - 1, none⟩ = some (.int .i64 (flatV pre).length) := hrow2
      generalize W.drew = W1 at hSd hBd hvd hk0 hf0 hsz0 hHeld hrow ⊢
      refine take_ (i := 0) (N := some 16) (v := ?_) (a' := ?_) #[true, false, false, false, false, false, false, false, false, false, false, false, false] rfl rfl (by kernel_rfl) (fun _ _ _ h => h) (Or.inl ⟨by rfl, ?_⟩) hHeld ?_ ?_
      rotate_left
      · rintro w' ⟨s0, s1⟩
        go_simp
        with_reducible rfl
      rotate_left
      · simp only [Act.put, List.setIfInBounds_toArray, List.set_cons_zero, List.set_cons_succ, i64_w, i32_w]
        rfl
      refine take_ (i := 1) (N := some 17) (v := ?_) (a' := ?_) #[true, true, false, false, false, false, false, false, false, false, false, false, false] rfl rfl (by kernel_rfl) (fun _ _ _ h => h) (Or.inl ⟨by rfl, ?_⟩) hHeld ?_ ?_
      rotate_left
      · rintro w' ⟨s0, s1⟩
        go_simp
        with_reducible rfl
      rotate_left
      · simp only [Act.put, List.setIfInBounds_toArray, List.set_cons_zero, List.set_cons_succ, i64_w, i32_w]
        rfl
      refine take_ (i := 2) (N := some 18) (v := ?_) (a' := ?_) #[true, true, true, false, false, false, false, false, false, false, false, false, false] rfl rfl (by kernel_rfl) (fun _ _ _ h => h) (Or.inl ⟨by rfl, ?_⟩) hHeld ?_ ?_
      rotate_left
      · rintro w' ⟨s0, s1⟩
        go_simp
        with_reducible rfl
      rotate_left
      · simp only [Act.put, List.setIfInBounds_toArray, List.set_cons_zero, List.set_cons_succ, i64_w, i32_w]
        rfl
      refine pure_ (i := 3) (N := some 19) (v := ?_) (a' := ?_) #[true, true, true, true, false, false, false, false, false, false, false, false, false] rfl rfl (by kernel_rfl) (fun _ _ _ h => h) (Or.inl ⟨by rfl, ?_⟩) ?_ ?_
      rotate_left
      · intro w'
        go_simp
        with_reducible rfl
      rotate_left
      · simp only [Act.put, List.setIfInBounds_toArray, List.set_cons_zero, List.set_cons_succ, i64_w, i32_w]
        rfl
      refine pure_ (i := 4) (N := some 20) (v := ?_) (a' := ?_) #[true, true, true, true, true, false, false, false, false, false, false, false, false] rfl rfl (by kernel_rfl) (fun _ _ _ h => h) (Or.inl ⟨by rfl, ?_⟩) ?_ ?_
      rotate_left
      · intro w'
        go_simp
        with_reducible rfl
      rotate_left
      · simp only [Act.put, List.setIfInBounds_toArray, List.set_cons_zero, List.set_cons_succ, i64_w, i32_w]
        rfl
      refine pure_ (i := 5) (N := some 21) (v := ?_) (a' := ?_) #[true, true, true, true, true, true, false, false, false, false, false, false, false] rfl rfl (by kernel_rfl) (fun _ _ _ h => h) (Or.inl ⟨by rfl, ?_⟩) ?_ ?_
      rotate_left
      · intro w'
        go_simp
        with_reducible rfl
      rotate_left
      · simp only [Act.put, List.setIfInBounds_toArray, List.set_cons_zero, List.set_cons_succ, i64_w, i32_w]
        rfl
      refine take_ (i := 6) (N := some 22) (v := ?_) (a' := ?_) #[true, true, true, true, true, true, true, false, false, false, false, false, false] rfl rfl (by kernel_rfl) (fun _ _ _ h => h) (Or.inl ⟨by rfl, ?_⟩) hHeld ?_ ?_
      rotate_left
      · rintro w' ⟨s0, s1⟩
        go_simp
        with_reducible rfl
      rotate_left
      · simp only [Act.put, List.setIfInBounds_toArray, List.set_cons_zero, List.set_cons_succ, i64_w, i32_w]
        rfl
      refine pure_ (i := 7) (N := some 23) (v := ?_) (a' := ?_) #[true, true, true, true, true, true, true, true, false, false, false, false, false] rfl rfl (by kernel_rfl) (fun _ _ _ h => h) (Or.inl ⟨by rfl, ?_⟩) ?_ ?_
      rotate_left
      · intro w'
        go_simp
        with_reducible rfl
      rotate_left
      · simp only [Act.put, List.setIfInBounds_toArray, List.set_cons_zero, List.set_cons_succ, i64_w, i32_w]
        rfl
      refine pure_ (i := 8) (N := some 24) (v := ?_) (a' := ?_) #[true, true, true, true, true, true, true, true, true, false, false, false, false] rfl rfl (by kernel_rfl) (fun _ _ _ h => h) (Or.inl ⟨by rfl, ?_⟩) ?_ ?_
      rotate_left
      · intro w'
        go_simp
        with_reducible rfl
      rotate_left
      · simp only [Act.put, List.setIfInBounds_toArray, List.set_cons_zero, List.set_cons_succ, i64_w, i32_w]
        rfl
      refine pure_ (i := 9) (N := some 25) (v := ?_) (a' := ?_) #[true, true, true, true, true, true, true, true, true, true, false, false, false] rfl rfl (by kernel_rfl) (fun _ _ _ h => h) (Or.inl ⟨by rfl, ?_⟩) ?_ ?_
      rotate_left
      · intro w'
        go_simp
        with_reducible rfl
      rotate_left
      · simp only [Act.put, List.setIfInBounds_toArray, List.set_cons_zero, List.set_cons_succ, i64_w, i32_w]
        rfl
      refine one_ (i := 10) (N := some 26) #[true, true, true, true, true, true, true, true, true, true, true, false, false] rfl rfl (by kernel_rfl) (by decide) (fun K hK => ?_)
      refine value_ (w1 := ?_) (v := ?_) (by rfl) rfl ?_ ?_
      rotate_left 2
      · go_simp
        constructor
        · rfl
        · rfl
      refine hK.out _ _ ⟨(World.cell?_alloc_lt _ _ _ hvd.lt).trans hvd.cell, (World.cell?_alloc_lt _ _ _ (World.block_lt_of_cell? _ _ hrow)).trans hrow⟩ (fun hHeld => ?_)
      clear hK K
      refine norm_ (a' := ?_) ?_ ?_
      rotate_left
      · show Act.put _ (some 26) _ = _
        simp only [Act.put, List.setIfInBounds_toArray, List.set_cons_zero, List.set_cons_succ, i64_w, i32_w]
        rfl
      refine last_ (i := 11) (N := some 27) #[true, true, true, true, true, true, true, true, true, true, true, true, false] rfl rfl (by kernel_rfl) (by decide) (fun K hK => ?_)
      refine Kd.R_append_step (Kd.int .i64) (w0 := w) w.heap.size (by rfl) (.tmp 16) (.tmp 26) 26 3 (.int .i64 0) 8 rfl Try.underlying26 infoL3 rfl (by decide) (by omega) (.slice (some ⟨g, 0, none⟩) N cap) (0 :: startsL 0 (flatV pre)) (wrap64 ((flatV pre).length + l.length)) [.int .i64 (wrap64 ((flatV pre).length + l.length))] (fun k => k ≠ w.heap.size + 1 ∧ k ≠ w.heap.size + 2) (fun _ => False) rfl rfl
        rfl (fun _ hk => hk.elim) (fun k hk => ⟨by omega, by omega⟩) hSd hBd (by omega) (by rw [← HN.out]; omega) ?_
      intro v1 w3 hS3 hB3 hg3 hat3
      have hv3 : Boxed w3 (w.heap.size + 1) 26 (.slice (some ⟨g, 0, none⟩) N cap) := hvd.kept hg3 haw
      refine hK.out _ _ ?_
      clear hK K
      refine norm_ (a' := ?_) ?_ ?_
      rotate_left
      · show Act.put _ (some 27) _ = _
        simp only [Act.put, List.setIfInBounds_toArray, List.set_cons_zero, List.set_cons_succ, i64_w, i32_w]
        rfl
      refine last_ (i := 12) (N := none) #[true, true, true, true, true, true, true, true, true, true, true, true, true] rfl rfl (by kernel_rfl) (by decide) (fun K hK => ?_)
      obtain ⟨A1, c1, rfl⟩ := Kd.R_slice hS3
      have hc3 := hv3.cell
      have hlen3 : ((0 :: startsL 0 (flatV pre)) ++ [wrap64 ((flatV pre).length + l.length)]).length = N + 1 := by rw [List.length_append, HN.out]; rfl
      rw [hlen3] at hS3
      rw [hlen3]
      have haw1 := Kd.R_away hSd (g := w.heap.size + 1 + 1) (fun k hk => hk.2)
      have hs23 := hg3.size
      have hfz := hv3.frozen
      go_simp
      refine hK.out _ _ ?_
      refine done_ (by kernel_rfl) ?_
      refine ⟨rfl, ?_, ?_, ?_⟩
      · refine hf0.trans ?_
        refine ((KeepsOthers.of_grownBy hg3 (fun j o ej hj => ?_)).from _).trans ((KeepsOthers.setCell _ _ _).from _)
        obtain ⟨cells, hcs⟩ := Kd.R_typed hSd j ej
        rw [hcs] at hj
        cases hj
        rfl
      · refine ⟨hk0.1.trans (((Below.refl _ W1).grown hg3 (by omega) (fun k ek => Kd.R_base hSd k ek)).setCell (p := ⟨w.heap.size + 1, 0, none⟩) (by show w.heap.size ≤ w.heap.size + 1; omega) _), ?_, ?_⟩
        · have e1 : (w3.setCell ⟨w.heap.size + 1, 0, none⟩ (.slice A1 (N + 1) c1)).heap.size = w3.heap.size := by simp [World.setCell]
          have := hk0.2.1
          omega
        · refine (Below.heap_setCell _ _ _ _ (by show w.heap.size + 1 + 1 ≠ w.heap.size + 1; omega)).trans ((hg3.block _ (by omega) haw1).trans hk0.2.2)
      · have hwr : wrap64 ((flatV pre).length + l.length) = ((flatV pre).length : Int) + (l.length : Int) := by unfold wrap64; omega
        show HoldT w _ _
        rw [hstep, hsome h10, ← hwr]
        exact ⟨_, hv3.set _, Kd.R_far hS3 (fun k hk => hk.1) _, hB3.setCell (p := ⟨w.heap.size + 1, 0, none⟩) (by show w.heap.size ≤ w.heap.size + 1; omega) _⟩
    · have hb10 : (z == 10) = false := beq_eq_false_iff_ne.2 h10
      gi_wp2
      refine ⟨KeepsFrom.refl _ _, ⟨Below.refl _ _, Nat.le_refl _, rfl⟩, ?_⟩
      show HoldT w _ W
      rw [hstep, hnone h10, List.append_nil]
      exact ⟨v, hv, hS, hB⟩
  case done =>
    rintro D W hD ⟨v, hv, hS, hB⟩ hK
    have hc := hv.cell
    gi_wp2
    refine ⟨by simp, .inl ⟨_, _, rfl, run_takeDeferred hK, ?_⟩⟩
    have hfl : flatV (linesV A0 c0 (splitL l0)) = l0 := by unfold flatV; rw [linesV_snd, splitL_flat]
    rw [hfl] at hS
    refine ⟨_, results_tmp rfl _ _ _, v, rfl, Kd.R_mono (Kd.R_move (Kd.R_bound hS) (fun j hj => ?_)) (fun _ _ => trivial), hB.grown (grownBy_putObj' W D _) hB.size (fun j e => by cases e; omega)⟩
    refine World.putObj_heap_other (fun e => ?_)
    subst e
    obtain ⟨_, _, _, _, _, cells, hcs⟩ := hj
    rw [hK] at hcs
    cases hcs
end Go.Proofs.Ytdekcmaakdpmaaa.Q
