/- line.Split, line.Starts, in the print's form. -/
import Derived.Test.YtdekcmaakdpmaaaXLineA
import Derived.Test.YtdekcmaakdpmaaaWApart
namespace Go.Proofs.Ytdekcmaakdpmaaa.Q
open Go.RowKit Go.Proofs.YtdekcmaakdpmaaaW.PrintWords Go.Proofs.YtdekcmaakdpmaaaW.PrintLast Go.Proofs.YtdekcmaakdpmaaaW.PrintMore
set_option linter.unusedVariables false
set_option linter.unusedSimpArgs false
attribute [local go_sem] Oper.semAt_some

theorem infoL22 : (Try.prog.info? 22).map (fun i => (i.zero, i.size, i.bytes)) = some (some (.slice none 0 0), 1, 24) := by kernel_rfl
/-- what Split holds between two rounds -/
def HoldS (w : World) (ls : List (List Int)) (W : World) : Prop :=
  ∃ v, Boxed W w.heap.size 24 v ∧ Kd.S (Kd.slice 5 (Kd.int .u8)) 22 W w.heap.size (fun k => k ≠ w.heap.size ∧ k ≠ w.heap.size + 1) v ls ∧ Below w.heap.size w W
theorem HoldS.alloc {w : World} {ls : List (List Int)} {W : World} (h : HoldS w ls W) (o : Obj) : HoldS w ls (W.alloc o) := by
  obtain ⟨v, hv, hs, hb⟩ := h
  exact ⟨v, hv.alloc o, Kd.S_alloc hs o, below_alloc hb o⟩
theorem HoldS.put {w : World} {ls : List (List Int)} {W : World} (h : HoldS w ls W) {k : Nat} {o o' : Obj} (hk : w.heap.size + 2 ≤ k) (ho : W.heap[k]? = some o) (hc : o.isCells = false) : HoldS w ls (W.putObj k o') := by
  obtain ⟨v, hv, hs, hb⟩ := h
  refine ⟨v, hv.kept (grownBy_putObj' W k o') (by intro e; injection e with e; omega), ?_, hb.grown (grownBy_putObj' W k o') hb.size (fun j e => by cases e; omega)⟩
  refine Kd.S_mono (Kd.S_move (Kd.S_bound hs) (fun j hj => ?_)) (fun _ hj => hj.1)
  refine World.putObj_heap_other (fun e => ?_)
  subst e
  obtain ⟨_, _, _, _, _, cells, hcs⟩ := hj
  rw [ho] at hcs
  cases hcs
  cases hc
theorem HoldS.set {w : World} {ls : List (List Int)} {W : World} (h : HoldS w ls W) (v : Value) : HoldS w ls (W.setCell ⟨w.heap.size + 1, 0, none⟩ v) := by
  obtain ⟨u, hu, hs, hb⟩ := h
  exact ⟨u, hu.kept (grownBy_setCell' W (w.heap.size + 1) v) (by intro e; injection e with e; omega), Kd.S_far hs (fun k hk => hk.2) v, hb.setCell (p := ⟨w.heap.size + 1, 0, none⟩) (by show w.heap.size ≤ w.heap.size + 1; omega) v⟩

def IS (w : World) (pre : List (Option Addr × Nat × List Int)) (W : World) : Prop := HoldS w (pre.map (fun x => x.2.2)) W
theorem linesV_mem {w : World} : ∀ (m : Nat) (l : List Int) (A : Option Addr) (c : Nat), l.length ≤ m → Kd.C (Kd.int .u8) w A l.length l → l.length ≤ c → ∀ x ∈ linesV A c (splitL l), Kd.C (Kd.int .u8) w x.1 x.2.2.length x.2.2 ∧ x.2.2.length ≤ x.2.1 ∧ x.2.2 ≠ [] ∧ x.2.2.length ≤ l.length
  | m, l, A, c, hm, hC, hc, x, hx => by
    by_cases hne : l = []
    · subst hne; simp [splitL, linesV] at hx
    · have hnp := nl_pos hne
      have hnle := nl_le l
      have hl : (l.take (nl l)).length = nl l := by rw [List.length_take]; omega
      have hl2 : (l.drop (nl l)).length = l.length - nl l := List.length_drop
      rw [splitL_step hne] at hx
      simp only [linesV, hl, List.mem_cons] at hx
      rcases hx with rfl | hx
      · refine ⟨Kd.C_take hC hnle, by show (l.take (nl l)).length ≤ c; omega, ?_, by show (l.take (nl l)).length ≤ _; omega⟩
        intro e
        have := congrArg List.length e
        rw [hl] at this
        simp at this
        omega
      · have hm0 : 0 < m := by have := List.length_pos_iff.2 hne; omega
        have h2 := linesV_mem (m - 1) (l.drop (nl l)) _ _ (by omega) (Kd.C_drop hC hnle hc) (by omega) x hx
        exact ⟨h2.1, h2.2.1, h2.2.2.1, by omega⟩
  termination_by m => m
theorem linesV_len (A : Option Addr) (c : Nat) (ls : List (List Int)) : (linesV A c ls).length = ls.length := by
  have := congrArg List.length (linesV_snd A c ls)
  simpa using this
theorem KpL_put {w : World} {H bx : Nat} (hH : H ≤ w.heap.size) (hb : bx < w.heap.size) (W : World) (k : Nat) (o' : Obj) (h1 : w.heap.size ≤ k) (h2 : k < W.heap.size) : KpL H bx W (W.putObj k o') :=
  ⟨(Below.refl H W).grown (grownBy_putObj' W k o') (by omega) (fun j e => by cases e; omega), by simp, World.putObj_heap_other (by omega)⟩
theorem KpL_alloc {w : World} {H bx : Nat} (hH : H ≤ w.heap.size) (hb : bx < w.heap.size) (W : World) (o : Obj) (h1 : w.heap.size ≤ W.heap.size) : KpL H bx W (W.alloc o) :=
  ⟨(Below.refl H W).alloc (by omega) o, by simp, Below.heap_alloc W o bx (by omega)⟩

set_option maxHeartbeats 8000000 in
set_option maxRecDepth 100000 in
theorem line_Split.calls (A0 : Option Addr) (c0 : Nat) (l0 : List Int) (r : List (List Int)) (w : World) (hr0 : Kd.C (Kd.int .u8) w A0 l0.length l0) (hc0 : l0.length ≤ c0) (h : line_Split.f l0 = some r) :
    Calls Try.prog 9 #[.slice A0 l0.length c0] w fun e w' => ∃ v0_ : Value, e = .returned (v0_) ∧ Kd.S (Kd.slice 5 (Kd.int .u8)) 22 w' w.heap.size (fun _ => True) v0_ r ∧ Below w.heap.size w w' := by
  unfold line_Split.f at h
  split at h
  case isFalse => cases h
  case isTrue hbs =>
  obtain rfl := Option.some.inj h
  simp only [Bool.and_eq_true, decide_eq_true_eq] at hbs
  obtain ⟨hb, hsz⟩ := hbs
  have HR := Aside0.mk hr0
  clear hr0 h
  refine (callsIn_wide (n := 2)).1 ?_
  refine callsIn_of_wp_marks Try.func9 rfl trivial ?_ rfl
  simp only [Try.ntmps9, List.size_toArray, List.length_cons, List.length_nil, Nat.reduceAdd, Nat.reduceSub, Array.replicate_succ, Array.replicate_zero, List.push_toArray, List.append_toArray, List.nil_append, List.cons_append]
  gi_wp2_with (refine ⟨trivial, ?_⟩; gi_at_call 18; refine (callsIn_wide.2 (lines_calls A0 l0.length c0 _)).mono ?_; rintro e w' ⟨rfl, rfl⟩)
  have bO := Boxed.new w 24 (.slice none 0 0)
  have bN := Boxed.new (w.alloc (.cells #[.slice none 0 0] 24)) 22 (.slice A0 l0.length c0)
  rw [World.size_alloc] at bN
  have hB0 : Below w.heap.size w ((w.alloc (.cells #[.slice none 0 0] 24)).alloc (.cells #[.slice A0 l0.length c0] 22)) := ((Below.refl _ w).alloc (Nat.le_refl _) _).alloc (by simp) _
  have hsize : ((w.alloc (.cells #[.slice none 0 0] 24)).alloc (.cells #[.slice A0 l0.length c0] 22)).heap.size = w.heap.size + 2 := by simp
  have hmem := linesV_mem l0.length l0 A0 c0 (Nat.le_refl _) HR.out hc0
  have hlen : (linesV A0 c0 (splitL l0)).length ≤ 1000000 := by rw [linesV_len]; exact Nat.le_trans (splitL_len l0) hsz
  have h00 : HoldS w [] ((w.alloc (.cells #[.slice none 0 0] 24)).alloc (.cells #[.slice A0 l0.length c0] 22)) := ⟨_, bO.alloc _, Kd.S_nil _ _ _ _ _, hB0⟩
  generalize ((w.alloc (.cells #[.slice none 0 0] 24)).alloc (.cells #[.slice A0 l0.length c0] 22)) = W0 at *
  refine wpIn_rangeBox (gf := 23) (lb := #[.pointer (some ⟨w.heap.size + 1, 0, none⟩)]) rfl (Go.Proofs.enters_of Try.func23 (by kernel_rfl) rfl)
    (fun x : Option Addr × Nat × List Int => #[Value.slice x.1 x.2.2.length x.2.1]) (fun _ => rfl) (w.heap.size + 1) (by omega)
    (KpL w.heap.size (w.heap.size + 1)) KpL_t (KpL_put (by omega) (by omega)) (KpL_alloc (by omega) (by omega)) ⟨Below.refl _ _, Nat.le_refl _, rfl⟩
    (linesV A0 c0 (splitL l0)) (IS w) (fun _ _ o h => HoldS.alloc h o) (fun _ _ k o o' h hk ho hc => HoldS.put h (by omega) ho hc) (fun _ _ v h => HoldS.set h v) h00 ?seq
    (fun x => { tmps := #[.slice A0 l0.length c0, undef, .slice none 0 0, .pointer (some ⟨w.heap.size, 0, none⟩), .slice x.1 x.2.2.length x.2.1, .slice A0 l0.length c0, .func (.func 23) #[] #[.pointer (some ⟨w.heap.size + 1, 0, none⟩)], .slice x.1 x.2.2.length x.2.1, undef, undef, undef, undef, undef, undef], defers := [] }) ?assign ?body ?done
  case seq =>
    intro k J W hkp hJb hY h0
    exact lines1 (n := 2) w k (w.heap.size + 1) A0 c0 l0 HR.out hc0 hb hsz (by omega) W (hB0.trans hkp.1) (hkp.2.2.trans bN) J hJb hY h0
  case assign =>
    intro l x W K hK
    gi_wp2
    exact hK
  case body =>
    rintro k pre ⟨A, c, l⟩ W hI hpre hWs
    obtain ⟨hCl, hcl, hnel, hll⟩ := hmem _ (hpre.subset (List.mem_append_right _ (List.mem_singleton.2 rfl)))
    dsimp only at hCl hcl hnel hll
    have hplen := hpre.length_le
    rw [List.length_append, List.length_singleton] at hplen
    obtain ⟨v, hv, hS, hB⟩ := hI
    gi_wp2
    have hHv := hv.cell
    have hSd := Kd.S_drew hS
    have hBd : Below w.heap.size w W.drew := below_drew1 hB
    have hvd : Boxed W.drew w.heap.size 24 v := hv
    have hk0 : KpL w.heap.size (w.heap.size + 1) W W.drew := ⟨⟨rfl, rfl, rfl, Nat.le_refl _, fun _ _ => rfl⟩, Nat.le_refl _, rfl⟩
    have hf0 : KeepsFrom W0.heap.size W W.drew := (KeepsOthers.drew W).from _
    have hsz0 : W0.heap.size + 1 < W.drew.heap.size := hWs
    refine startIn_ (k := 6) (S := fun w' => w'.cell? ⟨w.heap.size, 0, none⟩ = some v) (ds := [5]) #[false, false, false, false, false, false] (by kernel_rfl) (by kernel_rfl) (by rintro ⟨_, _, h⟩; exact nomatch (show _ ∧ _ from h).1) rfl rfl hHv (fun hHeld => ?_)
    generalize W.drew = W1 at hSd hBd hvd hk0 hf0 hsz0 hHeld ⊢
    refine pure_ (i := 1) (N := some 9) (v := ?_) (a' := ?_) #[false, true, false, false, false, false] rfl rfl (by kernel_rfl) (fun _ _ _ h => h) (Or.inl ⟨by rfl, ?_⟩) ?_ ?_
    rotate_left
    · intro w'
      go_simp
      with_reducible rfl
    rotate_left
    · simp only [Act.put, List.setIfInBounds_toArray, List.set_cons_zero, List.set_cons_succ, i64_w, i32_w]
      rfl
    refine take_ (i := 0) (N := some 8) (v := ?_) (a' := ?_) #[true, true, false, false, false, false] rfl rfl (by kernel_rfl) (fun _ _ _ h => h) (Or.inl ⟨by rfl, ?_⟩) hHeld ?_ ?_
    rotate_left
    · intro w' s0
      go_simp
      with_reducible rfl
    rotate_left
    · simp only [Act.put, List.setIfInBounds_toArray, List.set_cons_zero, List.set_cons_succ, i64_w, i32_w]
      rfl
    refine one_ (i := 2) (N := some 10) #[true, true, true, false, false, false] rfl rfl (by kernel_rfl) (by decide) (fun K hK => ?_)
    refine goes_ Try.func19 (by kernel_rfl) rfl #[.slice A l.length c] (by rfl) rfl rfl (by (try simp only [List.map_toArray, List.map_cons, List.map_nil]); first | done | rfl) ?_
    refine (clone_calls A c l _ (Kd.C_below hCl hBd) hnel (by omega)).mono ?_
    rintro e W2 ⟨vl, rfl, hRl, hb2⟩
    refine ⟨_, rfl, ?_⟩
    have hv2 : Boxed W2 w.heap.size 24 v := (hb2.block _ hvd.lt).trans hvd
    have hS2 := Kd.S_below hSd hb2
    have hB2 : Below w.heap.size w W2 := hBd.trans (hb2.mono (by omega))
    have hs12 := hb2.size
    refine hK.out _ _ hv2.cell (fun hHeld => ?_)
    clear hK K
    refine norm_ (a' := ?_) ?_ ?_
    rotate_left
    · show Act.put _ (some 10) _ = _
      simp only [Act.put, List.setIfInBounds_toArray, List.set_cons_zero, List.set_cons_succ, i64_w, i32_w]
      rfl
    refine one_ (i := 3) (N := some 11) #[true, true, true, true, false, false] rfl rfl (by kernel_rfl) (by decide) (fun K hK => ?_)
    obtain ⟨Al, cl, rfl⟩ := Kd.R_slice hRl
    refine value_ (w1 := ?_) (v := ?_) (by rfl) rfl ?_ ?_
    rotate_left 2
    · go_simp
      constructor
      · rfl
      · rfl
    refine hK.out _ _ ((World.cell?_alloc_lt _ _ _ hv2.lt).trans hv2.cell) (fun hHeld => ?_)
    clear hK K
    refine norm_ (a' := ?_) ?_ ?_
    rotate_left
    · show Act.put _ (some 11) _ = _
      simp only [Act.put, List.setIfInBounds_toArray, List.set_cons_zero, List.set_cons_succ, i64_w, i32_w]
      rfl
    have hH1 : w.heap.size ≤ W1.heap.size := by omega
    have hlt1 := Kd.S_lt hSd
    have haw := Kd.S_away hSd (g := w.heap.size) (fun k hk => hk.1)
    refine one_ (i := 4) (N := some 12) #[true, true, true, true, true, false] rfl rfl (by kernel_rfl) (by decide) (fun K hK => ?_)
    refine Kd.S_append_step (Kd.slice 5 (Kd.int .u8)) (w0 := w) w.heap.size (by rfl) (.tmp 8) (.tmp 11) 24 22 (.slice none 0 0) 24 rfl Try.underlying24 infoL22 rfl (by decide) (by omega) v (pre.map (fun x => x.2.2)) l [.slice Al l.length cl] (fun k => k ≠ w.heap.size ∧ k ≠ w.heap.size + 1) (fun k => W1.heap.size ≤ k) rfl rfl
      ⟨_, rfl, Kd.R_lower (Kd.R_mono (Kd.R_bound hRl) (fun k hk => hk.2.1)) hH1⟩ (fun k hk => ⟨⟨by omega, by omega⟩, fun e => by have := hlt1 k e.symm; omega⟩) (fun k hk => ⟨by omega, by omega⟩)
      (Kd.S_below (Kd.S_mono (Kd.S_bound hSd) (fun k hk => ⟨hk.1, by have := hk.2.2.1; omega⟩)) hb2) hB2 (by omega) (by rw [List.length_map]; omega) ?_
    intro v1 w3 hS3 hB3 hg3 hat3
    have hv3 : Boxed w3 w.heap.size 24 v := hv2.kept hg3 haw
    refine hK.out _ _ hv3.cell (fun hHeld => ?_)
    clear hK K
    refine norm_ (a' := ?_) ?_ ?_
    rotate_left
    · show Act.put _ (some 12) _ = _
      simp only [Act.put, List.setIfInBounds_toArray, List.set_cons_zero, List.set_cons_succ, i64_w, i32_w]
      rfl
    obtain ⟨A1, c1, rfl⟩ := Kd.S_slice hS3
    have hlen3 : (pre.map (fun x => x.2.2) ++ [l]).length = pre.length + 1 := by simp
    rw [hlen3] at hS3
    rw [hlen3]
    have hfz := hv3.frozen
    have haw1 := Kd.S_away hSd (g := w.heap.size + 1) (fun k hk => hk.2)
    have hs23 := hg3.size
    refine last_ (i := 5) (N := none) #[true, true, true, true, true, true] rfl rfl (by kernel_rfl) (by decide) (fun K hK => ?_)
    go_simp
    refine hK.out _ _ ?_
    refine done_ (by kernel_rfl) ?_
    refine ⟨rfl, ?_, ?_, ?_⟩
    · refine hf0.trans (KeepsFrom.trans ⟨hs12, fun k o _ hk _ => (hb2.block k (Array.getElem?_eq_some_iff.1 hk).1).trans hk⟩ ?_)
      refine ((KeepsOthers.of_grownBy hg3 (fun j o ej hj => ?_)).from _).trans ((KeepsOthers.setCell _ _ _).from _)
      obtain ⟨cells, hcs⟩ := Kd.S_typed hS2 j ej
      rw [hcs] at hj
      cases hj
      rfl
    · refine ⟨(hk0.1.trans (hb2.mono hH1)).trans (((Below.refl _ W2).grown hg3 (by omega) (fun k ek => Kd.S_base hS2 k ek)).setCell (p := ⟨w.heap.size, 0, none⟩) (Nat.le_refl _) _), ?_, ?_⟩
      · have e1 : (w3.setCell ⟨w.heap.size, 0, none⟩ (.slice A1 (pre.length + 1) c1)).heap.size = w3.heap.size := by simp [World.setCell]
        have := hk0.2.1
        omega
      · refine (Below.heap_setCell _ _ _ _ (by show w.heap.size + 1 ≠ w.heap.size; omega)).trans ((hg3.block _ (by omega) haw1).trans ((hb2.block _ (by omega)).trans hk0.2.2))
    · show HoldS w ((pre ++ [(A, c, l)]).map (fun x => x.2.2)) _
      rw [List.map_append]
      exact ⟨_, hv3.set _, Kd.S_far hS3 (fun k hk => hk.1) _, hB3.setCell (p := ⟨w.heap.size, 0, none⟩) (Nat.le_refl _) _⟩
  case done =>
    rintro D W hD ⟨v, hv, hS, hB⟩ hK
    have hc := hv.cell
    gi_wp2
    refine ⟨by simp, .inl ⟨_, _, rfl, run_takeDeferred hK, ?_⟩⟩
    rw [linesV_snd] at hS
    refine ⟨_, results_tmp rfl _ _ _, v, rfl, Kd.S_mono (Kd.S_move (Kd.S_bound hS) (fun j hj => ?_)) (fun _ _ => trivial), hB.grown (grownBy_putObj' W D _) hB.size (fun j e => by cases e; omega)⟩
    refine World.putObj_heap_other (fun e => ?_)
    subst e
    obtain ⟨_, _, _, _, _, cells, hcs⟩ := hj
    rw [hK] at hcs
    cases hcs
end Go.Proofs.Ytdekcmaakdpmaaa.Q
