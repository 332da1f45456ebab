/- Append to a slice of a box. -/
import Derived.Test.YtgahmpfpnclefaaA9
namespace Go.Proofs.YtgahmpfpnclefaaW.Abs
open Go.RowKit
set_option linter.unusedVariables false
set_option linter.unusedSimpArgs false

section
variable {W0 : World} {E : Env} {U : Nat → Prop} {h : Nat → Option AObj} {w : World}

/-- what was t's is id's -/
def renM (t id : Nat) : Option MK → Option MK
  | some (.own k) => some (.own (if k = t then id else k))
  | x => x
theorem renM_imm {t id : Nat} {x : Option MK} {v : Value} : renM t id x = some (.imm v) ↔ x = some (.imm v) := by
  cases x with
  | none => simp [renM]
  | some k => cases k <;> simp [renM]
theorem renM_own {t id k : Nat} {x : Option MK} (h : renM t id x = some (.own k)) : (x = some (.own t) ∧ k = id) ∨ (x = some (.own k) ∧ k ≠ t) := by
  cases x with
  | none => simp [renM] at h
  | some m => cases m with
    | imm v => simp [renM] at h
    | own j =>
      simp only [renM, Option.some.injEq, MK.own.injEq] at h
      by_cases e : j = t
      · rw [if_pos e] at h; subst e; exact .inl ⟨rfl, h.symm⟩
      · rw [if_neg e] at h; subst h; exact .inr ⟨rfl, e⟩
theorem renM_some {t id : Nat} {x : Option MK} {k : MK} (h : renM t id x = some k) : ∃ k', x = some k' := by
  cases x with
  | none => simp [renM] at h
  | some m => exact ⟨m, rfl⟩

/-- in place: the box is known by another number from now on -/
theorem Rel.growRoom (r : Rel W0 E U h w) {id t n : Nat} {ty : TypeId} (hid : ¬ U id) {es ns : List (List AV)} {b : Base} {vs : List Value}
    (ht : h t = some (.box ty es)) (hι : E.ι t = some b) (hn : n ≤ es.length) (hln : ∀ e, e ∈ ns → e.length = b.s) (hon : ones ns)
    (hr : Reps E (flat ns) vs) (hroom : n + ns.length ≤ b.cap) :
    (∀ j, j < vs.length → (w.cell? ⟨b.blk, b.off + n * b.s + j, none⟩).isSome = true) ∧ (∀ j, j < vs.length → w.frozen? ⟨b.blk, b.off + n * b.s + j, none⟩ = false) ∧
    ∃ E', Ext E E' ∧ (∀ i c, E'.ι i = some c → E.ι i = some c ∨ i = id) ∧ E'.ι id = some b ∧
      Rel W0 E' (fun i => U i ∨ i = id) (upd (upd h t none) id (some (.box ty (es.take n ++ ns)))) (w.setCells b.blk (b.off + n * b.s) vs) := by
  obtain ⟨b', hb', ⟨c0, fz, h0, hof⟩, h1, h2, ho, h3, f, h4⟩ := r.objs t _ ht
  rw [hι] at hb'; cases hb'
  have htid : t ≠ id := fun e => hid (e ▸ r.ids t b hι)
  have hvl : vs.length = ns.length * b.s := by rw [← hr.1, flat_len ns hln]
  have hin : ∀ j, j < vs.length → n * b.s + j < b.cap * b.s := by
    intro j hj
    have h3 : (n + ns.length) * b.s ≤ b.cap * b.s := Nat.mul_le_mul_right _ hroom
    rw [Nat.add_mul] at h3
    omega
  have hown : ∀ j, j < vs.length → E.M b.blk (b.off + n * b.s + j) = some (.own t) ∧ (w.cell? ⟨b.blk, b.off + n * b.s + j, none⟩).isSome = true ∧ w.frozen? ⟨b.blk, b.off + n * b.s + j, none⟩ = false := by
    intro j hj
    have := h3 _ (hin j hj)
    rwa [show b.off + (n * b.s + j) = b.off + n * b.s + j by omega] at this
  refine ⟨fun j hj => (hown j hj).2.1, fun j hj => (hown j hj).2.2, ?_⟩
  let M' : Nat → Nat → Option MK := fun q o => renM t id (E.M q o)
  let E' : Env := ⟨fun i => if i = id then some b else E.ι i, M'⟩
  have hx : Ext E E' := by
    refine ⟨fun i c e => ?_, fun q o v e => ?_⟩
    · have : i ≠ id := fun q => hid (q ▸ r.ids i c e)
      simp [E', this, e]
    · exact renM_imm.2 e
  have hout : ∀ b' o' , (∀ j, j < vs.length → ¬ (b' = b.blk ∧ o' = b.off + n * b.s + j)) → (w.setCells b.blk (b.off + n * b.s) vs).cell? ⟨b', o', none⟩ = w.cell? ⟨b', o', none⟩ := by
    intro b' o' hn
    refine World.cell?_setCells_out _ _ _ _ _ (fun hb1 _ => ?_)
    simp only at hb1 ⊢
    rcases Nat.lt_or_ge o' (b.off + n * b.s) with hh | hh
    · exact Or.inl hh
    · rcases Nat.lt_or_ge o' (b.off + n * b.s + vs.length) with hh2 | hh2
      · exact absurd ⟨hb1, by omega⟩ (hn (o' - (b.off + n * b.s)) (by omega))
      · exact Or.inr hh2
  have hne : ∀ q o k, E.M q o = some k → k ≠ .own t → ∀ j, j < vs.length → ¬ (q = b.blk ∧ o = b.off + n * b.s + j) := by
    rintro q o k hk hne j hj ⟨rfl, rfl⟩
    rw [(hown j hj).1] at hk
    cases hk; exact hne rfl
  refine ⟨E', hx, fun i c e => ?_, by simp [E'], ?_, ?_, ?_, ?_, ?_, ?_, ?_⟩
  · by_cases q : i = id
    · exact Or.inr q
    · simp [E', q] at e; exact Or.inl e
  · by_cases hz : vs.length = 0
    · have : vs = [] := by simpa using hz
      subst this; exact r.below
    · exact setCells_below _ (r.own _ _ _ (hown 0 (by omega)).1) _ _ _ r.below
  · intro q o v e
    have e' : E.M q o = some (.imm v) := renM_imm.1 e
    rw [hout _ _ (hne _ _ _ e' (by intro q; cases q))]
    exact r.imm _ _ _ e'
  · intro q o k e
    rw [setCells_size]
    obtain ⟨k', e'⟩ := renM_some e
    exact r.lt _ _ _ e'
  · intro q o k e
    rcases renM_own e with ⟨e', _⟩ | ⟨e', _⟩ <;> exact r.own _ _ _ e'
  · intro i c e
    by_cases q : i = id
    · exact Or.inr q
    · simp [E', q] at e; exact Or.inl (r.ids i c e)
  · intro k y hy
    by_cases q : k = id
    · subst q
      simp [upd] at hy; subst hy
      obtain ⟨c1, hc1⟩ := setCells_shape b.blk vs (b.off + n * b.s) w h0
      refine ⟨b, by simp [E'], ⟨c1, fz, hc1, hof⟩, by simp; omega, fun e he => ?_, fun e he => ?_, fun j hj => ?_, fun i j => ((w.setCells b.blk (b.off + n * b.s) vs).cell? ⟨b.blk, b.off + i * b.s + j, none⟩).getD undef, fun i j e a hi hj => ?_⟩
      · rcases List.mem_append.1 he with he | he
        · exact h2 e (List.mem_of_mem_take he)
        · exact hln e he
      · rcases List.mem_append.1 he with he | he
        · exact ho e (List.mem_of_mem_take he)
        · exact hon e he
      · obtain ⟨a1, a2, a3⟩ := h3 j hj
        refine ⟨by show renM t k (E.M _ _) = _; rw [a1]; simp [renM], ?_, by rw [World.frozen?_setCells]; exact a3⟩
        by_cases hj2 : n * b.s ≤ j ∧ j < n * b.s + vs.length
        · rw [show b.off + j = b.off + n * b.s + (j - n * b.s) by omega, World.cell?_setCells_in _ _ _ _ (fun j hj => (hown j hj).2.1) _ (by omega)]
          simp
        · rw [hout _ _ (fun j' hj' hh => by omega)]; exact a2
      · have hj' := (List.getElem?_eq_some_iff.1 hj).1
        rcases Nat.lt_or_ge i (es.take n).length with hlt | hge
        · rw [List.getElem?_append_left hlt] at hi
          simp at hlt
          have hi2 : es[i]? = some e := by rw [List.getElem?_take, if_pos (by omega)] at hi; exact hi
          obtain ⟨q1, q2⟩ := h4 i j e a hi2 hj
          have hel := h2 e (List.mem_of_getElem? hi2)
          have hlt2 : (i + 1) * b.s ≤ n * b.s := Nat.mul_le_mul_right _ (by omega)
          rw [Nat.add_mul] at hlt2
          have hc : (w.setCells b.blk (b.off + n * b.s) vs).cell? ⟨b.blk, b.off + i * b.s + j, none⟩ = some (f i j) := by
            rw [hout _ _ (fun j' hj' hh => by omega)]; exact q1
          refine ⟨by dsimp only; rw [hc]; rfl, ?_⟩
          dsimp only; rw [hc]; exact q2.mono hx
        · rw [List.getElem?_append_right hge] at hi
          have htl : (es.take n).length = n := by simp; omega
          rw [htl] at hi hge
          have hfg := flat_get ns hln (i - n) j e a hi hj
          obtain ⟨v, hv, hrep⟩ := hr.get hfg
          have hlt := (List.getElem?_eq_some_iff.1 hv).1
          have e1 : b.off + i * b.s + j = b.off + n * b.s + ((i - n) * b.s + j) := by
            have : i * b.s = n * b.s + (i - n) * b.s := by rw [← Nat.add_mul]; congr 1; omega
            omega
          have hc : (w.setCells b.blk (b.off + n * b.s) vs).cell? ⟨b.blk, b.off + i * b.s + j, none⟩ = some v := by
            rw [e1, World.cell?_setCells_in _ _ _ _ (fun j hj => (hown j hj).2.1) _ hlt]
            rw [← hv]; exact (List.getElem?_eq_getElem hlt).symm
          refine ⟨by dsimp only; rw [hc]; rfl, ?_⟩
          dsimp only; rw [hc]; exact hrep.mono hx
    · have hk : k ≠ t := fun e => by subst e; simp [upd, q] at hy
      have hy' : h k = some y := by simpa [upd, q, hk] using hy
      obtain ⟨c, hc, hob⟩ := r.objs k y hy'
      refine ⟨c, by simp [E', q, hc], hob.keepOne hx (fun q o e => ?_) (fun c t fz hh => setCells_shape _ _ _ _ hh) (fun hun hl o k' e => ?_)⟩
      · have hkt : MK.own k ≠ MK.own t := fun e => hk (by injection e)
        have hne' := hne q o _ e hkt
        refine ⟨?_, hout _ _ hne', World.frozen?_setCells _ _ _ _ _, fun _ es c hm => setCells_map _ _ _ _ hm⟩
        show renM t id (E.M _ _) = _
        rw [e]; simp [renM, hk]
      · rcases renM_own e with ⟨e', _⟩ | ⟨e', _⟩
        · exact absurd (hun _ _ e').symm hk
        · exact e'
  · intro i c e
    by_cases q : i = id
    · subst q; simp [E'] at e; subst e; exact r.low _ _ hι
    · simp [E', q] at e; exact r.low _ _ e
end

section
variable {t : TypeId} {P : Program} {W0 : World} {o : Oper} {a : Act} {E : Env} {U : Nat → Prop} {id : Nat} {h : Hp} {w : World} {ts : List AV}

theorem grow_res {ty e ty2 : TypeId} {d2 : TypeDesc} {ei : TI} {x y : Operand} {x' y' : Arg} {c : Call} (r : Rel W0 E U h w) (hid : ¬ U id) (ht : Reps E ts a.tmps.toList) (hx : compA x = some x') (hy : compA y = some y') (ho : o.op = .call c) (hc : c.callee = .builtin .append) (hca : c.args = #[x, y]) (hct : c.argTypes = #[ty, ty2])
    (hd : P.underlying ty = some (.slice e)) (hd2 : P.underlying ty2 = some d2) (hi2 : ∀ k, d2 ≠ .int k) (hei : TIok P e ei) (hzl : ei.zero.cells.length = ei.size)
    (hok : SO.ok id ts h (.grow e ei.size ei.bytes x' y')) : Res P W0 o a E U id w (SO.val id ts h (.grow e ei.size ei.bytes x' y')) (SO.heap id ts h (.grow e ei.size ei.bytes x' y')) := by
  have rx := compA_rep ht hx
  have ry := compA_rep ht hy
  obtain ⟨es, ns, hX, hns, hls, hby, h62⟩ := hok
  obtain ⟨j, z, hj, hsz, hjb, hz, hzr⟩ := hei.info
  obtain ⟨hon, news, hsrc, hrn, h1n⟩ := src_of (P := P) r ry hns hls
  have hzc : z.cells.size = ei.size := by have := (Reps.cells (hzr E)).1; simp at this; omega
  have hsrc' : Src P j.size ns.length (a.eval y) news w := by rw [hsz]; exact hsrc
  have hexec : ∀ v w', (Builtin.append_ #[ty, ty2] o.type #[a.eval x, a.eval y]).run P w = .ok v w' → (execOp a.eval o).run P w = .ok (.value v) w' := by
    intro v w' hh
    unfold execOp; rw [ho]
    simp [resolve, hc, hca, hct, invoke, builtin, hh]
  simp only [SO.val, SO.heap, hns, Option.getD_some]
  rcases hX with ⟨hX, rfl⟩ | ⟨tk, n, ty', es0, hX, hbk, hn, rfl, hl0, hne0, rfl⟩ | ⟨tk, hX, hbk, rfl, hne0⟩
  · -- onto nil
    rw [hX] at rx ⊢
    have hvx : a.eval x = .slice none 0 0 := by generalize a.eval x = V at rx; cases rx; rfl
    cases ns with
    | nil =>
      refine .pure r (hexec _ w ?_) .nils
      have hnews : news = [] := by have := hsrc.size; simp at this; exact List.eq_nil_of_length_eq_zero (by simpa using this)
      rw [hvx]
      exact run_app_none ty ty2 _ e j d2 hd hd2 hi2 hj (a.eval y) (by rw [hnews] at hsrc'; exact hsrc')
    | cons n0 nr =>
      generalize hNS : n0 :: nr = ns at *
      have hpos : 0 < ns.length := by rw [← hNS]; simp
      have hrun := run_app_grow (P := P) (w := w) ty ty2 o.type e j z d2 hd hd2 hi2 hj hz none 0 0 [] (by simp) (fun w' _ => by simp [Builtin.firstCells]) (a.eval y) ns.length news hsrc' (by omega) (by simp at h62; omega)
        (growslice_fits (by omega) (by rw [hjb]; simpa using hby))
      have hcap := grownCap_ge w (0 + ns.length) 0 e
      obtain ⟨E', a1, a0, a2, a4⟩ := (r.drew).newBox hid (#[] ++ news.toArray ++ Builtin.zeroCells z.cells (grownCap w (0 + ns.length) 0 e - (0 + ns.length))) e ei.size (grownCap w (0 + ns.length) 0 e) ns
        (by simp [size_zeroCells, hzc, hsrc.size]
            rw [← Nat.add_mul]; exact Nat.mul_le_mul_right _ (by omega)) (by omega) hls hon (fun i q e' x' hi hq => by
          obtain ⟨v, hv, hr'⟩ := hrn.get (flat_get ns hls i q e' x' hi hq)
          have hlt := (List.getElem?_eq_some_iff.1 hv).1
          refine ⟨v, ?_, hr'⟩
          rw [Array.getElem?_append_left (by simpa using hlt)]
          simpa using hv)
      refine ⟨_, _, _, E', hexec _ _ (by rw [hvx]; exact hrun), .inl rfl, a1, a2, ?_, ?_⟩
      · subst hNS; simpa using a4
      · subst hNS
        have := Rep.sl (E := E') (id := id) (start := 0) (len := (n0 :: nr).length) (a := ⟨w.heap.size, 0, none⟩) a0 (by simp at hcap ⊢; omega) (fun _ => by simp)
        simpa using this
  · rw [hX] at rx ⊢
    dsimp only
    rw [hbk]
    dsimp only
    have hrow := rx
    generalize hvx : a.eval x = V at rx hrow
    cases rx with
    | @sl _ _ _ b A hb hc' hA =>
      have hob := r.objs tk _ hbk
      obtain ⟨b', hb', ⟨c0, fz, h0, hof⟩, g1, g2, g3, g4, f, g5⟩ := hob
      rw [hb] at hb'; cases hb'
      have hbs : b.s = ei.size := by
        cases es0 with
        | nil => exact absurd rfl hne0
        | cons e0 er => rw [← g2 e0 (by simp), hl0 e0 (by simp)]
      have htl : (es0.take n).length = n := by simp; omega
      rw [htl] at hby h62
      simp only [Nat.zero_add, Nat.sub_zero] at hc' hA hrow ⊢
      by_cases hroom : n + ns.length ≤ b.cap
      · obtain ⟨q1, q2, E', a1, a2, a0, a4⟩ := r.growRoom hid hbk hb hn (by rw [hbs]; exact hls) hon hrn hroom
        by_cases hcap0 : 0 < b.cap
        · have hA1 := hA hcap0
          simp only [Nat.zero_mul, Nat.add_zero] at hA1
          subst hA1
          have hrun := run_app_room (P := P) (w := w) ty ty2 o.type ty' j d2 hd hd2 hi2 hj b.blk b.off n b.cap (a.eval y) ns.length news hsrc' h1n hroom (by rw [hsz, ← hbs]; exact q1) (by rw [hsz, ← hbs]; exact q2)
          rw [hsz, ← hbs] at hrun
          refine ⟨_, _, _, E', hexec _ _ (by rw [hvx]; exact hrun), .inl rfl, a1, a2, a4, ?_⟩
          have := Rep.sl (E := E') (id := id) (start := 0) (len := n + ns.length) (a := ⟨b.blk, b.off, none⟩) a0 (by omega) (fun _ => by simp)
          simpa using this
        · exfalso
          cases es0 with
          | nil => exact hne0 rfl
          | cons e0 er => simp at g1; omega
      · have hin : elems h (.sl tk 0 n) = some (es0.take n) := by
          simp only [elems, hbk]
          simp [hn]
        obtain ⟨base, cap', olds, hv0, hro, hlo, h1o, hget⟩ := cells_list r hrow hin (s := ei.size) (fun e he => hl0 e (List.mem_of_mem_take he))
        rw [htl] at hv0 hlo hget
        cases hv0
        have hrun := run_app_grow (P := P) (w := w) ty ty2 o.type ty' j z d2 hd hd2 hi2 hj hz (some A) n b.cap olds (by rw [hsz]; exact hlo) (fun w' hw => by rw [hsz]; exact (hget P w' hw).1) (a.eval y) ns.length news hsrc' (by omega) (by omega)
          (growslice_fits (by omega) (by rw [hjb]; exact hby))
        have hcap := grownCap_ge w (n + ns.length) b.cap ty'
        have rd : Rel W0 E U (upd h tk none) w := r.drop fun i x e => by
          by_cases q : i = tk
          · simp [upd, q] at e
          · simpa [upd, q] using e
        have hlen : (es0.take n ++ ns).length = n + ns.length := by rw [List.length_append, htl]
        have hla : ∀ e, e ∈ es0.take n ++ ns → e.length = ei.size := fun e he => by
          rcases List.mem_append.1 he with he | he
          · exact hl0 e (List.mem_of_mem_take he)
          · exact hls e he
        have hfa : flat (es0.take n ++ ns) = flat (es0.take n) ++ flat ns := by simp [flat]
        obtain ⟨E', a1, a0, a2, a4⟩ := (rd.drew).newBox hid (olds.toArray ++ news.toArray ++ Builtin.zeroCells z.cells (grownCap w (n + ns.length) b.cap ty' - (n + ns.length))) ty' ei.size (grownCap w (n + ns.length) b.cap ty') (es0.take n ++ ns)
          (by simp [size_zeroCells, hzc, hsrc.size, hlo]
              rw [← Nat.add_mul, ← Nat.add_mul]; exact Nat.mul_le_mul_right _ (by omega)) (by omega) hla
          (fun e he => by rcases List.mem_append.1 he with he | he; (· exact g3 e (List.mem_of_mem_take he)); exact hon e he)
          (fun i q e' x' hi hq => by
            have hg := flat_get (es0.take n ++ ns) hla i q e' x' hi hq
            rw [hfa] at hg
            obtain ⟨v, hv, hr'⟩ := (hro.append hrn).get hg
            have hlt := (List.getElem?_eq_some_iff.1 hv).1
            refine ⟨v, ?_, hr'⟩
            rw [Array.getElem?_append_left (by simpa using hlt)]
            simpa using hv)
        refine ⟨_, _, _, E', hexec _ _ (by rw [hvx]; exact hrun), .inl rfl, a1, a2, a4, ?_⟩
        have := Rep.sl (E := E') (id := id) (start := 0) (len := n + ns.length) (a := ⟨w.heap.size, 0, none⟩) a0 (by dsimp only; omega) (fun _ => by simp)
        simpa using this
  · -- onto an empty literal
    rw [hX] at rx ⊢
    dsimp only
    rw [hbk]
    dsimp only
    have hpos : 0 < ns.length := by
      cases ns with
      | nil => exact absurd hns hne0
      | cons _ _ => simp
    generalize hvx : a.eval x = V at rx
    cases rx with
    | @sl _ _ _ b A hb hc' hA =>
      obtain ⟨b', hb', hcap0⟩ := r.objs tk _ hbk
      rw [hb] at hb'; cases hb'
      have hcap0 : b.cap = 0 := hcap0
      have hrun := run_app_grow (P := P) (w := w) ty ty2 o.type e j z d2 hd hd2 hi2 hj hz (some A) 0 0 [] (by simp) (fun w' _ => by simpa [Builtin.firstCells] using run_loadCells_list (P := P) w' A [] (by simp)) (a.eval y) ns.length news hsrc' (by omega) (by simp at h62; omega)
        (growslice_fits (by omega) (by rw [hjb]; simpa using hby))
      have hcap := grownCap_ge w (0 + ns.length) 0 e
      have rd : Rel W0 E U (upd h tk none) w := r.drop fun i x e => by
        by_cases q : i = tk
        · simp [upd, q] at e
        · simpa [upd, q] using e
      obtain ⟨E', a1, a0, a2, a4⟩ := (rd.drew).newBox hid (#[] ++ news.toArray ++ Builtin.zeroCells z.cells (grownCap w (0 + ns.length) 0 e - (0 + ns.length))) e ei.size (grownCap w (0 + ns.length) 0 e) ns
        (by simp [size_zeroCells, hzc, hsrc.size]
            rw [← Nat.add_mul]; exact Nat.mul_le_mul_right _ (by omega)) (by omega) hls hon (fun i q e' x' hi hq => by
          obtain ⟨v, hv, hr'⟩ := hrn.get (flat_get ns hls i q e' x' hi hq)
          have hlt := (List.getElem?_eq_some_iff.1 hv).1
          refine ⟨v, ?_, hr'⟩
          rw [Array.getElem?_append_left (by simpa using hlt)]
          simpa using hv)
      refine ⟨_, _, _, E', hexec _ _ (by rw [hvx]; simpa [hcap0] using hrun), .inl rfl, a1, a2, a4, ?_⟩
      have := Rep.sl (E := E') (id := id) (start := 0) (len := 0 + ns.length) (a := ⟨w.heap.size, 0, none⟩) a0 (by dsimp only; omega) (fun _ => by simp)
      simpa using this
end
end Go.Proofs.YtgahmpfpnclefaaW.Abs
