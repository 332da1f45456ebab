/- Light operations: append, bytes and strings, equality. -/
import Derived.Test.YtgahmpfpnclefaaA8
namespace Go.Proofs.YtgahmpfpnclefaaW.Abs
open Go.RowKit
set_option linter.unusedVariables false
set_option linter.unusedSimpArgs false

section
variable {t : TypeId} {P : Program} {W0 : World} {o : Oper} {a : Act} {E : Env} {U : Nat → Prop} {id : Nat} {h : Hp} {w : World} {ts : List AV}

theorem flat_at {s : Nat} {es : List (List AV)} (hl : ∀ e, e ∈ es → e.length = s) {q : Nat} {x : AV} (hq : (flat es)[q]? = some x) : ∃ i j e, es[i]? = some e ∧ e[j]? = some x ∧ q = i * s + j := by
  have hlt := (List.getElem?_eq_some_iff.1 hq).1
  rw [flat_len es hl] at hlt
  have hs : 0 < s := by rcases Nat.eq_zero_or_pos s with h0 | h0; (· rw [h0] at hlt; simp at hlt); exact h0
  have e1 : q = (q / s) * s + q % s := by rw [Nat.mul_comm]; exact (Nat.div_add_mod q s).symm
  have hm : q % s < s := Nat.mod_lt _ hs
  have hd : q / s < es.length := (Nat.div_lt_iff_lt_mul hs).2 hlt
  have hel : es[q / s].length = s := hl _ (List.getElem_mem hd)
  refine ⟨q / s, q % s, es[q / s], List.getElem?_eq_getElem hd, ?_, e1⟩
  have := flat_get es hl (q / s) (q % s) _ _ (List.getElem?_eq_getElem hd) (List.getElem?_eq_getElem (show q % s < es[q / s].length by omega))
  rw [← e1, hq] at this
  rw [List.getElem?_eq_getElem (show q % s < es[q / s].length by omega), this]

/-- the cells that a slice reads, one behind the other -/
theorem cells_list (r : Rel W0 E U h w) {X : AV} {v : Value} (hr : Rep E X v) {es : List (List AV)} (he : elems h X = some es) {s : Nat} (hls : ∀ e, e ∈ es → e.length = s) :
    ∃ base cap news, v = .slice base es.length cap ∧ Reps E (flat es) news ∧ news.length = es.length * s ∧ (∀ u ∈ news, u.oneCell' = true) ∧ ∀ (P : Program) (w' : World), (∀ a v, w.cell? a = some v → w'.cell? a = some v) → (Builtin.firstCells s es.length v).run P w' = .ok news.toArray w' ∧
      (base = none → news = []) ∧ ∀ A, base = some A → (loadCells A (es.length * s)).run P w' = .ok news.toArray w' := by
  obtain ⟨h1, base, cap, hv, hc⟩ := elems_cells r hr he
  rcases hc with rfl | ⟨blk, off, s', hb, hl, hcell⟩
  · refine ⟨base, cap, [], hv, .nil, by simp, by simp, fun P w' _ => ⟨?_, fun _ => rfl, fun A hA => by simpa using run_loadCells_list (P := P) w' A [] (by simp)⟩⟩
    subst hv
    cases base with
    | none => simp [Builtin.firstCells]
    | some A => simpa [Builtin.firstCells] using run_loadCells_list (P := P) w' A [] (by simp)
  · have hss : es = [] ∨ s' = s := by
      cases es with
      | nil => exact .inl rfl
      | cons y ys => right; rw [← hl y (by simp), hls y (by simp)]
    let f : Nat → Value := fun q => (w.cell? ⟨blk, off + q, none⟩).getD undef
    have hlen := flat_len es hls
    have hf : ∀ q x, (flat es)[q]? = some x → w.cell? ⟨blk, off + q, none⟩ = some (f q) ∧ Rep E x (f q) := by
      intro q x hq
      obtain ⟨i, j, e, hi, hj, rfl⟩ := flat_at hls hq
      obtain ⟨u, hu, hru⟩ := hcell i j e x hi hj
      rcases hss with h0 | h0
      · subst h0; simp at hi
      · rw [h0, Nat.add_assoc] at hu
        have : f (i * s + j) = u := by simp [f, hu]
        rw [this]; exact ⟨hu, hru⟩
    refine ⟨base, cap, (List.range (es.length * s)).map f, hv, ⟨by simp [hlen], fun q x u hx hu => ?_⟩, by simp, fun u hu => ?_, fun P w' hw => ?_⟩
    · have hq : q < es.length * s := by rw [← hlen]; exact (List.getElem?_eq_some_iff.1 hx).1
      simp [hq] at hu
      rw [← hu]; exact (hf q x hx).2
    · simp only [List.mem_map, List.mem_range] at hu
      obtain ⟨q, hq, rfl⟩ := hu
      have hx := List.getElem?_eq_getElem (show q < (flat es).length by omega)
      have hr' := (hf q _ hx).2
      obtain ⟨i, j, e, hi, hj, _⟩ := flat_at hls hx
      exact hr'.one (h1 e (List.mem_of_getElem? hi) _ (List.mem_of_getElem? hj))
    · have hload : (loadCells ⟨blk, off, none⟩ (es.length * s)).run P w' = .ok ((List.range (es.length * s)).map f).toArray w' := by
        refine run_loadCells (P := P) w' _ _ f (fun q hq => ?_)
        have hx := List.getElem?_eq_getElem (show q < (flat es).length by omega)
        rw [Addr.add_lit]; exact hw _ _ (hf q _ hx).1
      subst hb
      refine ⟨?_, fun hn => (by cases hn), fun A hA => (by cases hA; exact hload)⟩
      rw [hv]; simp only [Builtin.firstCells]; exact hload

theorem ind_len (l : List UInt8) : ∀ e, e ∈ ind l → e.length = 1 := by
  intro e he; simp only [ind, List.mem_map] at he; obtain ⟨b, _, rfl⟩ := he; rfl
theorem ind_ones (l : List UInt8) : ones (ind l) := by
  intro e he x hx; simp only [ind, List.mem_map] at he; obtain ⟨b, _, rfl⟩ := he; simp at hx; subst hx; rfl
theorem flat_ind : ∀ l : List UInt8, flat (ind l) = l.map fun b => .int .u8 b.toNat
  | [] => rfl
  | b :: l => by have := flat_ind l; simp only [flat, ind, List.map_cons, List.flatten_cons] at this ⊢; rw [this]; rfl
theorem reps_map {α : Type} {E : Env} {f : α → AV} {g : α → Value} (hfg : ∀ x, Rep E (f x) (g x)) : ∀ l : List α, Reps E (l.map f) (l.map g)
  | [] => .nil
  | x :: l => .cons (hfg x) (reps_map hfg l)

/-- what is appended -/
theorem src_of (r : Rel W0 E U h w) {X : AV} {v : Value} (hr : Rep E X v) {ns : List (List AV)} (hn : srcElems h X = some ns) {s : Nat} (hls : ∀ e, e ∈ ns → e.length = s) :
    ones ns ∧ ∃ news, Src P s ns.length v news w ∧ Reps E (flat ns) news ∧ ∀ u ∈ news, u.oneCell' = true := by
  by_cases hs : ∃ l, X = .str l
  · obtain ⟨l, rfl⟩ := hs
    have hv := hr.str_inv
    simp only [srcElems, Option.some.injEq] at hn
    subst hn
    have hlen : (ind l).length = l.length := by simp [ind]
    refine ⟨ind_ones l, l.map (fun b => .int .u8 b.toNat), ⟨fun w' => by rw [hv, hlen]; rfl, ?_, fun w' _ => ?_⟩, ?_, by simp [Value.oneCell']⟩
    · rw [hlen]; simp
      rcases l with _ | ⟨b, l⟩
      · simp
      · have := hls _ (by simp [ind]; exact Or.inl rfl); simp at this; subst this; simp
    · rw [hv, hlen]
      simp only [Builtin.firstCells, Sem.run_pure]
      congr 1
      have : ((bytes l).extract 0 l.length) = bytes l := by rw [bytes_extract]; simp
      rw [this]; simp [bytes]
    · rw [flat_ind]; exact reps_map (fun b => .int _ _) l
  · have hn' : elems h X = some ns := by
      cases X <;> first | exact hn | exact absurd ⟨_, rfl⟩ hs
    obtain ⟨base, cap, news, hv, g1, g2, g3, g4⟩ := cells_list r hr hn' hls
    exact ⟨(elems_cells r hr hn').1, news, ⟨fun w' => by rw [hv]; rfl, g2, fun w' hw => (g4 P w' hw).1⟩, g1, g3⟩

theorem Rel.weaken {E : Env} {U : Nat → Prop} {h : Hp} {w : World} {id s : Nat} {ty ty' : Option TypeId} (r : Rel W0 E U (upd h id (some (.tail ty s))) w) (ht : ty' = ty ∨ ty' = none) : Rel W0 E U (upd h id (some (.tail ty' s))) w := by
  rcases ht with rfl | rfl
  · exact r
  refine ⟨r.below, r.imm, r.lt, r.own, r.ids, fun k y hy => ?_, r.low⟩
  by_cases e : k = id
  · subst e
    simp [upd] at hy; subst hy
    obtain ⟨b, h1, h2⟩ := r.objs k (.tail ty s) (by simp [upd])
    exact ⟨b, h1, fun t ht => by (cases ht), h2.2⟩
  · exact r.objs k y (by simpa [upd, e] using hy)
theorem tailTy_of {h : Hp} {tk s : Nat} {tyk : Option TypeId} {e : TypeId} (ht : h tk = some (.tail tyk s)) : tailTy e (h tk) = tyk ∨ tailTy e (h tk) = none := by
  rw [ht]
  cases tyk with
  | none => exact .inr rfl
  | some t =>
    simp only [tailTy]
    split
    · rename_i q; subst q; exact .inl rfl
    · exact .inr rfl
theorem tailTy_new {h : Hp} {tk s : Nat} {tyk : Option TypeId} {e : TypeId} (ht : h tk = some (.tail tyk s)) : tailTy e (h tk) = some e ∨ tailTy e (h tk) = none := by
  rw [ht]
  cases tyk with
  | none => exact .inr rfl
  | some t =>
    simp only [tailTy]
    split
    · exact .inl rfl
    · exact .inr rfl

theorem app_res {ty e ty2 : TypeId} {d2 : TypeDesc} {ei : TI} {x y : Operand} {x' y' : Arg} {c : Call} (r : Rel W0 E U h w) (hid : ¬ U id) (ht : Reps E ts a.tmps.toList) (hx : compA x = some x') (hy : compA y = some y') (ho : o.op = .call c) (hc : c.callee = .builtin .append) (hca : c.args = #[x, y]) (hct : c.argTypes = #[ty, ty2])
    (hd : P.underlying ty = some (.slice e)) (hd2 : P.underlying ty2 = some d2) (hi2 : ∀ k, d2 ≠ .int k) (hei : TIok P e ei) (hzl : ei.zero.cells.length = ei.size)
    (hok : SO.ok id ts h (.app e ei.size ei.bytes x' y')) : Res P W0 o a E U id w (SO.val id ts h (.app e ei.size ei.bytes x' y')) (SO.heap id ts h (.app e ei.size ei.bytes x' y')) := by
  have rx := compA_rep ht hx
  have ry := compA_rep ht hy
  obtain ⟨es, ns, hX, hns, hls, hby, h62⟩ := hok
  obtain ⟨j, z, hj, hsz, hjb, hz, hzr⟩ := hei.info
  obtain ⟨hon, news, hsrc, hrn, h1n⟩ := src_of (P := P) r ry hns hls
  have hzc : z.cells.size = ei.size := by have := (Reps.cells (hzr E)).1; simp at this; omega
  have hsrc' : Src P j.size ns.length (a.eval y) news w := by rw [hsz]; exact hsrc
  have hexec : ∀ v w', (Builtin.append_ #[ty, ty2] o.type #[a.eval x, a.eval y]).run P w = .ok v w' → (execOp a.eval o).run P w = .ok (.value v) w' := by
    intro v w' hh
    unfold execOp; rw [ho]
    simp [resolve, hc, hca, hct, invoke, builtin, hh]
  simp only [SO.val, SO.heap, hns, Option.getD_some]
  rcases hX with ⟨hX, rfl⟩ | ⟨tk, tyk, hX, htk⟩
  · -- onto nil
    rw [hX] at rx ⊢
    have hvx : a.eval x = .slice none 0 0 := by generalize a.eval x = V at rx; cases rx; rfl
    cases ns with
    | nil =>
      refine .pure r (hexec _ w ?_) .nils
      have hnews : news = [] := by have := hsrc.size; simp at this; exact List.eq_nil_of_length_eq_zero (by simpa using this)
      rw [hvx]
      exact run_app_none ty ty2 _ e j d2 hd hd2 hi2 hj (a.eval y) (by rw [hnews] at hsrc'; exact hsrc')
    | cons n0 nr =>
      generalize hNS : n0 :: nr = ns at *
      have hpos : 0 < ns.length := by rw [← hNS]; simp
      have hrun := run_app_grow (P := P) (w := w) ty ty2 o.type e j z d2 hd hd2 hi2 hj hz none 0 0 [] (by simp) (fun w' _ => by simp [Builtin.firstCells]) (a.eval y) ns.length news hsrc' (by omega) (by simp at h62; omega)
        (growslice_fits (by omega) (by rw [hjb]; simpa using hby))
      have hcap := grownCap_ge w (0 + ns.length) 0 e
      obtain ⟨E', a1, a2, a3, a4⟩ := (r.drew).newRow hid (#[] ++ news.toArray ++ Builtin.zeroCells z.cells (grownCap w (0 + ns.length) 0 e - (0 + ns.length))) e ei.size (grownCap w (0 + ns.length) 0 e) ns
        (by simp [size_zeroCells, hzc, hsrc.size]
            rw [← Nat.add_mul]; exact Nat.mul_le_mul_right _ (by omega)) (by omega) hls hon (fun i q e' x' hi hq => by
          obtain ⟨v, hv, hr'⟩ := hrn.get (flat_get ns hls i q e' x' hi hq)
          have hlt := (List.getElem?_eq_some_iff.1 hv).1
          refine ⟨v, ?_, hr'⟩
          rw [Array.getElem?_append_left (by simpa using hlt)]
          simpa using hv)
      refine ⟨_, _, _, E', hexec _ _ (by rw [hvx]; exact hrun), .inl rfl, a1, a2, ?_, ?_⟩
      · subst hNS; simpa using a4
      · subst hNS; simpa using a3
  · rw [hX] at rx ⊢
    dsimp only
    have hrow := rx
    generalize hvx : a.eval x = V at rx hrow
    cases rx with
    | @row _ _ _ blk off cap s f hA0 hl h1 hcc hm hre htk' =>
      have hA1 := hA0 (.inr rfl)
      subst hA1
      obtain ⟨b, hb, hbs, hbc, hbb⟩ := htk' tk rfl
      obtain ⟨b', hb', _, hss, _⟩ := r.objs tk _ htk
      rw [hb] at hb'; cases hb'
      have hs : s = ei.size := by omega
      subst hs
      by_cases hroom : es.length + ns.length ≤ cap
      · obtain ⟨blk', off', hA, q1, q2, E', a1, a2, a3, a4⟩ := r.appRoom hid hrow htk hls hon hrn hroom h1n
        cases hA
        have hrun := run_app_room (P := P) (w := w) ty ty2 o.type e j d2 hd hd2 hi2 hj blk off es.length cap (a.eval y) ns.length news hsrc' h1n hroom (by rw [hsz]; exact q1) (by rw [hsz]; exact q2)
        rw [hsz] at hrun
        exact ⟨_, _, _, E', hexec _ _ (by rw [hvx]; exact hrun), .inl rfl, a1, a2, a4.weaken (tailTy_of htk), a3⟩
      · have hin : elems h (.row es (some tk)) = some es := rfl
        obtain ⟨base, cap', olds, hv0, hro, hlo, h1o, hget⟩ := cells_list r hrow hin (s := ei.size) hl
        cases hv0
        have hrun := run_app_grow (P := P) (w := w) ty ty2 o.type e j z d2 hd hd2 hi2 hj hz (some ⟨blk, off, none⟩) es.length cap olds (by rw [hsz]; exact hlo) (fun w' hw => by rw [hsz]; exact (hget P w' hw).1) (a.eval y) ns.length news hsrc' (by omega) (by omega)
          (growslice_fits (by omega) (by rw [hjb]; exact hby))
        have hcap := grownCap_ge w (es.length + ns.length) cap e
        have rd : Rel W0 E U (upd h tk none) w := r.drop fun i x e => by
          by_cases q : i = tk
          · simp [upd, q] at e
          · simpa [upd, q] using e
        have hlen : (es ++ ns).length = es.length + ns.length := by simp
        have hla : ∀ e, e ∈ es ++ ns → e.length = ei.size := fun e he => by
          rcases List.mem_append.1 he with he | he
          · exact hl e he
          · exact hls e he
        have hfa : flat (es ++ ns) = flat es ++ flat ns := by simp [flat]
        obtain ⟨E', a1, a2, a3, a4⟩ := (rd.drew).newRow hid (olds.toArray ++ news.toArray ++ Builtin.zeroCells z.cells (grownCap w (es.length + ns.length) cap e - (es.length + ns.length))) e ei.size (grownCap w (es.length + ns.length) cap e) (es ++ ns)
          (by simp [size_zeroCells, hzc, hsrc.size, hlo]
              rw [← Nat.add_mul, ← Nat.add_mul]; exact Nat.mul_le_mul_right _ (by omega)) (by omega) hla
          (fun e he => by rcases List.mem_append.1 he with he | he; (· exact h1 e he); exact hon e he)
          (fun i q e' x' hi hq => by
            have hg := flat_get (es ++ ns) hla i q e' x' hi hq
            rw [hfa] at hg
            obtain ⟨v, hv, hr'⟩ := (hro.append hrn).get hg
            have hlt := (List.getElem?_eq_some_iff.1 hv).1
            refine ⟨v, ?_, hr'⟩
            rw [Array.getElem?_append_left (by simpa using hlt)]
            simpa using hv)
        refine ⟨_, _, _, E', hexec _ _ (by rw [hvx]; exact hrun), .inl rfl, a1, a2, a4.weaken (tailTy_new htk), ?_⟩
        rw [hlen] at a3
        exact a3

theorem bytesOf_spec : ∀ {es : List (List AV)} {l : List UInt8}, bytesOf es = some l → es = ind l
  | [], l, h => by simp [bytesOf] at h; subst h; rfl
  | e :: r, l, h => by
    unfold bytesOf at h
    split at h
    · rename_i heq; exact absurd heq (by simp)
    · rename_i n r' heq
      cases heq
      split at h
      · rename_i hn
        simp only [Option.map_eq_some_iff] at h
        obtain ⟨l', hl', rfl⟩ := h
        have ih := bytesOf_spec hl'
        rw [ih]
        simp only [ind, List.map_cons]
        congr 3
        have : n.toNat < 256 := by omega
        rw [UInt8.toNat_ofNat']
        omega
      · cases h
    · cases h

theorem bytesOf_ind : ∀ l : List UInt8, bytesOf (ind l) = some l
  | [] => rfl
  | b :: l => by
    have hb : b.toNat < 256 := b.toNat_lt
    have ih := bytesOf_ind l
    simp only [ind] at ih
    simp only [ind, List.map_cons, bytesOf, ih]
    rw [if_pos ⟨by omega, by omega⟩]
    simp

theorem foldl_bytes (P : Program) (w : World) : ∀ (l : List UInt8) (s : ByteArray), ∃ s' : ByteArray, s'.data.toList = s.data.toList ++ l ∧
    (forIn (m := Sem) (l.map fun b => Value.int .u8 (b.toNat : Int)) s fun c s => do
      match c with
      | .int .u8 n => pure (ForInStep.yield (s.push (UInt8.ofNat n.toNat)))
      | _ => stuck "bytesToString: byte expected").run P w = .ok s' w
  | [], s => ⟨s, by simp, by simp⟩
  | b :: l, s => by
    obtain ⟨s', h1, h2⟩ := foldl_bytes P w l (s.push b)
    refine ⟨s', by rw [h1]; simp, ?_⟩
    simp only [List.map_cons, List.forIn_cons, Sem.run_bind]
    simp only [Sem.run_pure, Result.andThen_ok]
    have : UInt8.ofNat (b.toNat : Int).toNat = b := by simp
    rw [this]; exact h2
end
end Go.Proofs.YtgahmpfpnclefaaW.Abs
