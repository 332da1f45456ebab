/- Light operations that read memory, and those that lay new memory. -/
import Derived.Test.YtgahmpfpnclefaaA5
import Derived.Great.BuildSlice
import Derived.Laws.MakeOwn
namespace Go.Proofs.YtgahmpfpnclefaaW.Abs
open Go.RowKit
set_option linter.unusedVariables false
set_option linter.unusedSimpArgs false

section
variable {t : TypeId} {P : Program} {W0 : World} {o : Oper} {a : Act} {E : Env} {U : Nat → Prop} {id : Nat} {h : Hp} {w : World} {ts : List AV}

/-- what a pointer points to lies there -/
theorem target_cells (r : Rel W0 E U h w) {X : AV} {v : Value} (hr : Rep E X v) {cs : List AV} {off : Nat} (ht : target h X = some (cs, off)) :
    ∃ blk o, v = .pointer (some ⟨blk, o + off, none⟩) ∧ ∀ j x, cs[j]? = some x → ∃ u, w.cell? ⟨blk, o + j, none⟩ = some u ∧ Rep E x u := by
  cases hr <;> simp only [target] at ht <;> try (cases ht; done)
  case ep f hm hh =>
    cases ht
    exact ⟨_, _, rfl, fun j x hj => ⟨_, r.imm _ _ _ (hm j x hj), hh j x hj⟩⟩
  case bp i idx off' b hb =>
    cases ho : h i with
    | none => simp [ho] at ht
    | some ob =>
      obtain ⟨b', hb', hrep⟩ := r.objs i _ ho
      rw [hb] at hb'; cases hb'
      cases ob with
      | box ty es =>
        simp only [ho, Option.map_eq_some_iff, Prod.mk.injEq] at ht
        obtain ⟨e, he, rfl, rfl⟩ := ht
        obtain ⟨_, _, _, _, _, f, h4⟩ := hrep
        exact ⟨_, _, rfl, fun j x hj => ⟨_, (h4 idx j e x he hj).1, (h4 idx j e x he hj).2⟩⟩
      | froz es =>
        simp only [ho, Option.map_eq_some_iff, Prod.mk.injEq] at ht
        obtain ⟨e, he, rfl, rfl⟩ := ht
        obtain ⟨_, _, _, f, h4⟩ := hrep
        exact ⟨_, _, rfl, fun j x hj => ⟨_, r.imm _ _ _ (h4 idx j e x he hj).1, (h4 idx j e x he hj).2⟩⟩
      | tail _ s => simp [ho] at ht
      | map k => simp [ho] at ht
      | nocap => simp [ho] at ht

theorem loadVar_run {ty : TypeId} {i : TI} {n : Option Nat} (hi : TIok P ty i) (hn : n = if isAggD i.d then some i.size else none) {cs : List AV} {off blk o' : Nat} (hp : partOk cs off n)
    (hc : ∀ j x, cs[j]? = some x → ∃ u, w.cell? ⟨blk, o' + j, none⟩ = some u ∧ Rep E x u) : ∃ v, (loadVar ty ⟨blk, o' + off, none⟩).run P w = .ok v w ∧ Rep E (partOf cs off n) v := by
  obtain ⟨j, z, hj, hsz, _⟩ := hi.info
  cases hag : isAggD i.d with
  | false =>
    simp only [hag, Bool.false_eq_true, if_false] at hn
    subst hn
    simp only [partOk] at hp
    obtain ⟨u, hu, hr⟩ := hc off _ (List.getElem?_eq_getElem hp)
    refine ⟨u, ?_, by simpa [partOf, List.getD_eq_getElem?_getD, List.getElem?_eq_getElem hp] using hr⟩
    have hag' : (isAgg ty).run P w = .ok false w := by
      unfold isAgg
      simp only [Sem.run_bind, run_underlying hi.und, Result.andThen_ok]
      cases hd : i.d <;> simp [hd, isAggD] at hag ⊢
    simp [loadVar, hag', hu]
  | true =>
    simp only [hag, if_true] at hn
    subst hn
    simp only [partOk] at hp
    have hf : ∀ k, k < i.size → ∃ u x, cs[off + k]? = some x ∧ w.cell? ⟨blk, o' + (off + k), none⟩ = some u ∧ Rep E x u := by
      intro k hk
      have hlt : off + k < cs.length := by omega
      obtain ⟨u, hu, hr⟩ := hc (off + k) _ (List.getElem?_eq_getElem hlt)
      exact ⟨u, _, List.getElem?_eq_getElem hlt, hu, hr⟩
    let f : Nat → Value := fun k => (w.cell? ⟨blk, o' + (off + k), none⟩).getD undef
    have hag' : (isAgg ty).run P w = .ok true w := by
      unfold isAgg
      simp only [Sem.run_bind, run_underlying hi.und, Result.andThen_ok]
      cases hd : i.d <;> simp [hd, isAggD] at hag ⊢
    have hl := run_loadCells (P := P) w ⟨blk, o' + off, none⟩ i.size f (fun k hk => by
      obtain ⟨u, x, _, hu, _⟩ := hf k hk
      rw [Addr.add_lit, Nat.add_assoc, hu]; simp [f, hu])
    refine ⟨.agg ((List.range i.size).map f).toArray, ?_, .agg' ⟨by simp; omega, fun k x u hx hu => ?_⟩⟩
    · simp [loadVar, hag', sizeOf, typeInfo, hj, hsz, hl]
    · have hk : k < i.size := by have := (List.getElem?_eq_some_iff.1 hx).1; simp at this; omega
      obtain ⟨u', x', hx', hu', hr⟩ := hf k hk
      have e1 : x = x' := by
        rw [List.getElem?_take_of_lt hk, List.getElem?_drop] at hx
        rw [hx'] at hx; cases hx; rfl
      have e2 : u = u' := by
        simp [hk] at hu
        rw [← hu]; simp [f, hu']
      rw [e1, e2]; exact hr

theorem load_res {ty : TypeId} {i : TI} {x : Operand} {x' : Arg} {n : Option Nat} (r : Rel W0 E U h w) (ht : Reps E ts a.tmps.toList) (hx : compA x = some x') (ho : o.op = .load ty x) (hi : TIok P ty i) (hn : n = if isAggD i.d then some i.size else none)
    (hok : SO.ok id ts h (.load n x')) : Res P W0 o a E U id w (SO.val id ts h (.load n x')) h := by
  obtain ⟨cs, off, htar, hp⟩ := hok
  obtain ⟨blk, o', hv, hc⟩ := target_cells r (compA_rep ht hx) htar
  obtain ⟨v, h1, h2⟩ := loadVar_run (P := P) hi hn hp hc
  simp only [SO.val, htar]
  refine .pure r (v := v) ?_ h2
  unfold execOp; rw [ho]
  simp [hv, Instr.loadAt, Instr.sureAddr, h1]

theorem fa_res {ty : TypeId} {fs : Array Field} {f : Field} {fi : TI} {k : Nat} {x : Operand} {x' : Arg} (r : Rel W0 E U h w) (ht : Reps E ts a.tmps.toList) (hx : compA x = some x') (ho : o.op = .fieldAddr ty x k) (hd : P.underlying ty = some (.struct fs)) (hf : fs[k]? = some f) (hfi : TIok P f.type fi) (hz : fi.size ≠ 0)
    (hok : SO.ok id ts h (.fa f.offset x')) : Res P W0 o a E U id w (SO.val id ts h (.fa f.offset x')) h := by
  have rx := compA_rep ht hx
  obtain ⟨j, z, hj, hsz, _⟩ := hfi.info
  simp only [SO.ok] at hok
  simp only [SO.val]
  generalize x'.ev ts = X at hok rx ⊢
  have key : ∀ A : Addr, a.eval x = .pointer (some A) → A.spot = none → (execOp a.eval o).run P w = .ok (.value (.pointer (some ⟨A.block, A.off + f.offset, none⟩))) w := by
    intro A hA hs
    unfold execOp; rw [ho]
    have : A.add f.offset = ⟨A.block, A.off + f.offset, none⟩ := by
      cases A; simp only at hs; subst hs; rw [Addr.add_lit]
    simp [hA, Instr.fieldAt, run_underlying hd, hf, Instr.sureAddr, fieldPlace, sizeOf, typeInfo, hj, hsz, hz, this]
  cases X <;> simp only at hok
  case bp i idx off =>
    generalize hv : a.eval x = V at rx
    cases rx with
    | @bp _ _ _ b hb =>
      refine .pure r (key _ hv rfl) ?_
      have := Rep.bp (E := E) (idx := idx) (off := off + f.offset) hb
      simpa [Nat.add_assoc] using this
  case ep cells off =>
    generalize hv : a.eval x = V at rx
    cases rx with
    | ep g hm hh =>
      refine .pure r (key _ hv rfl) ?_
      have := Rep.ep (E := E) (off := off + f.offset) g hm hh
      simpa [Nat.add_assoc] using this

/-- a part of an aggregate that lies in a value -/
theorem part_res {ty : TypeId} {i : TI} {cs : List AV} {vs : Array Value} {off : Nat} {n : Option Nat} (hr : Reps E cs vs.toList) (hi : TIok P ty i) (hn : n = if isAggD i.d then some i.size else none) (hp : partOk cs off n) :
    ∃ v, (part ty vs off).run P w = .ok v w ∧ Rep E (partOf cs off n) v := by
  obtain ⟨j, z, hj, hsz, _⟩ := hi.info
  have hlen : cs.length = vs.size := by simpa using hr.1
  cases hag : isAggD i.d with
  | false =>
    simp only [hag, Bool.false_eq_true, if_false] at hn
    subst hn
    simp only [partOk] at hp
    have hp' : off < vs.size := by omega
    refine ⟨vs[off], ?_, ?_⟩
    · have hag' : (isAgg ty).run P w = .ok false w := by
        unfold isAgg
        simp only [Sem.run_bind, run_underlying hi.und, Result.andThen_ok]
        cases hd : i.d <;> simp [hd, isAggD] at hag ⊢
      simp [part, hag', Array.getElem?_eq_getElem hp']
    · have := hr.2 off cs[off] vs[off] (List.getElem?_eq_getElem hp) (by simp)
      simpa [partOf, List.getD_eq_getElem?_getD, List.getElem?_eq_getElem hp] using this
  | true =>
    simp only [hag, if_true] at hn
    subst hn
    simp only [partOk] at hp
    refine ⟨.agg (vs.extract off (off + i.size)), ?_, .agg' ⟨?_, fun k x u hx hu => ?_⟩⟩
    · have hag' : (isAgg ty).run P w = .ok true w := by
        unfold isAgg
        simp only [Sem.run_bind, run_underlying hi.und, Result.andThen_ok]
        cases hd : i.d <;> simp [hd, isAggD] at hag ⊢
      simp [part, hag', sizeOf, typeInfo, hj, hsz]
    · simp; omega
    · have hk : k < i.size := by have := (List.getElem?_eq_some_iff.1 hx).1; simp at this; omega
      rw [List.getElem?_take_of_lt hk, List.getElem?_drop] at hx
      refine hr.2 (off + k) x u hx ?_
      simp at hu
      rw [List.getElem?_take_of_lt hk, List.getElem?_drop] at hu
      exact hu

theorem fld_res {ty : TypeId} {fs : Array Field} {f : Field} {fi : TI} {k : Nat} {n : Option Nat} {x : Operand} {x' : Arg} (r : Rel W0 E U h w) (ht : Reps E ts a.tmps.toList) (hx : compA x = some x') (ho : o.op = .field ty x k) (hd : P.underlying ty = some (.struct fs)) (hf : fs[k]? = some f) (hfi : TIok P f.type fi) (hn : n = if isAggD fi.d then some fi.size else none)
    (hok : SO.ok id ts h (.fld f.offset n x')) : Res P W0 o a E U id w (SO.val id ts h (.fld f.offset n x')) h := by
  have rx := compA_rep ht hx
  obtain ⟨cs, hc, hp⟩ := hok
  simp only [SO.val, hc]
  rw [hc] at rx
  generalize hv : a.eval x = V at rx
  cases rx with
  | @agg _ vs hs hh =>
    obtain ⟨v, h1, h2⟩ := part_res (P := P) (w := w) (vs := vs) (off := f.offset) ⟨by simpa using hs, fun i a v ha hv => hh i a v ha (by simpa using hv)⟩ hfi hn hp
    refine .pure r (v := v) ?_ h2
    unfold execOp; rw [ho]
    simp [hv, Instr.field, run_underlying hd, hf, asAgg, h1]

theorem ixa_res {ty e : TypeId} {ln : Nat} {ei : TI} {n : Option Nat} {x i : Operand} {x' i' : Arg} (r : Rel W0 E U h w) (ht : Reps E ts a.tmps.toList) (hx : compA x = some x') (hi : compA i = some i') (ho : o.op = .index ty x i) (hd : P.underlying ty = some (.array ln e)) (hei : TIok P e ei) (hn : n = if isAggD ei.d then some ei.size else none)
    (hok : SO.ok id ts h (.ixa ln ei.size n x' i')) : Res P W0 o a E U id w (SO.val id ts h (.ixa ln ei.size n x' i')) h := by
  have rx := compA_rep ht hx
  have ri := compA_rep ht hi
  obtain ⟨hn', h0, hlt, cs, hc, hp⟩ := hok
  obtain ⟨k, ek⟩ := isInt_inv hn'
  simp only [SO.val, hc]
  generalize (i'.ev ts).toInt = m at ek h0 hlt hp ⊢
  rw [ek] at ri; rw [hc] at rx
  have e1 := ri.int_inv
  generalize hv : a.eval x = V at rx
  obtain ⟨j, z, hj, hsz, _⟩ := hei.info
  cases rx with
  | @agg _ vs hs hh =>
    obtain ⟨v, h1, h2⟩ := part_res (P := P) (w := w) (vs := vs) (off := m.toNat * ei.size) ⟨by simpa using hs, fun i a v ha hv => hh i a v ha (by simpa using hv)⟩ hei hn hp
    refine .pure r (v := v) ?_ h2
    unfold execOp; rw [ho]
    simp [hv, e1, Instr.index, asIntOf, run_underlying hd, h0, hlt, sizeOf, typeInfo, hj, hsz, h1]

theorem iaa_res {ty e : TypeId} {ln : Nat} {ei : TI} {x i : Operand} {x' i' : Arg} (r : Rel W0 E U h w) (ht : Reps E ts a.tmps.toList) (hx : compA x = some x') (hi : compA i = some i') (ho : o.op = .indexAddr ty x i) (hd : P.underlying ty = some (.array ln e)) (hei : TIok P e ei)
    (hok : SO.ok id ts h (.iaa ln ei.size x' i')) : Res P W0 o a E U id w (SO.val id ts h (.iaa ln ei.size x' i')) h := by
  have rx := compA_rep ht hx
  have ri := compA_rep ht hi
  obtain ⟨hn', h0, hlt, hc⟩ := hok
  obtain ⟨k, ek⟩ := isInt_inv hn'
  simp only [SO.val]
  generalize (i'.ev ts).toInt = m at ek h0 hlt ⊢
  rw [ek] at ri
  have e1 := ri.int_inv
  obtain ⟨j, z, hj, hsz, _⟩ := hei.info
  generalize x'.ev ts = X at hc rx ⊢
  have key : ∀ A : Addr, a.eval x = .pointer (some A) → A.spot = none → (execOp a.eval o).run P w = .ok (.value (.pointer (some ⟨A.block, A.off + m.toNat * ei.size, none⟩))) w := by
    intro A hA hs
    unfold execOp; rw [ho]
    have : A.add (m.toNat * ei.size) = ⟨A.block, A.off + m.toNat * ei.size, none⟩ := by
      cases A; simp only at hs; subst hs; rw [Addr.add_lit]
    simp [hA, e1, Instr.indexAt, asIntOf, run_underlying hd, Instr.sureAddr, h0, hlt, sizeOf, typeInfo, hj, hsz, this]
  cases X <;> simp only at hc
  case bp i idx off =>
    generalize hv : a.eval x = V at rx
    cases rx with
    | @bp _ _ _ b hb =>
      refine .pure r (key _ hv rfl) ?_
      have := Rep.bp (E := E) (idx := idx) (off := off + m.toNat * ei.size) hb
      simpa [Nat.add_assoc] using this
  case ep cells off =>
    generalize hv : a.eval x = V at rx
    cases rx with
    | ep g hm hh =>
      refine .pure r (key _ hv rfl) ?_
      have := Rep.ep (E := E) (off := off + m.toNat * ei.size) g hm hh
      simpa [Nat.add_assoc] using this

theorem nilck_res {x : Operand} {x' : Arg} (r : Rel W0 E U h w) (ht : Reps E ts a.tmps.toList) (hx : compA x = some x') (ho : o.op = .nilCheck x)
    (hok : SO.ok id ts h (.nilck x')) : Res P W0 o a E U id w (SO.val id ts h (.nilck x')) h := by
  have rx := compA_rep ht hx
  simp only [SO.ok] at hok
  simp only [SO.val]
  generalize x'.ev ts = X at hok rx ⊢
  generalize hv : a.eval x = V at rx
  cases X <;> first | (exact False.elim hok) | skip
  case bp => cases rx with | bp hb => exact .pure r (by unfold execOp; rw [ho]; simp only [hv]; rfl) (.bp hb)
  case ep => cases rx with | ep g hm hh => exact .pure r (by unfold execOp; rw [ho]; simp only [hv]; rfl) (.ep g hm hh)
  case fn f first caps =>
    cases f <;> first | (exact False.elim hok) | skip
    cases rx with | fn hs ht h1 h2 => exact .pure r (by unfold execOp; rw [ho]; simp only [hv]; rfl) (.fn hs ht h1 h2)

/-- what a slice reads lies there -/
theorem elems_cells (r : Rel W0 E U h w) {X : AV} {v : Value} (hr : Rep E X v) {es : List (List AV)} (he : elems h X = some es) :
    ones es ∧ ∃ base cap, v = .slice base es.length cap ∧ (es = [] ∨ ∃ blk off s, base = some ⟨blk, off, none⟩ ∧ (∀ e, e ∈ es → e.length = s) ∧
      ∀ i j e x, es[i]? = some e → e[j]? = some x → ∃ u, w.cell? ⟨blk, off + i * s + j, none⟩ = some u ∧ Rep E x u) := by
  cases hr <;> simp only [elems] at he <;> try (cases he; done)
  case nils => cases he; exact ⟨fun e hh => by simp at hh, _, _, rfl, .inl rfl⟩
  case row es tok A blk off cap s f hA hl h1 hc hm hh ht =>
    cases he
    refine ⟨h1, _, _, rfl, ?_⟩
    by_cases hes : es = []
    · exact .inl hes
    have hA' := hA (.inl (by have := List.length_pos_iff.2 hes; omega))
    subst hA'
    exact (.inr ⟨blk, off, s, rfl, hl, fun i j e x hi hj => ⟨_, r.imm _ _ _ (hm i j e x hi hj), hh i j e x hi hj⟩⟩)
  case sl i st n b A hb hc hA =>
    have key : ∀ es0 : List (List AV), st + n ≤ es0.length → es0.length ≤ b.cap → (∀ e, e ∈ es0 → e.length = b.s) → ones es0 →
        (∀ i j e x, es0[i]? = some e → e[j]? = some x → ∃ u, w.cell? ⟨b.blk, b.off + i * b.s + j, none⟩ = some u ∧ Rep E x u) →
        ones ((es0.drop st).take n) ∧ ∃ base cap, Value.slice (some A) n (b.cap - st) = .slice base ((es0.drop st).take n).length cap ∧ ((es0.drop st).take n = [] ∨ ∃ blk off s, base = some ⟨blk, off, none⟩ ∧ (∀ e, e ∈ (es0.drop st).take n → e.length = s) ∧
          ∀ i j e x, ((es0.drop st).take n)[i]? = some e → e[j]? = some x → ∃ u, w.cell? ⟨blk, off + i * s + j, none⟩ = some u ∧ Rep E x u) := by
      intro es0 h1 h2 h3 h4 h5
      have hlen : ((es0.drop st).take n).length = n := by simp; omega
      refine ⟨fun e he => h4 e (List.mem_of_mem_drop (List.mem_of_mem_take he)), _, _, by rw [hlen], ?_⟩
      rcases Nat.eq_zero_or_pos n with hz | hp
      · left; apply List.eq_nil_of_length_eq_zero; omega
      · right
        refine ⟨b.blk, b.off + st * b.s, b.s, by rw [hA (by omega)], fun e he => h3 e (List.mem_of_mem_drop (List.mem_of_mem_take he)), fun i j e x hi hj => ?_⟩
        have hlt : i < n := by have := (List.getElem?_eq_some_iff.1 hi).1; omega
        rw [List.getElem?_take_of_lt hlt, List.getElem?_drop] at hi
        have := h5 (st + i) j e x hi hj
        rwa [Nat.add_mul, ← Nat.add_assoc] at this
    cases ho : h i with
    | none => simp [ho] at he
    | some ob =>
      obtain ⟨b', hb', hrep⟩ := r.objs i _ ho
      rw [hb] at hb'; cases hb'
      cases ob with
      | box ty0 es0 =>
        simp only [ho] at he
        split at he
        · rename_i hle; cases he
          obtain ⟨_, g1, g2, g3, _, f, g4⟩ := hrep
          exact key es0 hle g1 g2 g3 (fun i j e x hi hj => ⟨_, (g4 i j e x hi hj).1, (g4 i j e x hi hj).2⟩)
        · cases he
      | froz es0 =>
        simp only [ho] at he
        split at he
        · rename_i hle; cases he
          obtain ⟨g1, g2, g3, f, g4⟩ := hrep
          exact key es0 hle g1 g2 g3 (fun i j e x hi hj => ⟨_, r.imm _ _ _ (g4 i j e x hi hj).1, (g4 i j e x hi hj).2⟩)
        · cases he
      | tail _ s => simp [ho] at he
      | map k => simp [ho] at he
      | nocap => simp [ho] at he

theorem ia_res {ty e : TypeId} {ei : TI} {x i : Operand} {x' i' : Arg} (r : Rel W0 E U h w) (ht : Reps E ts a.tmps.toList) (hx : compA x = some x') (hi : compA i = some i') (ho : o.op = .indexAddr ty x i) (hd : P.underlying ty = some (.slice e)) (hei : TIok P e ei)
    (hok : SO.ok id ts h (.ia ei.size x' i')) : Res P W0 o a E U id w (SO.val id ts h (.ia ei.size x' i')) h := by
  have rx := compA_rep ht hx
  have ri := compA_rep ht hi
  obtain ⟨hn', h0, es, el, hes, hel, hsz'⟩ := hok
  obtain ⟨k, ek⟩ := isInt_inv hn'
  simp only [SO.val]
  generalize (i'.ev ts).toInt = m at ek h0 hel ⊢
  rw [ek] at ri
  have e1 := ri.int_inv
  obtain ⟨j, z, hj, hsz, _⟩ := hei.info
  generalize x'.ev ts = X at hes rx ⊢
  have hlt := (List.getElem?_eq_some_iff.1 hel).1
  have key : ∀ (A : Addr) (c : Nat), a.eval x = .slice (some A) es.length c → (execOp a.eval o).run P w = .ok (.value (.pointer (some (A.add (m.toNat * ei.size))))) w := by
    intro A c hA
    unfold execOp; rw [ho]
    have hlt2 : m < (es.length : Int) := by omega
    simp [hA, e1, Instr.indexAt, asIntOf, run_underlying hd, h0, hlt2, sizeOf, typeInfo, hj, hsz]
  generalize hv : a.eval x = V at rx
  cases rx <;> simp only [elems] at hes <;> try (cases hes; done)
  case nils => cases hes; simp at hel
  case row es tok A blk off cap s f hA hl h1 hc hm hh htk =>
    cases hes
    have hA' := hA (.inl (by omega))
    subst hA'
    have hs : s = ei.size := by rw [← hsz', hl el (List.mem_of_getElem? hel)]
    subst hs
    refine .pure r (key _ _ hv) ?_
    rw [Addr.add_lit]
    have he : es.getD m.toNat [] = el := by simp [List.getD_eq_getElem?_getD, hel]
    simp only [he]
    have := Rep.ep (E := E) (cells := el) (off := 0) (blk := blk) (o := off + m.toNat * ei.size) (fun j => f m.toNat j) (fun j x hx => hm m.toNat j el x hel hx) (fun j x hx => hh m.toNat j el x hel hx)
    simpa using this
  case sl i st n b A hb hc hA =>
    have hsl : ∃ es0 : List (List AV), st + n ≤ es0.length ∧ es = (es0.drop st).take n ∧ es0.length ≤ b.cap ∧ (∀ e, e ∈ es0 → e.length = b.s) := by
      cases ho' : h i with
      | none => simp [ho'] at hes
      | some ob =>
        obtain ⟨b', hb', hrep⟩ := r.objs i _ ho'
        rw [hb] at hb'; cases hb'
        cases ob with
        | box ty0 es0 =>
          simp only [ho'] at hes
          split at hes
          · rename_i hle; cases hes
            obtain ⟨_, g1, g2, g3, _, f, g4⟩ := hrep
            exact ⟨es0, hle, rfl, g1, g2⟩
          · cases hes
        | froz es0 =>
          simp only [ho'] at hes
          split at hes
          · rename_i hle; cases hes
            obtain ⟨g1, g2, g3, f, g4⟩ := hrep
            exact ⟨es0, hle, rfl, g1, g2⟩
          · cases hes
        | tail _ s => simp [ho'] at hes
        | map k => simp [ho'] at hes
        | nocap => simp [ho'] at hes
    obtain ⟨es0, q1, rfl, q2, q3⟩ := hsl
    have hlen : ((es0.drop st).take n).length = n := by simp; omega
    rw [hlen] at hlt
    have hbs : b.s = ei.size := by rw [← hsz', q3 el (List.mem_of_mem_drop (List.mem_of_mem_take (List.mem_of_getElem? hel)))]
    refine .pure r (key A (b.cap - st) (by rw [hv, hlen])) ?_
    rw [hA (by omega), Addr.add_lit, ← hbs]
    have := Rep.bp (E := E) (idx := st + m.toNat) (off := 0) hb
    rw [Nat.add_mul] at this
    simpa [Nat.add_assoc] using this

theorem lens_res {ty : TypeId} {x : Operand} {x' : Arg} {c : Call} (r : Rel W0 E U h w) (ht : Reps E ts a.tmps.toList) (hx : compA x = some x') (ho : o.op = .call c) (hc : c.callee = .builtin .len) (hca : c.args = #[x]) (hct : c.argTypes = #[ty]) (hd : P.underlying ty = some .string)
    (hok : SO.ok id ts h (.lens x')) : Res P W0 o a E U id w (SO.val id ts h (.lens x')) h := by
  have rx := compA_rep ht hx
  obtain ⟨l, hl⟩ := hok
  rw [hl] at rx
  simp only [SO.val, hl]
  refine .pure r (v := .int .i64 (l.length : Nat)) ?_ (.int _ _)
  unfold execOp; rw [ho]
  simp [resolve, hc, hca, hct, invoke, builtin, Builtin.len_, rx.str_inv, run_underlying hd, goInt, bytes_size]

theorem lenOf_rep {X : AV} {v : Value} (hr : Rep E X v) {n : Nat} (hn : lenOf X = some n) : ∃ b c, v = .slice b n c := by
  cases hr <;> simp only [lenOf] at hn <;> try (cases hn; done)
  case nils => cases hn; exact ⟨_, _, rfl⟩
  case row => cases hn; exact ⟨_, _, rfl⟩
  case sl => cases hn; exact ⟨_, _, rfl⟩

theorem len_res {ty e : TypeId} {x : Operand} {x' : Arg} {c : Call} (r : Rel W0 E U h w) (ht : Reps E ts a.tmps.toList) (hx : compA x = some x') (ho : o.op = .call c) (hc : c.callee = .builtin .len) (hca : c.args = #[x]) (hct : c.argTypes = #[ty]) (hd : P.underlying ty = some (.slice e))
    (hok : SO.ok id ts h (.len x')) : Res P W0 o a E U id w (SO.val id ts h (.len x')) h := by
  obtain ⟨n, hn⟩ := hok
  obtain ⟨b, c', hv⟩ := lenOf_rep (compA_rep ht hx) hn
  simp only [SO.val, hn, Option.getD_some]
  refine .pure r (v := .int .i64 (n : Nat)) ?_ (.int _ _)
  unfold execOp; rw [ho]
  simp [resolve, hc, hca, hct, invoke, builtin, Builtin.len_, hv, run_underlying hd, goInt]
end
end Go.Proofs.YtgahmpfpnclefaaW.Abs
