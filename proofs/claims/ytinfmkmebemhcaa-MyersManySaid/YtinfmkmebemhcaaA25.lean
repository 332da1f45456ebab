/- A box that is never written again: its slices are rows by value. -/
import Derived.Test.YtinfmkmebemhcaaB3
namespace Go.Proofs.YtinfmkmebemhcaaW.Abs
open Go.RowKit
set_option linter.unusedVariables false
set_option linter.unusedSimpArgs false

section
variable {W0 : World} {E : Env} {U : Nat → Prop} {h : Hp} {w : World}

theorem Rel.settle (r : Rel W0 E U h w) {id : Nat} {ty : TypeId} {es : List (List AV)} (hb : h id = some (.box ty es)) : ∃ E', Ext E E' ∧ (∀ i b, E'.ι i = some b → E.ι i = some b) ∧ Rel W0 E' U (upd h id (some (.froz es))) w := by
  obtain ⟨b, hι, ⟨c0, fz, h0, hof⟩, h1, h2, hon, h3, f, h4⟩ := r.objs id _ hb
  have hle : es.length * b.s ≤ b.cap * b.s := Nat.mul_le_mul_right _ h1
  have hin : ∀ o, b.off ≤ o → o < b.off + es.length * b.s → E.M b.blk o = some (.own id) ∧ (w.cell? ⟨b.blk, o, none⟩).isSome = true := fun o q1 q2 => by
    obtain ⟨a1, a2, _⟩ := h3 (o - b.off) (by omega)
    rw [show b.off + (o - b.off) = o by omega] at a1 a2
    exact ⟨a1, a2⟩
  let E' : Env := ⟨E.ι, fun q o => if q = b.blk ∧ b.off ≤ o ∧ o < b.off + es.length * b.s then (w.cell? ⟨q, o, none⟩).map .imm else E.M q o⟩
  have hM : ∀ q o, E'.M q o = if q = b.blk ∧ b.off ≤ o ∧ o < b.off + es.length * b.s then (w.cell? ⟨q, o, none⟩).map .imm else E.M q o := fun _ _ => rfl
  have hx : Ext E E' := ⟨fun _ _ e => e, fun q o v e => by
    rw [hM]; split
    · rename_i g; obtain ⟨rfl, g1, g2⟩ := g
      rw [(hin o g1 g2).1] at e; cases e
    · exact e⟩
  refine ⟨E', hx, fun _ _ e => e, r.put id _ ⟨hx, fun q o k e hk => ⟨?_, rfl, rfl, fun _ _ _ e => e⟩, fun _ c _ _ e => ⟨c, e⟩, fun q o k _ e => ?_⟩ r.below (fun q o v e => ?_) (fun q o k e => ?_) (fun q o k e => ?_) r.ids r.low (fun y e => ?_)⟩
  · rw [hM]; split
    · rename_i g; obtain ⟨rfl, g1, g2⟩ := g
      rw [(hin o g1 g2).1] at e; cases e; exact absurd rfl hk
    · exact e
  · rw [hM] at e; split at e
    · simp only [Option.map_eq_some_iff] at e; obtain ⟨_, _, e⟩ := e; cases e
    · exact e
  · rw [hM] at e; split at e
    · simp only [Option.map_eq_some_iff] at e; obtain ⟨u, hu, e⟩ := e; cases e; exact hu
    · exact r.imm _ _ _ e
  · rw [hM] at e; split at e
    · rename_i g; obtain ⟨rfl, g1, g2⟩ := g
      exact r.lt _ _ _ (hin o g1 g2).1
    · exact r.lt _ _ _ e
  · rw [hM] at e; split at e
    · simp only [Option.map_eq_some_iff] at e; obtain ⟨_, _, e⟩ := e; cases e
    · exact r.own _ _ _ e
  · cases e
    refine ⟨b, hι, h1, h2, hon, f, fun i j e a hi hj => ?_⟩
    obtain ⟨a1, a2⟩ := h4 i j e a hi hj
    refine ⟨?_, a2.mono hx⟩
    have hi' := (List.getElem?_eq_some_iff.1 hi).1
    have hj' := (List.getElem?_eq_some_iff.1 hj).1
    have := h2 e (List.mem_of_getElem? hi)
    have h5 : (i + 1) * b.s ≤ es.length * b.s := Nat.mul_le_mul_right _ hi'
    rw [Nat.add_mul] at h5
    rw [hM, if_pos ⟨rfl, by omega, by omega⟩, a1]; rfl

theorem Rel.frozRow (r : Rel W0 E U h w) {id st n : Nat} {es : List (List AV)} (hb : h id = some (.froz es)) (hn : st + n ≤ es.length) {v : Value} (hv : Rep E (.sl id st n) v) : Rep E (.row ((es.drop st).take n) none) v := by
  obtain ⟨b, hι, h1, h2, hon, f, h4⟩ := r.objs id _ hb
  cases hv with
  | @sl _ _ _ b' A hb' hc ha =>
    rw [hι] at hb'; cases hb'
    have hl : ((es.drop st).take n).length = n := by simp; omega
    have hg : ∀ i e, ((es.drop st).take n)[i]? = some e → es[st + i]? = some e := fun i e q => by
      rw [List.getElem?_take] at q
      split at q
      · rw [List.getElem?_drop] at q; exact q
      · cases q
    have := Rep.row (E := E) (es := (es.drop st).take n) (tok := none) (A := A) (blk := b.blk) (off := b.off + st * b.s) (cap := b.cap - st) (s := b.s) (fun i j => f (st + i) j) (fun q => ha (by rcases q with q | q; omega; cases q))
      (fun e he => h2 e (List.mem_of_mem_drop (List.mem_of_mem_take he))) (fun e he => hon e (List.mem_of_mem_drop (List.mem_of_mem_take he))) (by omega)
      (fun i j e a hi hj => by
        have q := (h4 (st + i) j e a (hg i e hi) hj).1
        rw [Nat.add_mul, ← Nat.add_assoc] at q; exact q)
      (fun i j e a hi hj => (h4 (st + i) j e a (hg i e hi) hj).2) (fun t e => by cases e)
    rw [hl] at this
    exact this
end

section
variable {P : Program} {W0 : World}

theorem ACalls.settle {f : FuncId} {args : List AV} {n : Nat} {g : Hp} {R : AOut → Heap → Prop} {id : Nat} {ty : TypeId} {es : List (List AV)} (hb : g id = some (.box ty es)) (H : ACalls P W0 f args ⟨n, upd g id (some (.froz es))⟩ R) : ACalls P W0 f args ⟨n, g⟩ R :=
  ⟨H.1, fun E w vs r hv => by
    obtain ⟨E', hx, hi, r'⟩ := r.settle hb
    refine (H.2 E' w vs r' (hv.mono hx)).mono fun e w' hp => ?_
    obtain ⟨E2, σ', x1, x2, x3, x4, out, ho, hR⟩ := hp
    exact ⟨E2, σ', hx.trans x1, fun i b e => by
      rcases x2 i b e with q | q
      · exact .inl (hi i b q)
      · exact .inr q, x3, x4, out, ho, hR⟩⟩
/-- a box in sight is written no more -/
theorem HCalls.settle {f : FuncId} {args : List AV} {n : Nat} {h : Hp} {R : AOut → Heap → Prop} {id : Nat} {ty : TypeId} {es : List (List AV)} (hb : h id = some (.box ty es)) (H : HCalls P W0 f args ⟨n, upd h id (some (.froz es))⟩ R) : HCalls P W0 f args ⟨n, h⟩ R :=
  fun g h1 h2 => by
    have hg := h1 id _ hb
    refine ACalls.settle hg ((H (upd g id (some (.froz es))) (fun i x e => ?_) (fun i x e => ?_)).mono fun o σ' hn hq => ?_)
    · dsimp only at e; simp only [upd] at e ⊢; split at e
      · rename_i q; rw [if_pos q]; exact e
      · rename_i q; rw [if_neg q]; exact h1 i x e
    · simp only [upd] at e; split at e
      · rename_i q; subst q; exact h2 _ _ hg
      · exact h2 i x e
    · obtain ⟨h', a1, a2, a3, a4, a5⟩ := hq
      refine ⟨h', a1, fun i x e => ?_, a3, fun i x e1 e2 => a4 i x ?_ ?_, a5⟩
      · rcases a2 i x e with q | q
        · left; dsimp only at q ⊢; simp only [upd] at q
          split at q
          · rename_i q'; subst q'; rw [hb]; simp
          · exact q
        · exact .inr q
      · have : i ≠ id := fun q => by subst q; dsimp only at e2; rw [hb] at e2; cases e2
        rw [upd, if_neg this]; exact e1
      · have : i ≠ id := fun q => by subst q; dsimp only at e2; rw [hb] at e2; cases e2
        dsimp only; rw [upd, if_neg this]; exact e2

/-- slices of boxes that are written no more, as rows -/
def asRow (h : Hp) : AV → AV
  | .sl id st n => match h id with
    | some (.froz es) => if st + n ≤ es.length then .row ((es.drop st).take n) none else .sl id st n
    | _ => .sl id st n
  | x => x
theorem asRow_froz {h : Hp} {id st n : Nat} {es : List (List AV)} (hb : h id = some (.froz es)) (hn : st + n ≤ es.length) : asRow h (.sl id st n) = .row ((es.drop st).take n) none := by
  simp only [asRow, hb, if_pos hn]
theorem HCalls.rows {f : FuncId} {args : List AV} {n : Nat} {h : Hp} {R : AOut → Heap → Prop} (H : HCalls P W0 f (args.map (asRow h)) ⟨n, h⟩ R) : HCalls P W0 f args ⟨n, h⟩ R :=
  fun g h1 h2 => ⟨(H g h1 h2).1, fun E w vs r hv => (H g h1 h2).2 E w vs r ⟨by simpa using hv.1, fun i a v ha hu => by
    rw [List.getElem?_map, Option.map_eq_some_iff] at ha
    obtain ⟨a0, ha0, rfl⟩ := ha
    have hr := hv.2 i a0 v ha0 hu
    cases a0 <;> try exact hr
    rename_i id st m
    simp only [asRow]
    cases hq : h id with
    | none => exact hr
    | some ob =>
      cases ob <;> try exact hr
      rename_i es
      dsimp only
      split
      · rename_i hle; exact r.frozRow (h1 id _ hq) hle hr
      · exact hr⟩⟩
end
end Go.Proofs.YtinfmkmebemhcaaW.Abs
