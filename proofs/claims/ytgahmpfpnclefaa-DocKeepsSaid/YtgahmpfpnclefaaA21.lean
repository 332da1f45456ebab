/- What came in, as light values: every cell of the world at the start is one that is never written again. -/
import Derived.Test.YtgahmpfpnclefaaA19
import Derived.Deep.Strs
import Derived.OpenShut
namespace Go.Proofs.YtgahmpfpnclefaaW.Abs
open Go.RowKit
set_option linter.unusedVariables false

def inE (W : World) : Env := ⟨fun _ => none, fun b o => (W.cell? ⟨b, o, none⟩).map .imm⟩
theorem inRel (W : World) : Rel W (inE W) (fun i => i < 0) (fun _ => none) W := by
  refine ⟨Below.refl _ _, fun b o v e => ?_, fun b o k e => ?_, fun b o id e => ?_, fun i b e => ?_, fun i x e => ?_, fun i b e => ?_⟩
  · simp only [inE, Option.map_eq_some_iff] at e
    obtain ⟨u, hu, hv⟩ := e
    cases hv; exact hu
  · simp only [inE, Option.map_eq_some_iff] at e
    obtain ⟨u, hu, _⟩ := e
    exact World.block_lt_of_cell? _ _ hu
  · simp only [inE, Option.map_eq_some_iff] at e
    obtain ⟨u, hu, hv⟩ := e
    cases hv
  · cases e
  · cases e
  · cases e

theorem list_of {α : Type} {R : Nat → α → Prop} : ∀ n, (∀ i, i < n → ∃ x, R i x) → ∃ l : List α, l.length = n ∧ ∀ i x, l[i]? = some x → R i x
  | 0, _ => ⟨[], rfl, fun i x h => by simp at h⟩
  | n + 1, h => by
    obtain ⟨l, hl, hr⟩ := list_of n (fun i hi => h i (by omega))
    obtain ⟨x, hx⟩ := h n (by omega)
    refine ⟨l ++ [x], by simp [hl], fun i y hy => ?_⟩
    rcases Nat.lt_or_ge i l.length with h1 | h1
    · rw [List.getElem?_append_left h1] at hy; exact hr i y hy
    · rw [List.getElem?_append_right h1] at hy
      have : i - l.length = 0 := by
        rcases Nat.eq_zero_or_pos (i - l.length) with h0 | h0
        · exact h0
        · rw [List.getElem?_eq_none (by simp; omega)] at hy; cases hy
      rw [this] at hy; simp at hy; subst hy
      have : i = n := by omega
      subst this; exact hx

section
variable {W : World} {P : Program} {H : Type} {enc : TypeId × Value → H}

/-- a row of elements each of which reads -/
theorem inRow {es : List (List AV)} {a : Addr} {cap s : Nat} (hs : 0 < s) (h1 : ones es) (hc : es.length ≤ cap) (hsp : 0 < cap → ∃ v, W.cell? a = some v)
    (h : ∀ i e, es[i]? = some e → ∃ cs, W.cells? 0 (a.add (i * s)) s = some cs ∧ Reps (inE W) e cs) : Rep (inE W) (.row es none) (.slice (some a) es.length cap) := by
  have hspot : 0 < cap → a = ⟨a.block, a.off, none⟩ := by
    intro hp
    obtain ⟨v, hv⟩ := hsp hp
    unfold World.cell? at hv
    obtain ⟨blk, off, spot⟩ := a
    cases spot with
    | none => rfl
    | some q =>
      dsimp only at hv
      split at hv <;> simp at hv
  have hcell : ∀ i e, es[i]? = some e → e.length = s ∧ ∀ j x, e[j]? = some x → ∃ v, W.cell? ⟨a.block, a.off + i * s + j, none⟩ = some v ∧ Rep (inE W) x v := by
    intro i e hi
    obtain ⟨cs, hcs, hr⟩ := h i e hi
    have hlt := (List.getElem?_eq_some_iff.1 hi).1
    have ha := hspot (by omega)
    obtain ⟨_, hl, hg⟩ := World.cells?_some hcs
    refine ⟨by rw [hr.1, hl], fun j x hx => ?_⟩
    obtain ⟨v, hv, hrep⟩ := hr.get hx
    have hj : j < s := by rw [← hl]; exact (List.getElem?_eq_some_iff.1 hv).1
    refine ⟨v, ?_, hrep⟩
    have := hg j hj
    rw [ha] at this
    rw [hv] at this
    rw [← this]
    congr 1
    rw [Addr.add_lit, Addr.add_lit]
  refine .row (s := s) (A := a) (fun i j => (W.cell? ⟨a.block, a.off + i * s + j, none⟩).getD undef) (fun hh => hspot (hh.elim id (fun q => by cases q))) (fun e he => ?_) h1 hc (fun i j e x hi hj => ?_) (fun i j e x hi hj => ?_) (fun t e => by cases e)
  · obtain ⟨i, hi⟩ := List.mem_iff_getElem?.1 he
    exact (hcell i e hi).1
  · obtain ⟨v, hv, _⟩ := (hcell i e hi).2 j x hj
    simp [inE, hv]
  · obtain ⟨v, hv, hr⟩ := (hcell i e hi).2 j x hj
    rw [hv]; exact hr

/-- a slice whose elements read -/
theorem inSlice {t e : TypeId} (ht : P.underlying t = some (.slice e)) (hs : 0 < P.cellsOf e) {fuel : Nat} {cs : List Value} {d : DataW H} {ps : List MemPlace} (h : DataW.trod enc P W 0 (fun _ => true) true fuel t cs = some (d, ps))
    {Q : List AV → DataW H → Prop} (hE : ∀ n, n < fuel → ∀ (cs : List Value) (d : DataW H) (ps : List MemPlace), DataW.trod enc P W 0 (fun _ => true) true n e cs = some (d, ps) → ∃ x, Reps (inE W) x cs ∧ x.all AV.one = true ∧ Q x d) :
    (cs = [.slice none 0 0] ∧ d = .nil) ∨ ∃ (a : Addr) (cap : Nat) (elems rest : List (DataW H)) (es : List (List AV)), cs = [.slice (some a) es.length cap] ∧ d = .slice elems rest ∧ elems.length = es.length ∧ Rep (inE W) (.row es none) (.slice (some a) es.length cap) ∧
      ∀ (i : Nat) (x : List AV), es[i]? = some x → ∃ di, elems[i]? = some di ∧ Q x di := by
  rcases DataW.trod_slice ht h with ⟨h1, h2⟩ | ⟨a, len, cap, elems, rest, n, rfl, rfl, hx, hb, hl, hm, hlen, hel, hsp, _⟩
  · cases h2; exact .inl ⟨h1, rfl⟩
  right
  cases hx
  obtain ⟨es, he1, he2⟩ := list_of (R := fun i x => ∃ cs y, W.cells? 0 (a.add (i * P.cellsOf e)) (P.cellsOf e) = some cs ∧ elems[i]? = some y ∧ Reps (inE W) x cs ∧ x.all AV.one = true ∧ Q x y.1) len (fun i hi => by
    have := hel i hi
    have hy : i < elems.length := by omega
    rw [List.getElem?_eq_getElem hy, Option.bind_eq_some_iff] at this
    obtain ⟨cs, h1, h2⟩ := this
    obtain ⟨x, hx1, hx2, hx3⟩ := hE n (by omega) cs elems[i].1 elems[i].2 h2
    exact ⟨x, cs, elems[i], h1, List.getElem?_eq_getElem hy, hx1, hx2, hx3⟩)
  have hfirst : 0 < cap → ∃ v, W.cell? a = some v := by
    intro hp
    have key : ∀ cs, W.cells? 0 a (P.cellsOf e) = some cs → ∃ v, W.cell? a = some v := by
      intro cs hcs
      obtain ⟨_, hl, hg⟩ := World.cells?_some hcs
      have := hg 0 hs
      simp only [Addr.add, if_true] at this
      rw [this]
      exact ⟨cs[0]'(by omega), List.getElem?_eq_getElem (by omega)⟩
    rcases Nat.eq_zero_or_pos len with h0 | h0
    · obtain ⟨hr, hj⟩ := hsp rfl
      have := hj 0 (by omega)
      have hy : 0 < rest.length := by omega
      rw [List.getElem?_eq_getElem hy, Option.bind_eq_some_iff] at this
      obtain ⟨cs, h1, _⟩ := this
      rw [h0] at h1
      simp only [Nat.zero_add, Nat.zero_mul, Addr.add, if_true] at h1
      exact key cs h1
    · have := hel 0 h0
      have hy : 0 < elems.length := by omega
      rw [List.getElem?_eq_getElem hy, Option.bind_eq_some_iff] at this
      obtain ⟨cs, h1, _⟩ := this
      simp only [Nat.zero_mul, Addr.add, if_true] at h1
      exact key cs h1
  refine ⟨a, cap, elems.map (·.1), rest.map (·.1), es, by rw [he1], rfl, by simp [hlen, he1], ?_, fun i x hi => ?_⟩
  · refine inRow (s := P.cellsOf e) hs (fun x hx y hy => ?_) (by omega) hfirst (fun i x hi => ?_)
    · obtain ⟨i, hi⟩ := List.mem_iff_getElem?.1 hx
      obtain ⟨cs, y', _, _, _, q, _⟩ := he2 i x hi
      exact List.all_eq_true.1 q y hy
    · obtain ⟨cs, y', q1, _, q2, _⟩ := he2 i x hi
      exact ⟨cs, q1, q2⟩
  · obtain ⟨cs, y', _, q1, _, _, q2⟩ := he2 i x hi
    exact ⟨y'.1, by simp [q1], q2⟩

theorem inInt {t : TypeId} {k : IntKind} (ht : P.underlying t = some (.int k)) {fuel : Nat} {cs : List Value} {d : DataW H} {ps : List MemPlace} (h : DataW.trod enc P W 0 (fun _ => true) true fuel t cs = some (d, ps)) :
    ∃ n, cs = [.int k n] ∧ d = .lit (.int k n) ∧ (Lit.int k n).wf = true := by
  cases fuel with
  | zero => simp [DataW.trod] at h
  | succ m =>
    unfold DataW.trod at h
    rw [ht] at h
    split at h <;> simp_all
theorem inString {t : TypeId} (ht : P.underlying t = some .string) {fuel : Nat} {cs : List Value} {d : DataW H} {ps : List MemPlace} (h : DataW.trod enc P W 0 (fun _ => true) true fuel t cs = some (d, ps)) :
    ∃ l : List UInt8, cs = [.string (bytes l)] ∧ d = .lit (.string l) := by
  cases fuel with
  | zero => simp [DataW.trod] at h
  | succ m =>
    unfold DataW.trod at h
    rw [ht] at h
    split at h <;> simp_all
    rename_i s
    refine ⟨s.1.toList, by simp [bytes], ?_⟩
    first | exact h.2.1.symm | exact h.2.symm | exact h.1.symm | simp_all
theorem inBool {t : TypeId} (ht : P.underlying t = some .bool) {fuel : Nat} {cs : List Value} {d : DataW H} {ps : List MemPlace} (h : DataW.trod enc P W 0 (fun _ => true) true fuel t cs = some (d, ps)) :
    ∃ b, cs = [.bool b] ∧ d = .lit (.bool b) := by
  cases fuel with
  | zero => simp [DataW.trod] at h
  | succ m =>
    unfold DataW.trod at h
    rw [ht] at h
    split at h <;> simp_all
end

/-- a contract from the world at the start, as the row asks it -/
theorem ACalls.join {P : Program} {W : World} {f : FuncId} {args : List AV} (h : ACalls P W f args ⟨0, fun _ => none⟩ fun o _ => o = .ret (.bool true)) {vs : Array Value} (hv : Reps (inE W) args vs.toList) :
    Calls P f vs W fun e w' => e = .returned (.bool true) ∧ Below W.heap.size W w' := by
  refine (h.2 (inE W) W vs (inRel W) hv).mono ?_
  rintro e w' ⟨E', σ', _, _, _, hrel, out, ho, rfl⟩
  refine ⟨?_, hrel.below⟩
  cases e <;> simp only [OutR] at ho
  rw [ho.bool_inv]
end Go.Proofs.YtgahmpfpnclefaaW.Abs
