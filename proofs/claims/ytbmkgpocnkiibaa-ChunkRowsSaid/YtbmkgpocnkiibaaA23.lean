/- Lists that came in. -/
import Derived.Test.YtbmkgpocnkiibaaA21
import Derived.Test.YtbmkgpocnkiibaaA22
namespace Go.Proofs.YtbmkgpocnkiibaaW.Abs
open Go.RowKit
set_option linter.unusedVariables false
set_option linter.unusedSimpArgs false

section
variable {W : World} {P : Program} {H : Type} {enc : TypeId × Value → H}

/-- a list parameter, element by element -/
theorem inList {α : Type} (en : α → List AV) {t e : TypeId} (ht : P.underlying t = some (.slice e)) (hs : 0 < P.cellsOf e) {fuel : Nat} {cs : List Value} {d : DataW H} {ps : List MemPlace} (h : DataW.trod enc P W 0 (fun _ => true) true fuel t cs = some (d, ps))
    {Q : α → DataW H → Prop} (hE : ∀ n, n < fuel → ∀ (cs : List Value) (d : DataW H) (ps : List MemPlace), DataW.trod enc P W 0 (fun _ => true) true n e cs = some (d, ps) → ∃ x : α, Reps (inE W) (en x) cs ∧ (en x).all AV.one = true ∧ Q x d) :
    ∃ (l : List α) (A : AV), Reps (inE W) [A] cs ∧ IsRow A (l.map en) ∧ ((l = [] ∧ d = .nil) ∨ ∃ elems rest, d = .slice elems rest ∧ elems.length = l.length ∧ ∀ (i : Nat) (x : α), l[i]? = some x → ∃ di, elems[i]? = some di ∧ Q x di) := by
  rcases inSlice ht hs h (Q := fun x di => ∃ y : α, x = en y ∧ Q y di) (fun m hm cs d ps hh => by
      obtain ⟨y, hy, h1, hok⟩ := hE m hm cs d ps hh
      exact ⟨en y, hy, h1, y, rfl, hok⟩) with ⟨e2, rfl⟩ | ⟨a, cap, elems, rest, es, e2, rfl, hlen, hrow, hel⟩
  · subst e2
    exact ⟨[], .nils, .cons .nils .nil, IsRow.nils, .inl ⟨rfl, rfl⟩⟩
  · subst e2
    obtain ⟨ys, hyl, hys⟩ := list_of (R := fun i (y : α) => ∃ di, es[i]? = some (en y) ∧ elems[i]? = some di ∧ Q y di) es.length (fun i hi => by
      obtain ⟨di, hdi, y, hy, hok⟩ := hel i es[i] (List.getElem?_eq_getElem hi)
      exact ⟨y, di, by rw [List.getElem?_eq_getElem hi, hy], hdi, hok⟩)
    have hes : es = ys.map en := by
      apply List.ext_getElem?
      intro i
      rw [List.getElem?_map]
      rcases Nat.lt_or_ge i ys.length with hi | hi
      · obtain ⟨di, h1, _, _⟩ := hys i ys[i] (List.getElem?_eq_getElem hi)
        rw [h1, List.getElem?_eq_getElem hi]; rfl
      · rw [List.getElem?_eq_none hi, List.getElem?_eq_none (by omega)]; rfl
    refine ⟨ys, .row es none, .cons hrow .nil, ?_, .inr ⟨elems, rest, rfl, by omega, fun i x hi => ?_⟩⟩
    · rw [hes]; exact IsRow.row _
    · obtain ⟨di, _, h2, h3⟩ := hys i x hi
      exact ⟨di, h2, h3⟩
theorem list_weight {t e : TypeId} (ht : P.underlying t = some (.slice e)) {elems rest : List (DataW H)} (h : ∀ n ∈ DataW.weights P t (.slice elems rest : DataW H), n ≤ reachBytes) : elems.length * P.bytesOf e ≤ 140737488351232 := by
  have := h ((elems.length + rest.length) * P.bytesOf e) (by simp [DataW.weights, ht])
  simp [reachBytes] at this
  have h2 : elems.length * P.bytesOf e ≤ (elems.length + rest.length) * P.bytesOf e := Nat.mul_le_mul_right _ (by omega)
  omega
theorem elem_weight {t e : TypeId} (ht : P.underlying t = some (.slice e)) {elems rest : List (DataW H)} {i : Nat} {di : DataW H} (hi : elems[i]? = some di) {n : Nat} (hn : n ∈ DataW.weights P e di) : n ∈ DataW.weights P t (.slice elems rest : DataW H) := by
  have hall : ∀ (l : List (DataW H)) (i : Nat), l[i]? = some di → n ∈ DataW.weightsAll P e l := by
    intro l
    induction l with
    | nil => intro i h; simp at h
    | cons x r ihr =>
      intro i h
      cases i with
      | zero => simp at h; subst h; simp [DataW.weightsAll, hn]
      | succ j => simp [DataW.weightsAll, ihr j (by simpa using h)]
  simp [DataW.weights, ht, hall elems i hi]

/-- numbers that came in -/
theorem inInts {t e : TypeId} (ht : P.underlying t = some (.slice e)) (he : P.underlying e = some (.int .i64)) (hc : P.cellsOf e = 1) (hb : P.bytesOf e = 8) {fuel : Nat} {cs : List Value} {d : DataW H} {ps : List MemPlace} (h : DataW.trod enc P W 0 (fun _ => true) true fuel t cs = some (d, ps)) :
    ∃ (l : List Int) (A : AV), Reps (inE W) [A] cs ∧ IsRow A (ints l) ∧ (∀ x ∈ l, (Lit.int .i64 x).wf = true) ∧ ((l = [] ∧ d = .nil) ∨ ∃ elems rest, d = .slice elems rest ∧ elems.length = l.length) := by
  obtain ⟨l, A, h1, h2, h3⟩ := inList (fun n : Int => [AV.int .i64 n]) ht (by omega) h (Q := fun x _ => (Lit.int .i64 x).wf = true) (fun n _ cs d ps hh => by
    obtain ⟨x, rfl, _, hw⟩ := inInt he hh
    exact ⟨x, .cons (.int _ _) .nil, rfl, hw⟩)
  refine ⟨l, A, h1, h2, fun x hx => ?_, ?_⟩
  · rcases h3 with ⟨rfl, _⟩ | ⟨_, _, _, _, h5⟩
    · cases hx
    · obtain ⟨i, hi⟩ := List.mem_iff_getElem?.1 hx
      obtain ⟨_, _, hq⟩ := h5 i x hi; exact hq
  · rcases h3 with h3 | ⟨el, re, h4, h5, _⟩
    · exact .inl h3
    · exact .inr ⟨el, re, h4, h5⟩
/-- pairs of numbers that came in -/
theorem inPrs {t a e : TypeId} (ht : P.underlying t = some (.slice a)) (ha : P.underlying a = some (.array 2 e)) (he : P.underlying e = some (.int .i64)) (hc : P.cellsOf e = 1) (hca : P.cellsOf a = 2) {fuel : Nat} {cs : List Value} {d : DataW H} {ps : List MemPlace} (h : DataW.trod enc P W 0 (fun _ => true) true fuel t cs = some (d, ps)) :
    ∃ (l : List (Int × Int)) (A : AV), Reps (inE W) [A] cs ∧ IsRow A (prs l) ∧ (∀ x ∈ l, (Lit.int .i64 x.1).wf = true ∧ (Lit.int .i64 x.2).wf = true) ∧ ((l = [] ∧ d = .nil) ∨ ∃ elems rest, d = .slice elems rest ∧ elems.length = l.length) := by
  obtain ⟨l, A, h1, h2, h3⟩ := inList (fun p : Int × Int => [AV.int .i64 p.1, AV.int .i64 p.2]) ht (by omega) h (Q := fun x _ => (Lit.int .i64 x.1).wf = true ∧ (Lit.int .i64 x.2).wf = true) (fun n _ cs d ps hh => by
    obtain ⟨xs, m, _, hx, hl, hlen, hf⟩ := DataW.trod_array ha hh
    rw [hca] at hl
    match cs, hl with
    | [c0, c1], _ =>
      match xs, hlen with
      | [y0, y1], _ =>
        have q0 := hf 0 (by omega)
        have q1 := hf 1 (by omega)
        simp [hc] at q0 q1
        obtain ⟨x0, e0, _, w0⟩ := inInt he q0
        obtain ⟨x1, e1, _, w1⟩ := inInt he q1
        cases e0; cases e1
        exact ⟨(x0, x1), .cons (.int _ _) (.cons (.int _ _) .nil), rfl, w0, w1⟩)
  refine ⟨l, A, h1, h2, fun x hx => ?_, ?_⟩
  · rcases h3 with ⟨rfl, _⟩ | ⟨_, _, _, _, h5⟩
    · cases hx
    · obtain ⟨i, hi⟩ := List.mem_iff_getElem?.1 hx
      obtain ⟨_, _, hq⟩ := h5 i x hi; exact hq
  · rcases h3 with h3 | ⟨el, re, h4, h5, _⟩
    · exact .inl h3
    · exact .inr ⟨el, re, h4, h5⟩
end
end Go.Proofs.YtbmkgpocnkiibaaW.Abs
