/- Memory: new blocks, stores, appends, as steps of the abstract heap. -/
import Derived.Test.YtgahmpfpnclefaaA1
import Derived.Laws.IdiomCopy
namespace Go.Proofs.YtgahmpfpnclefaaW.Abs
open Go.RowKit
set_option linter.unusedVariables false
set_option linter.unusedSimpArgs false

def Env.add (E : Env) (id : Nat) (base : Base) (blk : Nat) (m : Nat → Option MK) : Env :=
  ⟨fun i => if i = id then some base else E.ι i, fun b o => if b = blk then m o else E.M b o⟩

section
variable {W0 : World} {E : Env} {U : Nat → Prop} {h : Nat → Option AObj} {w : World}

theorem Rel.ext_add (r : Rel W0 E U h w) {id : Nat} (hid : ¬ U id) (base : Base) (m : Nat → Option MK) : Ext E (E.add id base w.heap.size m) := by
  refine ⟨fun i b e => ?_, fun b o v e => ?_⟩
  · have : i ≠ id := fun q => hid (q ▸ r.ids i b e)
    simp [Env.add, this, e]
  · have : b ≠ w.heap.size := Nat.ne_of_lt (r.lt b o _ e)
    simp [Env.add, this, e]

theorem Rel.newObj (r : Rel W0 E U h w) {id : Nat} (hid : ¬ U id) (ob : Obj) (base : Base) (m : Nat → Option MK) (x : AObj)
    (hm1 : ∀ o v, m o = some (.imm v) → (w.alloc ob).cell? ⟨w.heap.size, o, none⟩ = some v) (hm2 : ∀ o k, m o = some (.own k) → k = id)
    (hbl : base.blk = w.heap.size) (hx : ObjRep (E.add id base w.heap.size m) (w.alloc ob) id base x) :
    Rel W0 (E.add id base w.heap.size m) (fun i => U i ∨ i = id) (upd h id (some x)) (w.alloc ob) := by
  have hlt0 : W0.heap.size ≤ w.heap.size := r.below.size
  refine r.put id (some x) ⟨r.ext_add hid base m, fun b o k e hk => ?_, fun b c t fz hh => ⟨c, ?_⟩, fun b o k hl e => ?_⟩ (r.below.alloc hlt0 _) ?_ ?_ ?_ ?_ ?_ ?_
  · have hb : b < w.heap.size := r.lt b o _ e
    have : b ≠ w.heap.size := Nat.ne_of_lt hb
    refine ⟨by simp [Env.add, this, e], World.cell?_alloc_lt _ _ _ hb, World.frozen?_alloc_old _ _ _ this, fun _ es c hh => ?_⟩
    rw [Below.heap_alloc _ _ _ hb]; exact hh
  · rw [Below.heap_alloc _ _ _ (Array.getElem?_eq_some_iff.1 hh).1]; exact hh
  · have : b ≠ w.heap.size := by omega
    simpa [Env.add, this] using e
  · intro b o v e
    by_cases hb : b = w.heap.size
    · subst hb; simp [Env.add] at e; exact hm1 o v e
    · simp [Env.add, hb] at e
      rw [World.cell?_alloc_lt _ _ _ (r.lt b o _ e)]; exact r.imm b o v e
  · intro b o k e
    by_cases hb : b = w.heap.size
    · subst hb; simp
    · simp [Env.add, hb] at e
      have := r.lt b o _ e
      simp; omega
  · intro b o k e
    by_cases hb : b = w.heap.size
    · omega
    · simp [Env.add, hb] at e
      exact r.own b o k e
  · intro i b e
    by_cases hi : i = id
    · exact Or.inr hi
    · simp [Env.add, hi] at e
      exact Or.inl (r.ids i b e)
  · intro i b e
    by_cases hi : i = id
    · simp [Env.add, hi] at e; subst e; omega
    · simp [Env.add, hi] at e; exact r.low i b e
  · intro y hy
    cases hy
    exact ⟨base, by simp [Env.add], hx⟩

theorem cells_new {w : World} {c : Array Value} {ty : TypeId} {o : Nat} : (w.alloc (.cells c ty)).cell? ⟨w.heap.size, o, none⟩ = c[o]? := World.cell?_alloc_new _ _ _ _

/-- a new box -/
theorem Rel.newBox (r : Rel W0 E U h w) {id : Nat} (hid : ¬ U id) (c : Array Value) (ty : TypeId) (s cap : Nat) (es : List (List AV)) (hs : cap * s ≤ c.size) (hc : es.length ≤ cap) (hl : ∀ e, e ∈ es → e.length = s) (h1 : ones es)
    (hr : ∀ i j e a, es[i]? = some e → e[j]? = some a → ∃ v, c[i * s + j]? = some v ∧ Rep E a v) :
    ∃ E', Ext E E' ∧ E'.ι id = some ⟨w.heap.size, 0, s, cap⟩ ∧ (∀ i b, E'.ι i = some b → E.ι i = some b ∨ i = id) ∧ Rel W0 E' (fun i => U i ∨ i = id) (upd h id (some (.box ty es))) (w.alloc (.cells c ty)) := by
  have hx := r.ext_add hid ⟨w.heap.size, 0, s, cap⟩ (fun o => if o < cap * s then some (.own id) else none)
  refine ⟨E.add id ⟨w.heap.size, 0, s, cap⟩ w.heap.size (fun o => if o < cap * s then some (.own id) else none), hx, by simp [Env.add], ?_, r.newObj hid _ _ _ _ ?_ ?_ rfl ?_⟩
  · intro i b e
    by_cases hi : i = id
    · exact Or.inr hi
    · simp [Env.add, hi] at e; exact Or.inl e
  · intro o v e; by_cases q : o < cap * s <;> simp [q] at e
  · intro o k e; by_cases q : o < cap * s <;> simp [q] at e; exact e.symm
  · refine ⟨⟨c, (0, 0), by simp [World.alloc, -World.alloc_eq], rfl⟩, hc, hl, h1, fun k hk => ⟨by dsimp only at hk ⊢; simp [Env.add, hk], ?_, World.frozen?_alloc_new _ _ _ _⟩, fun i j => c.getD (i * s + j) undef, fun i j e a hi hj => ?_⟩
    · dsimp only at hk ⊢; rw [cells_new]; simp; omega
    · obtain ⟨v, hv, hrep⟩ := hr i j e a hi hj
      have : c.getD (i * s + j) undef = v := by simp [Array.getD_eq_getD_getElem?, hv]
      dsimp only
      refine ⟨?_, by rw [this]; exact hrep.mono hx⟩
      simp only [Nat.zero_add]
      rw [cells_new, this, hv]

/-- a new row: its elements are never written again, its room is the tail's -/
theorem Rel.newRow' (r : Rel W0 E U h w) {id : Nat} (hid : ¬ U id) (c : Array Value) (ty : TypeId) (s cap : Nat) (es : List (List AV)) (hs : cap * s ≤ c.size) (hc : es.length ≤ cap) (hl : ∀ e, e ∈ es → e.length = s) (h1 : ones es)
    (hr : ∀ i j e a, es[i]? = some e → e[j]? = some a → ∃ v, c[i * s + j]? = some v ∧ Rep E a v) :
    ∃ E', Ext E E' ∧ (∀ i b, E'.ι i = some b → E.ι i = some b ∨ i = id) ∧ Rep E' (.row es (some id)) (.slice (some ⟨w.heap.size, 0, none⟩) es.length cap) ∧
      Rel W0 E' (fun i => U i ∨ i = id) (upd h id (some (.tail (some ty) s))) (w.alloc (.cells c ty)) ∧ ∀ o i, E'.M w.heap.size o = some (.own i) → o < cap * s := by
  let m : Nat → Option MK := fun o => if o < es.length * s then (c[o]?).map .imm else if o < cap * s then some (.own id) else none
  have hx := r.ext_add hid ⟨w.heap.size, es.length * s, s, cap - es.length⟩ m
  have hcell : ∀ i j e a, es[i]? = some e → e[j]? = some a → m (i * s + j) = some (.imm (c.getD (i * s + j) undef)) := by
    intro i j e a hi hj
    obtain ⟨v, hv, hrep⟩ := hr i j e a hi hj
    have hlt : i * s + j < es.length * s := by
      have hi' := (List.getElem?_eq_some_iff.1 hi).1
      have hj' := (List.getElem?_eq_some_iff.1 hj).1
      have := hl e (List.mem_of_getElem? hi)
      have h3 : (i + 1) * s ≤ es.length * s := Nat.mul_le_mul_right _ (by omega)
      rw [Nat.add_mul] at h3
      omega
    simp [m, hlt, hv, Array.getD_eq_getD_getElem?]
  refine ⟨E.add id ⟨w.heap.size, es.length * s, s, cap - es.length⟩ w.heap.size m, hx, ?_, ?_, r.newObj hid _ _ _ _ ?_ ?_ rfl ?_, fun o i e => ?_⟩
  · intro i b e
    by_cases hi : i = id
    · exact Or.inr hi
    · simp [Env.add, hi] at e; exact Or.inl e
  · refine .row (s := s) (fun i j => c.getD (i * s + j) undef) (fun _ => rfl) hl h1 hc (fun i j e a hi hj => ?_) (fun i j e a hi hj => ?_) (fun t e => ?_)
    · simpa [Env.add] using hcell i j e a hi hj
    · obtain ⟨v, hv, hrep⟩ := hr i j e a hi hj
      have : c.getD (i * s + j) undef = v := by simp [Array.getD_eq_getD_getElem?, hv]
      rw [this]; exact hrep.mono hx
    · cases e
      exact ⟨_, by simp [Env.add]; rfl, rfl, rfl, fun _ => ⟨rfl, by simp⟩⟩
  · intro o v e
    rw [cells_new]
    simp only [m] at e
    split at e
    · cases hcv : c[o]? with
      | none => simp [hcv] at e
      | some u => simp [hcv] at e; rw [e]
    · split at e <;> cases e
  · intro o k e
    simp only [m] at e
    split at e
    · cases hcv : c[o]? with
      | none => simp [hcv] at e
      | some u => simp [hcv] at e
    · split at e <;> cases e; rfl
  · refine ⟨fun t ht => ?_, rfl, fun k hk => ?_⟩
    · cases ht
      refine ⟨c, 0, 0, by simp [World.alloc, -World.alloc_eq], fun _ => Nat.zero_le _, fun o k hk => ?_⟩
      simp only [Env.add, if_true, m] at hk
      split at hk
      · cases hcv : c[o]? <;> simp [hcv] at hk
      · split at hk
        · cases hk
          have e1 : cap * s = es.length * s + (cap - es.length) * s := by rw [← Nat.add_mul]; congr 1; omega
          exact ⟨rfl, by dsimp only; omega, by dsimp only; omega⟩
        · cases hk
    have hk2 : es.length * s + k < cap * s := by
      have : cap * s = es.length * s + (cap - es.length) * s := by rw [← Nat.add_mul]; congr 1; omega
      simp only at hk; omega
    have hk3 : ¬ es.length * s + k < es.length * s := by omega
    refine ⟨?_, ?_, World.frozen?_alloc_new _ _ _ _⟩
    · simp only [Env.add, if_true, m, if_neg hk3, if_pos hk2]
    · rw [cells_new]; simp; omega
  · simp only [Env.add, if_true, m] at e
    by_cases c1 : o < es.length * s
    · rw [if_pos c1] at e
      cases hcv : c[o]? <;> simp [hcv] at e
    · rw [if_neg c1] at e
      by_cases c2 : o < cap * s
      · exact c2
      · rw [if_neg c2] at e; cases e

/-- a new row: its elements are never written again, its room is the tail's -/
theorem Rel.newRow (r : Rel W0 E U h w) {id : Nat} (hid : ¬ U id) (c : Array Value) (ty : TypeId) (s cap : Nat) (es : List (List AV)) (hs : cap * s ≤ c.size) (hc : es.length ≤ cap) (hl : ∀ e, e ∈ es → e.length = s) (h1 : ones es)
    (hr : ∀ i j e a, es[i]? = some e → e[j]? = some a → ∃ v, c[i * s + j]? = some v ∧ Rep E a v) :
    ∃ E', Ext E E' ∧ (∀ i b, E'.ι i = some b → E.ι i = some b ∨ i = id) ∧ Rep E' (.row es (some id)) (.slice (some ⟨w.heap.size, 0, none⟩) es.length cap) ∧
      Rel W0 E' (fun i => U i ∨ i = id) (upd h id (some (.tail (some ty) s))) (w.alloc (.cells c ty)) := by
  obtain ⟨E', a, b, c', d, _⟩ := r.newRow' hid c ty s cap es hs hc hl h1 hr
  exact ⟨E', a, b, c', d⟩
end

/-! stores -/
theorem setCells_heap (b : Nat) : ∀ (vs : List Value) (o : Nat) (w : World) (k : Nat), k ≠ b → (w.setCells b o vs).heap[k]? = w.heap[k]?
  | [], _, _, _, _ => rfl
  | v :: r, o, w, k, hk => by rw [World.setCells, setCells_heap b r _ _ k hk, Below.heap_setCell _ _ _ _ hk]
theorem setCells_size (b : Nat) : ∀ (vs : List Value) (o : Nat) (w : World), (w.setCells b o vs).heap.size = w.heap.size
  | [], _, _ => rfl
  | v :: r, o, w => by rw [World.setCells, setCells_size b r, World.size_setCell]
theorem setCells_below {B : Nat} {A : World} (b : Nat) (hb : B ≤ b) : ∀ (vs : List Value) (o : Nat) (w : World), Below B A w → Below B A (w.setCells b o vs)
  | [], _, _, h => h
  | v :: r, o, w, h => setCells_below b hb r _ _ (h.setCell hb v)
theorem setCell_map {w : World} {a : Addr} {v : Value} {b : Nat} {es : Array MapEntry} {c : Nat} (h : w.heap[b]? = some (.map es c)) : (w.setCell a v).heap[b]? = some (.map es c) := by
  simp only [World.setCell, Array.getElem?_modify]
  split
  · rename_i e; subst e; rw [h]; rfl
  · exact h
theorem setCell_shape {w : World} {a : Addr} {v : Value} {b : Nat} {c : Array Value} {t : TypeId} {fz : Nat × Nat} (h : w.heap[b]? = some (.cells c t fz)) : ∃ c', (w.setCell a v).heap[b]? = some (.cells c' t fz) := by
  simp only [World.setCell, Array.getElem?_modify]
  split
  · rename_i e; subst e; rw [h]; exact ⟨_, rfl⟩
  · exact ⟨c, h⟩
theorem setCells_shape (b0 : Nat) {b : Nat} {t : TypeId} {fz : Nat × Nat} : ∀ (vs : List Value) (o : Nat) (w : World) {c : Array Value}, w.heap[b]? = some (.cells c t fz) → ∃ c', (w.setCells b0 o vs).heap[b]? = some (.cells c' t fz)
  | [], _, _, c, h => ⟨c, h⟩
  | v :: r, o, w, c, h => by
    obtain ⟨c', h'⟩ := setCell_shape (a := ⟨b0, o, none⟩) (v := v) h
    exact setCells_shape b0 r _ _ h'
theorem setCells_map (b0 : Nat) {b : Nat} {es : Array MapEntry} {c : Nat} : ∀ (vs : List Value) (o : Nat) (w : World), w.heap[b]? = some (.map es c) → (w.setCells b0 o vs).heap[b]? = some (.map es c)
  | [], _, _, h => h
  | v :: r, o, w, h => setCells_map b0 r _ _ (setCell_map h)

/-- the list with cells j .. of element i written anew -/
def setAt (es : List (List AV)) (i off : Nat) (cs : List AV) : List (List AV) := es.modify i fun e => e.take off ++ cs ++ e.drop (off + cs.length)

theorem setAt_get (es : List (List AV)) (i off : Nat) (cs : List AV) (k : Nat) : (setAt es i off cs)[k]? = if i = k then (es[k]?).map (fun e => e.take off ++ cs ++ e.drop (off + cs.length)) else es[k]? := by
  unfold setAt
  rw [List.getElem?_modify]
  split <;> simp

theorem put_get {e cs : List AV} {off j : Nat} (hl : off + cs.length ≤ e.length) : (e.take off ++ cs ++ e.drop (off + cs.length))[j]? = if off ≤ j ∧ j < off + cs.length then cs[j - off]? else e[j]? := by
  have h1 : (e.take off).length = off := by simp; omega
  by_cases hj : j < off
  · rw [if_neg (by omega), List.append_assoc, List.getElem?_append_left (by omega), List.getElem?_take_of_lt hj]
  · rw [List.append_assoc, List.getElem?_append_right (by omega), h1]
    by_cases hk : j < off + cs.length
    · rw [if_pos ⟨by omega, hk⟩, List.getElem?_append_left (by omega)]
    · rw [if_neg (by omega), List.getElem?_append_right (by omega), List.getElem?_drop]
      congr 1; omega

section
variable {W0 : World} {E : Env} {U : Nat → Prop} {h : Nat → Option AObj} {w : World}

theorem Rel.write (r : Rel W0 E U h w) {id : Nat} {ty : TypeId} {es : List (List AV)} (hb : h id = some (.box ty es)) {b : Base} (hι : E.ι id = some b) {i off : Nat} {e : List AV} (hi : es[i]? = some e) {cs : List AV} {vs : List Value} (hl : off + cs.length ≤ e.length)
    (hr : Reps E cs vs) (ho : ∀ a, a ∈ cs → a.one = true) :
    (∀ j, j < vs.length → (w.cell? ⟨b.blk, b.off + i * b.s + off + j, none⟩).isSome = true) ∧ (∀ j, j < vs.length → w.frozen? ⟨b.blk, b.off + i * b.s + off + j, none⟩ = false) ∧
    Rel W0 E U (upd h id (some (.box ty (setAt es i off cs)))) (w.setCells b.blk (b.off + i * b.s + off) vs) := by
  obtain ⟨b', hb', ⟨c0, fz, h0, hof⟩, h1, h2, hon, h3, f, h4⟩ := r.objs id _ hb
  rw [hι] at hb'; cases hb'
  have he := h2 e (List.mem_of_getElem? hi)
  have hi' := (List.getElem?_eq_some_iff.1 hi).1
  have hin : ∀ j, j < vs.length → i * b.s + off + j < b.cap * b.s := by
    intro j hj
    have := hr.1
    have h3 : (i + 1) * b.s ≤ b.cap * b.s := Nat.mul_le_mul_right _ (by omega)
    rw [Nat.add_mul] at h3
    omega
  have hown : ∀ j, j < vs.length → E.M b.blk (b.off + i * b.s + off + j) = some (.own id) ∧ (w.cell? ⟨b.blk, b.off + i * b.s + off + j, none⟩).isSome = true ∧ w.frozen? ⟨b.blk, b.off + i * b.s + off + j, none⟩ = false := by
    intro j hj
    have := h3 _ (hin j hj)
    rwa [show b.off + (i * b.s + off + j) = b.off + i * b.s + off + j by omega] at this
  refine ⟨fun j hj => (hown j hj).2.1, fun j hj => (hown j hj).2.2, ?_⟩
  have hout : ∀ b' o' , (∀ j, j < vs.length → ¬ (b' = b.blk ∧ o' = b.off + i * b.s + off + j)) → (w.setCells b.blk (b.off + i * b.s + off) vs).cell? ⟨b', o', none⟩ = w.cell? ⟨b', o', none⟩ := by
    intro b' o' hn
    refine World.cell?_setCells_out _ _ _ _ _ (fun hb1 _ => ?_)
    simp only at hb1 ⊢
    rcases Nat.lt_or_ge o' (b.off + i * b.s + off) with hh | hh
    · exact Or.inl hh
    · rcases Nat.lt_or_ge o' (b.off + i * b.s + off + vs.length) with hh2 | hh2
      · exact absurd ⟨hb1, by omega⟩ (hn (o' - (b.off + i * b.s + off)) (by omega))
      · exact Or.inr hh2
  refine r.put id _ ⟨Ext.refl E, fun b' o' k hk hne => ?_, fun b' c t fz hh => setCells_shape _ _ _ _ hh, fun _ _ _ _ e => e⟩ ?_ ?_ ?_ r.own r.ids r.low ?_
  · refine ⟨hk, hout b' o' (fun j hj hh => ?_), World.frozen?_setCells _ _ _ _ _, fun _ es c hm => setCells_map _ _ _ _ hm⟩
    have := (hown j hj).1
    rw [← hh.1, ← hh.2, hk] at this
    cases this; exact hne rfl
  · by_cases hz : vs.length = 0
    · have : vs = [] := by simpa using hz
      subst this; exact r.below
    · exact setCells_below _ (r.own _ _ _ (hown 0 (by omega)).1) _ _ _ r.below
  · intro b' o' v hv
    rw [hout b' o' (fun j hj hh => ?_)]
    · exact r.imm _ _ _ hv
    · have := (hown j hj).1
      rw [← hh.1, ← hh.2, hv] at this
      cases this
  · intro b' o' k hk; rw [setCells_size]; exact r.lt _ _ _ hk
  · intro y hy
    cases hy
    refine ⟨b, hι, ?_⟩
    have hlen : (setAt es i off cs).length = es.length := by simp [setAt]
    obtain ⟨c1, hc1⟩ := setCells_shape (b.blk) vs (b.off + i * b.s + off) w h0
    refine ⟨⟨c1, fz, hc1, hof⟩, by rw [hlen]; exact h1, fun x hx => ?_, fun x hx a ha => ?_, fun k hk => ?_, fun p q => if p = i ∧ off ≤ q ∧ q < off + cs.length then vs.getD (q - off) undef else f p q, fun p q x a hp hq => ?_⟩
    · obtain ⟨p, hp⟩ := List.mem_iff_getElem?.1 hx
      rw [setAt_get] at hp
      split at hp
      · rename_i e1; subst e1; rw [hi] at hp; simp at hp; subst hp
        simp; omega
      · exact h2 x (List.mem_of_getElem? hp)
    · obtain ⟨p, hp⟩ := List.mem_iff_getElem?.1 hx
      rw [setAt_get] at hp
      split at hp
      · rename_i e1; subst e1; rw [hi] at hp; simp at hp; subst hp
        simp only [List.mem_append] at ha
        rcases ha with ha | ha | ha
        · exact hon e (List.mem_of_getElem? hi) a (List.mem_of_mem_take ha)
        · exact ho a ha
        · exact hon e (List.mem_of_getElem? hi) a (List.mem_of_mem_drop ha)
      · exact hon x (List.mem_of_getElem? hp) a ha
    · obtain ⟨c1, c2, c3⟩ := h3 k hk
      refine ⟨c1, ?_, by rw [World.frozen?_setCells]; exact c3⟩
      by_cases hn : ∃ j, j < vs.length ∧ b.off + k = b.off + i * b.s + off + j
      · obtain ⟨j, hj, ej⟩ := hn
        rw [ej, World.cell?_setCells_in _ _ _ _ (fun j hj => (hown j hj).2.1) j hj]; rfl
      · rw [hout _ _ (fun j hj hh => hn ⟨j, hj, hh.2⟩)]; exact c2
    · rw [setAt_get] at hp
      by_cases hpi : i = p
      · subst hpi
        rw [if_pos rfl, hi] at hp
        simp only [Option.map_some, Option.some.injEq] at hp
        subst hp
        rw [put_get hl] at hq
        by_cases hw : off ≤ q ∧ q < off + cs.length
        · rw [if_pos hw] at hq
          simp only [hw, true_and, and_self, if_true]
          obtain ⟨v, hv, hrep⟩ := hr.get hq
          have hq' := (List.getElem?_eq_some_iff.1 hv).1
          have hg : vs.getD (q - off) undef = v := by rw [List.getD_eq_getElem?_getD, hv]; rfl
          rw [hg]
          refine ⟨?_, hrep⟩
          rw [show b.off + i * b.s + q = b.off + i * b.s + off + (q - off) by omega, World.cell?_setCells_in _ _ _ _ (fun j hj => (hown j hj).2.1) _ hq']
          exact (List.getElem?_eq_some_iff.1 hv).2 ▸ rfl
        · rw [if_neg hw] at hq
          simp only [hw, and_false, if_false]
          obtain ⟨c1, c2⟩ := h4 i q e a hi hq
          refine ⟨?_, c2⟩
          rw [hout _ _ (fun j hj hh => hw ?_)]
          · exact c1
          · have := hr.1; omega
      · rw [if_neg hpi] at hp
        have hpi' : ¬ (p = i ∧ off ≤ q ∧ q < off + cs.length) := fun hh => hpi hh.1.symm
        simp only [if_neg hpi']
        obtain ⟨c1, c2⟩ := h4 p q x a hp hq
        refine ⟨?_, c2⟩
        rw [hout _ _ (fun j hj hh => ?_)]
        · exact c1
        · have hq' := (List.getElem?_eq_some_iff.1 hq).1
          have hx := h2 x (List.mem_of_getElem? hp)
          have hj' := hr.1
          have hh2 := hh.2
          rcases Nat.lt_or_gt_of_ne hpi with hlt | hgt
          · have : (i + 1) * b.s ≤ p * b.s := Nat.mul_le_mul_right _ hlt
            rw [Nat.add_mul] at this; omega
          · have : (p + 1) * b.s ≤ i * b.s := Nat.mul_le_mul_right _ hgt
            rw [Nat.add_mul] at this; omega
end

end Go.Proofs.YtgahmpfpnclefaaW.Abs
