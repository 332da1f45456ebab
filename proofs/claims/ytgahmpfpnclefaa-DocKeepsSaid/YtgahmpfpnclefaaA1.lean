/- Abstract values and memory: what a value of the model says, told by value where memory is never written again, by a numbered object where it is. -/
import Derived.WalkKit
namespace Go.Proofs.YtgahmpfpnclefaaW.Abs
open Go.RowKit
set_option linter.unusedVariables false

/-- a value, told without memory -/
inductive AV where
  | int (k : IntKind) (n : Int)
  | bool (b : Bool)
  | str (l : List UInt8)
  | undef
  | nilp | nils | nilm | nilf | nili
  | agg (cs : List AV)
  | tup (cs : List AV)
  | row (es : List (List AV)) (tok : Option Nat)
  | ep (cells : List AV) (off : Nat)
  | dp (es : List (List AV)) (tok : Option Nat)
  | bp (id idx off : Nat)
  | sl (id start len : Nat)
  | fn (f : Fn) (first caps : List AV)
  | mp (id : Nat)
  | ifc (t : TypeId) (v : AV)

instance : Inhabited AV := ⟨.undef⟩

structure Base where
  blk : Nat
  off : Nat
  s : Nat
  cap : Nat

inductive MK where
  | imm (v : Value)
  | own (id : Nat)

structure Env where
  ι : Nat → Option Base
  M : Nat → Nat → Option MK

def bytes (l : List UInt8) : ByteArray := ⟨l.toArray⟩

/-- a value of one cell -/
def AV.one : AV → Bool
  | .agg _ | .tup _ | .undef => false
  | _ => true
def AV.cells : AV → List AV
  | .agg cs => cs
  | v => [v]
def ones (es : List (List AV)) : Prop := ∀ e, e ∈ es → ∀ a, a ∈ e → a.one = true

inductive Rep (E : Env) : AV → Value → Prop
  | int (k n) : Rep E (.int k n) (.int k n)
  | bool (b) : Rep E (.bool b) (.bool b)
  | str (l) : Rep E (.str l) (.string (bytes l))
  | undef : Rep E .undef undef
  | nilp : Rep E .nilp (.pointer none)
  | nils : Rep E .nils (.slice none 0 0)
  | nilm : Rep E .nilm (.map none)
  | nilf : Rep E .nilf .nilFunc
  | nili : Rep E .nili .nilIface
  | agg {cs : List AV} {vs : Array Value} (hs : cs.length = vs.size) (h : ∀ (i : Nat) (a : AV) (v : Value), cs[i]? = some a → vs[i]? = some v → Rep E a v) : Rep E (.agg cs) (.agg vs)
  | tup {cs : List AV} {vs : Array Value} (hs : cs.length = vs.size) (h : ∀ (i : Nat) (a : AV) (v : Value), cs[i]? = some a → vs[i]? = some v → Rep E a v) : Rep E (.tup cs) (.tuple vs)
  | row {es : List (List AV)} {tok : Option Nat} {A : Addr} {blk off cap s : Nat} (f : Nat → Nat → Value) (hA : 0 < cap ∨ tok.isSome = true → A = ⟨blk, off, none⟩) (hl : ∀ e, e ∈ es → e.length = s) (h1 : ones es) (hc : es.length ≤ cap)
      (hm : ∀ (i j : Nat) (e : List AV) (a : AV), es[i]? = some e → e[j]? = some a → E.M blk (off + i * s + j) = some (.imm (f i j)))
      (h : ∀ (i j : Nat) (e : List AV) (a : AV), es[i]? = some e → e[j]? = some a → Rep E a (f i j))
      (ht : ∀ t, tok = some t → ∃ b, E.ι t = some b ∧ b.s = s ∧ b.cap = cap - es.length ∧ (0 < b.cap ∨ es ≠ [] → b.blk = blk ∧ b.off = off + es.length * s)) :
      Rep E (.row es tok) (.slice (some A) es.length cap)
  | ep {cells : List AV} {off blk o : Nat} (f : Nat → Value) (hm : ∀ (j : Nat) (a : AV), cells[j]? = some a → E.M blk (o + j) = some (.imm (f j)))
      (h : ∀ (j : Nat) (a : AV), cells[j]? = some a → Rep E a (f j)) : Rep E (.ep cells off) (.pointer (some ⟨blk, o + off, none⟩))
  | dp {es : List (List AV)} {tok : Option Nat} {A : Addr} {cap : Nat} (hne : es ≠ []) (h : Rep E (.row es tok) (.slice (some A) es.length cap)) : Rep E (.dp es tok) (.pointer (some A))
  | bp {id idx off : Nat} {b : Base} (hb : E.ι id = some b) : Rep E (.bp id idx off) (.pointer (some ⟨b.blk, b.off + idx * b.s + off, none⟩))
  | sl {id start len : Nat} {b : Base} {a : Addr} (hb : E.ι id = some b) (hc : start + len ≤ b.cap) (ha : start < b.cap → a = ⟨b.blk, b.off + start * b.s, none⟩) : Rep E (.sl id start len) (.slice (some a) len (b.cap - start))
  | fn {f : Fn} {first caps : List AV} {vs ws : Array Value} (hs : first.length = vs.size) (ht : caps.length = ws.size)
      (h : ∀ (i : Nat) (a : AV) (v : Value), first[i]? = some a → vs[i]? = some v → Rep E a v) (k : ∀ (i : Nat) (a : AV) (v : Value), caps[i]? = some a → ws[i]? = some v → Rep E a v) : Rep E (.fn f first caps) (.func f vs ws)
  | mp {id : Nat} {b : Base} (hb : E.ι id = some b) : Rep E (.mp id) (.map (some b.blk))
  | ifc {t : TypeId} {a : AV} {v : Value} (h : Rep E a v) : Rep E (.ifc t a) (.iface t v)

/-- more is known -/
structure Ext (E E' : Env) : Prop where
  ids : ∀ id b, E.ι id = some b → E'.ι id = some b
  imm : ∀ b o v, E.M b o = some (.imm v) → E'.M b o = some (.imm v)

theorem Ext.refl (E : Env) : Ext E E := ⟨fun _ _ h => h, fun _ _ _ h => h⟩
theorem Ext.trans {A B C : Env} (h : Ext A B) (k : Ext B C) : Ext A C := ⟨fun i b e => k.ids i b (h.ids i b e), fun b o v e => k.imm b o v (h.imm b o v e)⟩

theorem Rep.mono {E E' : Env} (x : Ext E E') {a : AV} {v : Value} (h : Rep E a v) : Rep E' a v := by
  induction h with
  | int k n => exact .int k n
  | bool b => exact .bool b
  | str l => exact .str l
  | undef => exact .undef
  | nilp => exact .nilp
  | nils => exact .nils
  | nilm => exact .nilm
  | nilf => exact .nilf
  | nili => exact .nili
  | agg hs _ ih => exact .agg hs ih
  | tup hs _ ih => exact .tup hs ih
  | row f hA hl h1 hc hm _ ht ih => exact .row f hA hl h1 hc (fun i j e a h1 h2 => x.imm _ _ _ (hm i j e a h1 h2)) ih (fun t e => by obtain ⟨b, h1, h2⟩ := ht t e; exact ⟨b, x.ids _ _ h1, h2⟩)
  | ep f hm _ ih => exact .ep f (fun j a h => x.imm _ _ _ (hm j a h)) ih
  | dp hne _ ih => exact .dp hne ih
  | bp hb => exact .bp (x.ids _ _ hb)
  | sl hb hc ha => exact .sl (x.ids _ _ hb) hc ha
  | fn hs ht _ _ ih ik => exact .fn hs ht ih ik
  | mp hb => exact .mp (x.ids _ _ hb)
  | ifc _ ih => exact .ifc ih


theorem Rep.one {E : Env} {a : AV} {v : Value} (h : Rep E a v) (ha : a.one = true) : v.oneCell' = true := by
  cases h <;> first | rfl | (simp [AV.one] at ha)

/-- a list of values -/
def Reps (E : Env) (as : List AV) (vs : List Value) : Prop := as.length = vs.length ∧ ∀ (i : Nat) (a : AV) (v : Value), as[i]? = some a → vs[i]? = some v → Rep E a v

theorem Reps.mono {E E' : Env} (x : Ext E E') {as : List AV} {vs : List Value} (h : Reps E as vs) : Reps E' as vs := ⟨h.1, fun i a v ha hv => (h.2 i a v ha hv).mono x⟩
theorem Reps.nil {E : Env} : Reps E [] [] := ⟨rfl, fun i a v h => by simp at h⟩
theorem Reps.cons {E : Env} {a : AV} {v : Value} {as : List AV} {vs : List Value} (h : Rep E a v) (k : Reps E as vs) : Reps E (a :: as) (v :: vs) :=
  ⟨by simp [k.1], fun i b u hb hu => by
    cases i with
    | zero => simp at hb hu; subst hb; subst hu; exact h
    | succ i => exact k.2 i b u (by simpa using hb) (by simpa using hu)⟩
theorem Reps.append {E : Env} {as bs : List AV} {vs us : List Value} (h : Reps E as vs) (k : Reps E bs us) : Reps E (as ++ bs) (vs ++ us) := by
  refine ⟨by simp [h.1, k.1], fun i a v ha hv => ?_⟩
  rcases Nat.lt_or_ge i as.length with hi | hi
  · rw [List.getElem?_append_left hi] at ha
    rw [List.getElem?_append_left (h.1 ▸ hi)] at hv
    exact h.2 i a v ha hv
  · rw [List.getElem?_append_right hi] at ha
    rw [List.getElem?_append_right (h.1 ▸ hi), ← h.1] at hv
    exact k.2 _ a v ha hv
theorem Reps.get {E : Env} {as : List AV} {vs : List Value} (h : Reps E as vs) {i : Nat} {a : AV} (ha : as[i]? = some a) : ∃ v, vs[i]? = some v ∧ Rep E a v := by
  have hi : i < vs.length := h.1 ▸ (List.getElem?_eq_some_iff.1 ha).1
  exact ⟨vs[i], List.getElem?_eq_getElem hi, h.2 i a _ ha (List.getElem?_eq_getElem hi)⟩
theorem Reps.cells {E : Env} {a : AV} {v : Value} (h : Rep E a v) : Reps E a.cells v.cells.toList := by
  cases h with
  | agg hs h => exact ⟨by simpa [AV.cells, Value.cells] using hs, fun i a v ha hv => h i a v ha (by simpa [Value.cells] using hv)⟩
  | int k n => exact .cons (.int k n) .nil
  | bool b => exact .cons (.bool b) .nil
  | str l => exact .cons (.str l) .nil
  | undef => exact .cons .undef .nil
  | nilp => exact .cons .nilp .nil
  | nils => exact .cons .nils .nil
  | nilm => exact .cons .nilm .nil
  | nilf => exact .cons .nilf .nil
  | nili => exact .cons .nili .nil
  | tup hs h => exact .cons (.tup hs h) .nil
  | row f hA hl h1 hc hm h ht => exact .cons (.row f hA hl h1 hc hm h ht) .nil
  | ep f hm h => exact .cons (.ep f hm h) .nil
  | dp hne h => exact .cons (.dp hne h) .nil
  | bp hb => exact .cons (.bp hb) .nil
  | sl hb hc ha => exact .cons (.sl hb hc ha) .nil
  | fn hs ht h k => exact .cons (.fn hs ht h k) .nil
  | mp hb => exact .cons (.mp hb) .nil
  | ifc h => exact .cons (.ifc h) .nil
theorem Reps.set {E : Env} {as : List AV} {vs : List Value} (h : Reps E as vs) {a : AV} {v : Value} (hr : Rep E a v) (d : Nat) : Reps E (as.set d a) (vs.set d v) := by
  refine ⟨by simp [h.1], fun i b u hb hu => ?_⟩
  by_cases e : d = i
  · subst e
    have hi : d < as.length := by have := (List.getElem?_eq_some_iff.1 hb).1; simpa using this
    rw [List.getElem?_set_self hi] at hb
    rw [List.getElem?_set_self (h.1 ▸ hi)] at hu
    cases hb; cases hu; exact hr
  · rw [List.getElem?_set_ne e] at hb hu
    exact h.2 i b u hb hu

/-- what is numbered -/
inductive AObj where
  | box (ty : TypeId) (es : List (List AV))
  | tail (ty : Option TypeId) (s : Nat)
  | froz (es : List (List AV))
  | map (kvs : List (AV × AV))
  | nocap

structure Heap where
  next : Nat
  obj : Nat → Option AObj

def upd (h : Nat → Option AObj) (id : Nat) (x : Option AObj) : Nat → Option AObj := fun i => if i = id then x else h i

def ObjRep (E : Env) (w : World) (id : Nat) (b : Base) : AObj → Prop
  | .box ty es => (∃ c fz, w.heap[b.blk]? = some (.cells c ty fz) ∧ b.off = 0) ∧ es.length ≤ b.cap ∧ (∀ e, e ∈ es → e.length = b.s) ∧ ones es ∧ (∀ k, k < b.cap * b.s → E.M b.blk (b.off + k) = some (.own id) ∧ (w.cell? ⟨b.blk, b.off + k, none⟩).isSome = true ∧ w.frozen? ⟨b.blk, b.off + k, none⟩ = false) ∧
      ∃ f : Nat → Nat → Value, ∀ i j e a, es[i]? = some e → e[j]? = some a → w.cell? ⟨b.blk, b.off + i * b.s + j, none⟩ = some (f i j) ∧ Rep E a (f i j)
  | .tail ty s => (∀ t, ty = some t → ∃ c lo hi, w.heap[b.blk]? = some (.cells c t (lo, hi)) ∧ (0 < b.cap * b.s → hi ≤ b.off) ∧ ∀ o k, E.M b.blk o = some (.own k) → k = id ∧ b.off ≤ o ∧ o < b.off + b.cap * b.s) ∧ b.s = s ∧ ∀ k, k < b.cap * b.s → E.M b.blk (b.off + k) = some (.own id) ∧ (w.cell? ⟨b.blk, b.off + k, none⟩).isSome = true ∧ w.frozen? ⟨b.blk, b.off + k, none⟩ = false
  | .froz es => es.length ≤ b.cap ∧ (∀ e, e ∈ es → e.length = b.s) ∧ ones es ∧
      ∃ f : Nat → Nat → Value, ∀ i j e a, es[i]? = some e → e[j]? = some a → E.M b.blk (b.off + i * b.s + j) = some (.imm (f i j)) ∧ Rep E a (f i j)
  | .nocap => b.cap = 0
  | .map kvs => E.M b.blk 0 = some (.own id) ∧ ∃ es clock, w.heap[b.blk]? = some (.map es clock) ∧ Reps E (kvs.map (·.1)) (es.toList.map (·.key)) ∧ Reps E (kvs.map (·.2)) (es.toList.map (·.val))

/-- the world holds what the heap says; W0 is the world in which all began: it is kept below -/
structure Rel (W0 : World) (E : Env) (U : Nat → Prop) (h : Nat → Option AObj) (w : World) : Prop where
  below : Below W0.heap.size W0 w
  imm : ∀ b o v, E.M b o = some (.imm v) → w.cell? ⟨b, o, none⟩ = some v
  lt : ∀ b o k, E.M b o = some k → b < w.heap.size
  own : ∀ b o id, E.M b o = some (.own id) → W0.heap.size ≤ b
  ids : ∀ id b, E.ι id = some b → U id
  objs : ∀ id x, h id = some x → ∃ b, E.ι id = some b ∧ ObjRep E w id b x
  low : ∀ id b, E.ι id = some b → W0.heap.size ≤ b.blk

/-- what a step that touches one object alone does to the others -/
structure Step (E E' : Env) (w w' : World) (id : Nat) : Prop where
  ext : Ext E E'
  keep : ∀ b o k, E.M b o = some (.own k) → k ≠ id → E'.M b o = some (.own k) ∧ w'.cell? ⟨b, o, none⟩ = w.cell? ⟨b, o, none⟩ ∧ w'.frozen? ⟨b, o, none⟩ = w.frozen? ⟨b, o, none⟩ ∧
    (o = 0 → ∀ es c, w.heap[b]? = some (.map es c) → w'.heap[b]? = some (.map es c))
  shape : ∀ (b : Nat) c t fz, w.heap[b]? = some (.cells c t fz) → ∃ c', w'.heap[b]? = some (.cells c' t fz)
  new : ∀ b o k, b < w.heap.size → E'.M b o = some (.own k) → E.M b o = some (.own k)

theorem cell_in {b : Base} {es : List (List AV)} {i j : Nat} {e : List AV} {a : AV} (h1 : es.length ≤ b.cap) (h2 : ∀ e, e ∈ es → e.length = b.s) (hi : es[i]? = some e) (hj : e[j]? = some a) : i * b.s + j < b.cap * b.s := by
  have hi' := (List.getElem?_eq_some_iff.1 hi).1
  have hj' := (List.getElem?_eq_some_iff.1 hj).1
  have := h2 e (List.mem_of_getElem? hi)
  have h3 : (i + 1) * b.s ≤ b.cap * b.s := Nat.mul_le_mul_right _ (by omega)
  rw [Nat.add_mul] at h3
  omega

theorem ObjRep.keepOne {E E' : Env} {w w' : World} {k : Nat} {b : Base} {x : AObj} (ext : Ext E E') (s : ∀ b o, E.M b o = some (.own k) → E'.M b o = some (.own k) ∧ w'.cell? ⟨b, o, none⟩ = w.cell? ⟨b, o, none⟩ ∧ w'.frozen? ⟨b, o, none⟩ = w.frozen? ⟨b, o, none⟩ ∧
    (o = 0 → ∀ es c, w.heap[b]? = some (.map es c) → w'.heap[b]? = some (.map es c)))
    (hsh : ∀ c t fz, w.heap[b.blk]? = some (.cells c t fz) → ∃ c', w'.heap[b.blk]? = some (.cells c' t fz)) (hnew : (∀ o k', E.M b.blk o = some (.own k') → k' = k) → b.blk < w.heap.size → ∀ o k', E'.M b.blk o = some (.own k') → E.M b.blk o = some (.own k'))
    (h : ObjRep E w k b x) : ObjRep E' w' k b x := by
  cases x with
  | box ty es =>
    obtain ⟨⟨c0, fz, h0, hof⟩, h1, h2, ho, h3, f, h4⟩ := h
    obtain ⟨c0', h0'⟩ := hsh _ _ _ h0
    refine ⟨⟨c0', fz, h0', hof⟩, h1, h2, ho, fun j hj => ?_, f, fun i j e a hi hj => ?_⟩
    · obtain ⟨a1, a2, a3⟩ := h3 j hj
      obtain ⟨c1, c2, c3, _⟩ := s _ _ a1
      exact ⟨c1, by rw [c2]; exact a2, by rw [c3]; exact a3⟩
    · obtain ⟨a1, a2⟩ := h4 i j e a hi hj
      obtain ⟨o1, _, _⟩ := h3 (i * b.s + j) (cell_in h1 h2 hi hj)
      rw [← Nat.add_assoc] at o1
      obtain ⟨c1, c2, c3, _⟩ := s _ _ o1
      exact ⟨by rw [c2]; exact a1, a2.mono ext⟩
  | tail ty s0 =>
    refine ⟨fun t ht => ?_, h.2.1, fun j hj => ?_⟩
    · obtain ⟨c0, lo, hi, h0, h1, h2⟩ := h.1 t ht
      obtain ⟨c0', h0'⟩ := hsh _ _ _ h0
      exact ⟨c0', lo, hi, h0', h1, fun o k' hk => h2 o k' (hnew (fun o k' hk => (h2 o k' hk).1) (Array.getElem?_eq_some_iff.1 h0).1 o k' hk)⟩
    obtain ⟨a1, a2, a3⟩ := h.2.2 j hj
    obtain ⟨c1, c2, c3, _⟩ := s _ _ a1
    exact ⟨c1, by rw [c2]; exact a2, by rw [c3]; exact a3⟩
  | froz es =>
    obtain ⟨h1, h2, ho, f, h4⟩ := h
    exact ⟨h1, h2, ho, f, fun i j e a hi hj => ⟨ext.imm _ _ _ (h4 i j e a hi hj).1, (h4 i j e a hi hj).2.mono ext⟩⟩
  | nocap => exact h
  | map kvs =>
    obtain ⟨h1, es, c, h2, h3, h4⟩ := h
    obtain ⟨c1, _, _, c4⟩ := s _ _ h1
    exact ⟨c1, es, c, c4 rfl _ _ h2, h3.mono ext, h4.mono ext⟩

theorem ObjRep.keep {E E' : Env} {w w' : World} {id k : Nat} {b : Base} {x : AObj} (s : Step E E' w w' id) (hk : k ≠ id) (h : ObjRep E w k b x) : ObjRep E' w' k b x :=
  h.keepOne s.ext (fun b o e => s.keep b o k e hk) (s.shape b.blk) (fun _ hl o k' => s.new b.blk o k' hl)

section
variable {W0 : World} {E : Env} {U : Nat → Prop} {h : Nat → Option AObj} {w : World}

theorem Rel.drew (r : Rel W0 E U h w) : Rel W0 E U h w.drew := ⟨r.below.drew, r.imm, r.lt, r.own, r.ids, r.objs, r.low⟩

theorem Rel.used {V : Nat → Prop} (r : Rel W0 E U h w) (hv : ∀ i, U i → V i) : Rel W0 E V h w := ⟨r.below, r.imm, r.lt, r.own, fun i b e => hv _ (r.ids i b e), r.objs, r.low⟩

theorem Rel.drop {h' : Nat → Option AObj} (r : Rel W0 E U h w) (hh : ∀ i x, h' i = some x → h i = some x) : Rel W0 E U h' w := ⟨r.below, r.imm, r.lt, r.own, r.ids, fun i x e => r.objs i x (hh i x e), r.low⟩

theorem Rel.fresh (r : Rel W0 E U h w) {id : Nat} (hu : ¬ U id) : h id = none := by
  cases e : h id with
  | none => rfl
  | some x => obtain ⟨b, hb, _⟩ := r.objs id x e; exact absurd (r.ids id b hb) hu

/-- one object is put in another's place: all else is kept -/
theorem Rel.put {E' : Env} {w' : World} {V : Nat → Prop} (r : Rel W0 E U h w) (id : Nat) (x : Option AObj) (s : Step E E' w w' id) (hb : Below W0.heap.size W0 w')
    (himm : ∀ b o v, E'.M b o = some (.imm v) → w'.cell? ⟨b, o, none⟩ = some v) (hlt : ∀ b o k, E'.M b o = some k → b < w'.heap.size) (hown : ∀ b o id, E'.M b o = some (.own id) → W0.heap.size ≤ b)
    (hids : ∀ id b, E'.ι id = some b → V id) (hlow : ∀ id b, E'.ι id = some b → W0.heap.size ≤ b.blk) (hx : ∀ y, x = some y → ∃ b, E'.ι id = some b ∧ ObjRep E' w' id b y) : Rel W0 E' V (upd h id x) w' := by
  refine ⟨hb, himm, hlt, hown, hids, fun k y hy => ?_, hlow⟩
  by_cases e : k = id
  · subst e; simp [upd] at hy; exact hx y hy
  · simp [upd, e] at hy
    obtain ⟨b, h1, h2⟩ := r.objs k y hy
    exact ⟨b, s.ext.ids _ _ h1, h2.keep s e⟩
end

end Go.Proofs.YtgahmpfpnclefaaW.Abs
