/- Locals by name: boxes that do not leave a function, and rows that grow, told apart from the heap. -/
import Derived.Test.YtgahmpfpnclefaaA19
namespace Go.Proofs.YtgahmpfpnclefaaW.Abs
open Go.RowKit
set_option linter.unusedVariables false
set_option linter.unusedSimpArgs false
set_option linter.unusedSectionVars false

/-- what a name stands for -/
inductive LC where
  | none
  | box (id : Nat) (ty : TypeId) (es : List (List AV))
  | tok (id : Nat) (ty : Option TypeId) (s : Nat)

def LC.obj : LC → Option (Nat × AObj)
  | .none => Option.none
  | .box id ty es => some (id, .box ty es)
  | .tok id ty s => some (id, .tail ty s)

abbrev Loc := Nat → LC
def setL (l : Loc) (k : Nat) (x : LC) : Loc := fun i => if i = k then x else l i
theorem setL_same (l : Loc) (k : Nat) (x : LC) : setL l k x k = x := by simp [setL]
theorem setL_ne {l : Loc} {k j : Nat} (h : j ≠ k) (x : LC) : setL l k x j = l j := by simp [setL, h]

/-- an operation, some of them on a local by its name -/
inductive LO2 where
  | o (x : LO)
  | lalloc (k : Nat) (ty : TypeId) (z : List AV)
  | lbox (k : Nat) (ty : TypeId) (x : Arg)
  | lload (k : Nat) (n : Option Nat) (x : Arg)
  | lstore (k n : Nat) (a x : Arg)
  | lapp (k : Nat) (ty : TypeId) (s bytes : Nat) (x y : Arg)
  | lgrow (k : Nat) (ty : TypeId) (s bytes : Nat) (x y : Arg)
  | lmks (k : Nat) (ty : TypeId) (s bytes : Nat) (z : List AV) (len cap : Arg) (bx : Bool)
  | lbsl (k : Nat) (ty : TypeId) (s n : Nat) (z : List AV) (ps : List (Nat × Arg)) (bx : Bool)
  | lia (k s : Nat) (x i : Arg)
  | lsub (k s : Nat) (x : Arg) (lo hi : Option Arg)

def LO2.er : LO2 → LO
  | .o x => x
  | .lalloc _ ty z => .s (.alloc ty z)
  | .lbox _ ty x => .s (.box ty x)
  | .lload _ n x => .s (.load n x)
  | .lstore _ n a x => .s (.store n a x)
  | .lapp _ ty s b x y => .s (.app ty s b x y)
  | .lgrow _ ty s b x y => .s (.grow ty s b x y)
  | .lmks _ ty s b z l c bx => .s (.mks ty s b z l c bx)
  | .lbsl _ ty s n z ps bx => .s (.bslice ty s n z ps bx)
  | .lia _ s x i => .s (.ia s x i)
  | .lsub _ s x lo hi => .s (.sub s x lo hi)
def LO2.isLoc : LO2 → Bool
  | .o _ => false
  | _ => true

structure LOp2 where
  i : Nat
  dst : Option Nat
  g : Option (Nat × Bool)
  op : LO2
def LOp2.er (o : LOp2) : LOp := ⟨o.i, o.dst, o.g, o.op.er⟩

inductive S2 where
  | skip
  | ops (n : Nat) (l : List LOp2)
  | dops (n : Nat) (l : List (LOp2 × FP))
  | dopc (n : Nat) (l : List (LOp2 × FP))
  | seq (a b : S2)
  | cond (c : Arg) (a b : S2)
  | block (id : Nat) (a : S2)
  | loop (a : S2)
  | exit (id : Nat)
  | ret
  | refuse

def S2.er : S2 → S
  | .skip => .skip
  | .ops n l => .ops n (l.map LOp2.er)
  | .dops n l => .dops n (l.map fun p => (p.1.er, p.2))
  | .dopc n l => .dops n (l.map fun p => (p.1.er, p.2))
  | .seq a b => .seq a.er b.er
  | .cond c a b => .cond c a.er b.er
  | .block id a => .block id a.er
  | .loop a => .loop a.er
  | .exit id => .exit id
  | .ret => .ret
  | .refuse => .refuse

def distinct : List Nat → Bool
  | [] => true
  | a :: r => !r.contains a && distinct r
def S2.wf : S2 → Bool
  | .ops n l => distinct (l.map (·.i)) && l.all fun o => decide (o.i < n)
  | .dops n l => distinct (l.map (·.1.i)) && l.all fun o => decide (o.1.i < n)
  | .dopc n l => distinct (l.map (·.1.i)) && l.all fun o => decide (o.1.i < n)
  | .seq a b | .cond _ a b => a.wf && b.wf
  | .block _ a | .loop a => a.wf
  | _ => true

abbrev Kt2 := Ex → List AV → Loc → Heap → Prop

/-! operations on locals -/
def boxOf : LC → AV → Option (Nat × TypeId × List (List AV) × List AV × Nat × Nat)
  | .box id ty es, .bp id' i off => if id' = id then (es[i]?).map fun e => (id, ty, es, e, i, off) else none
  | _, _ => none
def growOk (c : LC) (s : Nat) : AV → Option (List (List AV))
  | .nils => some []
  | .row es (some t) => match c with
    | .tok id _ s' => if t = id ∧ s' = s then some es else none
    | _ => none
  | _ => none
/-- what a slice of a box holds that may grow -/
def stkOk (c : LC) (ty : TypeId) (s : Nat) : AV → Option (List (List AV))
  | .nils => some []
  | .sl id' 0 n => match c with
    | .box id ty' es => if id' = id ∧ ty' = ty ∧ n ≤ es.length ∧ es.length ≠ 0 ∧ (es.all fun e => e.length == s) = true then some (es.take n) else none
    | _ => none
  | _ => none
def stkRes (id : Nat) (ns : List (List AV)) : AV → AV
  | .sl _ _ n => .sl id 0 (n + ns.length)
  | _ => match ns with | [] => .nils | ns => .sl id 0 ns.length
def stkLoc (id : Nat) (ty : TypeId) (c : LC) (ns : List (List AV)) : AV → LC
  | .sl _ _ n => match c with
    | .box _ _ es => .box id ty (es.take n ++ ns)
    | c => c
  | _ => match ns with | [] => c | ns => .box id ty ns
/-- the elements of a slice of a local -/
def elOf : LC → AV → Option (List (List AV))
  | .box id _ es, .sl id' st n => if id' = id ∧ st + n ≤ es.length then some ((es.drop st).take n) else none
  | _, _ => none
def LO2.lok (id : Nat) (ts : List AV) (loc : Loc) (h : Hp) : LO2 → Prop
  | .o _ => False
  | .lalloc _ _ z => z.all AV.one = true
  | .lbox _ _ x => (x.ev ts).cells.all AV.one = true
  | .lload k n x => match boxOf (loc k) (x.ev ts) with
    | some (_, _, _, e, _, off) => partOk e off n
    | none => False
  | .lstore k n a x => match boxOf (loc k) (a.ev ts) with
    | some (_, _, _, e, _, off) => (x.ev ts).cells.length = n ∧ off + n ≤ e.length ∧ (x.ev ts).cells.all AV.one = true
    | none => False
  | .lapp k _ s bytes x y => match growOk (loc k) s (x.ev ts), srcElems h (y.ev ts) with
    | some es, some ns => (∀ e, e ∈ ns → e.length = s) ∧ (es.length + ns.length) * bytes ≤ 140737488355328 ∧ es.length + ns.length ≤ 4611686018427387904
    | _, _ => False
  | .lgrow k ty s bytes x y => match stkOk (loc k) ty s (x.ev ts), srcElems h (y.ev ts) with
    | some es, some ns => (∀ e, e ∈ ns → e.length = s) ∧ (es.length + ns.length) * bytes ≤ 140737488355328 ∧ es.length + ns.length ≤ 4611686018427387904
    | _, _ => False
  | .lmks _ _ s bytes z ln cap _ => z.length = s ∧ z.all AV.one = true ∧ (ln.ev ts).isInt ∧ (cap.ev ts).isInt ∧ 0 ≤ (ln.ev ts).toInt ∧ (ln.ev ts).toInt ≤ (cap.ev ts).toInt ∧ (cap.ev ts).toInt * bytes ≤ 140737488355328 ∧ (cap.ev ts).toInt ≤ 9223372036854775807
  | .lbsl _ _ s n z ps _ => fillSOk ts s n ps ∧ z.length = s ∧ z.all AV.one = true ∧ n * s ≤ 16777216
  | .lia k s x i => (i.ev ts).isInt ∧ 0 ≤ (i.ev ts).toInt ∧ match elOf (loc k) (x.ev ts) with
    | some es => someLen es[(i.ev ts).toInt.toNat]? s
    | none => False
  | .lsub k s x lo hi => boundOk ts lo ∧ boundOk ts hi ∧ match elOf (loc k) (x.ev ts) with
    | some es => 0 ≤ bound ts 0 lo ∧ bound ts 0 lo ≤ bound ts es.length hi ∧ bound ts es.length hi ≤ es.length ∧ ∀ e, e ∈ es → e.length = s
    | none => False
def LO2.lval (id : Nat) (ts : List AV) (loc : Loc) (h : Hp) : LO2 → AV
  | .o _ => .undef
  | .lalloc _ _ _ => .bp id 0 0
  | .lbox _ _ _ => .bp id 0 0
  | .lload k n x => match boxOf (loc k) (x.ev ts) with
    | some (_, _, _, e, _, off) => partOf e off n
    | none => .undef
  | .lstore _ _ _ _ => .undef
  | .lapp _ _ _ _ x y => appRes id ((srcElems h (y.ev ts)).getD []) (x.ev ts)
  | .lgrow _ _ _ _ x y => stkRes id ((srcElems h (y.ev ts)).getD []) (x.ev ts)
  | .lmks _ _ s _ z ln _ bx => if bx = true then .sl id 0 (ln.ev ts).toInt.toNat else .row (List.replicate (ln.ev ts).toInt.toNat z) (some id)
  | .lbsl _ _ s n z ps bx => if bx = true then .sl id 0 n else .row (fillS ts (List.replicate n z) ps) (some id)
  | .lia _ _ x i => iaVal (x.ev ts) (i.ev ts).toInt.toNat
  | .lsub _ _ x lo hi => subVal (bound ts 0 lo).toNat (fun n => (bound ts n hi).toNat) (x.ev ts)
def growTy (ty : TypeId) : LC → Option TypeId
  | .tok _ (some ty') _ => if ty' = ty then some ty else none
  | _ => none
def growLoc (id : Nat) (ty : TypeId) (s : Nat) (c : LC) (ns : List (List AV)) : AV → LC
  | .row _ (some _) => .tok id (growTy ty c) s
  | _ => match ns with | [] => c | _ => .tok id (some ty) s
def LO2.lloc (id : Nat) (ts : List AV) (loc : Loc) (h : Hp) : LO2 → Loc
  | .o _ => loc
  | .lalloc k ty z => setL loc k (.box id ty [z])
  | .lbox k ty x => setL loc k (.box id ty [(x.ev ts).cells])
  | .lload _ _ _ => loc
  | .lstore k _ a x => match boxOf (loc k) (a.ev ts) with
    | some (id', ty, es, _, i, off) => setL loc k (.box id' ty (setAt es i off (x.ev ts).cells))
    | none => loc
  | .lapp k ty s _ x y => setL loc k (growLoc id ty s (loc k) ((srcElems h (y.ev ts)).getD []) (x.ev ts))
  | .lgrow k ty _ _ x y => setL loc k (stkLoc id ty (loc k) ((srcElems h (y.ev ts)).getD []) (x.ev ts))
  | .lmks k ty s _ z ln _ bx => setL loc k (if bx = true then .box id ty (List.replicate (ln.ev ts).toInt.toNat z) else .tok id (some ty) s)
  | .lbsl k ty s n z ps bx => setL loc k (if bx = true then .box id ty (fillS ts (List.replicate n z) ps) else .tok id (some ty) s)
  | .lia _ _ _ _ => loc
  | .lsub _ _ _ _ _ => loc

section
variable (P : Program) (W0 : World)

/-- a call that keeps what is not in sight -/
def HCalls (f : FuncId) (args : List AV) (τ : Heap) (R : AOut → Heap → Prop) : Prop :=
  ∀ g : Hp, (∀ i x, τ.obj i = some x → g i = some x) → (∀ i x, g i = some x → i < τ.next) →
    ACalls P W0 f args ⟨τ.next, g⟩ fun o σ' => ∃ h, (∀ i x, h i = some x → σ'.obj i = some x) ∧ (∀ i x, h i = some x → τ.obj i ≠ none ∨ τ.next ≤ i) ∧ (∀ i x, h i = some x → i < σ'.next) ∧
      (∀ i x, g i = some x → τ.obj i = none → σ'.obj i = some x) ∧ R o ⟨σ'.next, h⟩

def evOp2 (n0 : Nat) (o : LOp2) (next : List AV → Loc → Heap → Prop) (K : Kt2) (ts : List AV) (loc : Loc) (τ : Heap) : Prop :=
  match o.op with
  | .o (.s s) => s.ok (n0 + o.i) ts τ.obj ∧ next (setD ts o.dst (s.val (n0 + o.i) ts τ.obj)) loc ⟨τ.next, s.heap (n0 + o.i) ts τ.obj⟩
  | .o (.call f args) | .o (.icall f args) => HCalls P W0 f (args.map (·.ev ts)) τ fun
      | .ret v, τ' => next (setD ts o.dst v) loc τ'
      | .pan v, τ' => K (.panic v) ts loc τ'
  | .o (.callv f args) => match f.ev ts with
    | .fn (.func g) first caps => HCalls P W0 g (first ++ args.map (·.ev ts) ++ caps) τ fun
        | .ret v, τ' => next (setD ts o.dst v) loc τ'
        | .pan v, τ' => K (.panic v) ts loc τ'
    | _ => False
  | .o (.panic x) => match x.ev ts with
    | .ifc t v => K (.panic (.ifc t v)) ts loc τ
    | _ => False
  | x => x.lok (n0 + o.i) ts loc τ.obj ∧ next (setD ts o.dst (x.lval (n0 + o.i) ts loc τ.obj)) (x.lloc (n0 + o.i) ts loc τ.obj) τ

def evOps2 (n0 : Nat) : List LOp2 → Kt2 → List AV → Loc → Heap → Prop
  | [], K, ts, loc, τ => K .normal ts loc τ
  | o :: r, K, ts, loc, τ => match o.g with
    | none => evOp2 P W0 n0 o (evOps2 n0 r K) K ts loc τ
    | some (g, want) => match guardV (ts.getD g .undef) want with
      | .bool b => if b = want then evOp2 P W0 n0 o (evOps2 n0 r K) K ts loc τ else evOps2 n0 r K (setD ts o.dst .undef) loc τ
      | _ => False

def LO2.lchk (n0 i : Nat) (fp : FP) (ts : List AV) (x : LO2) : Prop := match x.er with
  | .s s => s.chk n0 i fp ts
  | _ => True

def evDOp2 (n0 m : Nat) (o : LOp2) (fp : FP) (next : List AV → Loc → Hp → Prop) (ts : List AV) (loc : Loc) (h : Hp) : Prop :=
  match o.op with
  | .o (.s s) => s.ok (n0 + o.i) ts h ∧ s.chk n0 o.i fp ts ∧ next (setD ts o.dst (s.val (n0 + o.i) ts h)) loc (s.heap (n0 + o.i) ts h)
  | .o (.call f args) => ∃ r, PCall P W0 f (args.map (·.ev ts)) r ∧ next (setD ts o.dst r) loc h
  | .o (.callv f args) => match f.ev ts with
    | .fn (.func g) first caps => ∃ r, PCall P W0 g (first ++ args.map (·.ev ts) ++ caps) r ∧ next (setD ts o.dst r) loc h
    | _ => False
  | .o (.icall f args) => ∀ m', m ≤ m' → (∀ i x, h i = some x → i < m') → HCalls P W0 f (args.map (·.ev ts)) ⟨m', h⟩ fun
      | .ret v, σ' => next (setD ts o.dst v) loc σ'.obj
      | .pan _, _ => False
  | .o (.panic _) => False
  | x => x.lok (n0 + o.i) ts loc h ∧ x.lchk n0 o.i fp ts ∧ next (setD ts o.dst (x.lval (n0 + o.i) ts loc h)) (x.lloc (n0 + o.i) ts loc h) h
def evDG2 (n0 m : Nat) (o : LOp2) (fp : FP) (next : List AV → Loc → Hp → Prop) (ts : List AV) (loc : Loc) (h : Hp) : Prop :=
  match o.g with
  | none => evDOp2 P W0 n0 m o fp next ts loc h
  | some (g, want) => match guardV (ts.getD g .undef) want with
    | .bool b => if b = want then evDOp2 P W0 n0 m o fp next ts loc h else next (setD ts o.dst .undef) loc h
    | _ => False
def evD2 (n0 m : Nat) : List (LOp2 × FP) → (List AV → Loc → Hp → Prop) → List AV → Loc → Hp → Prop
  | [], K, ts, loc, h => K ts loc h
  | (o, fp) :: r, K, ts, loc, h => evDG2 P W0 n0 m o fp (evD2 n0 m r K) ts loc h

end

/-- the heap g of light code, told by what is in sight (h), the locals, and what is out of sight (X); B: what was in sight at first, n1: from here on all is new -/
structure Sim (X : Hp) (B : Nat → Prop) (n1 : Nat) (U : Nat → Prop) (loc : Loc) (h g : Hp) : Prop where
  sub : ∀ i x, h i = some x → g i = some x
  use : ∀ i x, g i = some x → U i
  new : ∀ i x, h i = some x → B i ∨ n1 ≤ i
  nam : ∀ k i x, (loc k).obj = some (i, x) → g i = some x ∧ h i = none ∧ n1 ≤ i
  inj : ∀ k k' i x x', (loc k).obj = some (i, x) → (loc k').obj = some (i, x') → k = k'
  out : ∀ i x, X i = some x → g i = some x ∧ i < n1 ∧ ¬ B i

/-- a continuation, told of light states -/
def liftK (X : Hp) (B : Nat → Prop) (n1 : Nat) (K : Kt2) : Kt := fun e ts σ => n1 ≤ σ.next ∧ ∃ loc h, Sim X B n1 (fun i => i < σ.next) loc h σ.obj ∧ K e ts loc ⟨σ.next, h⟩

section
variable (P : Program) (W0 : World) (C : Ctx) (hs : Hints)
def ALoop2 (a : S2) (K : Kt2) (ts : List AV) (loc : Loc) (τ : Heap) : Prop :=
  ∀ X B n1 g, n1 ≤ τ.next → Sim X B n1 (fun i => i < τ.next) loc τ.obj g → ALoop P W0 C hs a.er (liftK X B n1 K) ts ⟨τ.next, g⟩

def ev2 : S2 → Kt2 → List AV → Loc → Heap → Prop
  | .skip, K, ts, loc, τ => K .normal ts loc τ
  | .ops n l, K, ts, loc, τ => evOps2 P W0 τ.next l K ts loc ⟨τ.next + n, τ.obj⟩
  | .dops n l, K, ts, loc, τ => evD2 P W0 τ.next (τ.next + n) l (fun ts loc h => ∀ m, τ.next + n ≤ m → K .normal ts loc ⟨m, h⟩) ts loc τ.obj
  | .dopc n l, K, ts, loc, τ => evD2 P W0 τ.next (τ.next + n) l (fun ts loc h => ∀ m, τ.next + n ≤ m → (∀ i x, h i = some x → i < m) → K .normal ts loc ⟨m, h⟩) ts loc τ.obj
  | .seq a b, K, ts, loc, τ => ev2 a (fun e ts loc τ => match e with | .normal => ev2 b K ts loc τ | e => K e ts loc τ) ts loc τ
  | .cond c a b, K, ts, loc, τ => match c.ev ts with
    | .bool t => if t = true then ev2 a K ts loc τ else ev2 b K ts loc τ
    | _ => False
  | .block id a, K, ts, loc, τ => ev2 a (fun e ts loc τ => match e with | .exit i => if i = id then K .normal ts loc τ else K (.exit i) ts loc τ | e => K e ts loc τ) ts loc τ
  | .loop a, K, ts, loc, τ => ALoop2 P W0 C hs a K ts loc τ
  | .exit id, K, ts, loc, τ => K (.exit id) ts loc τ
  | .ret, K, ts, loc, τ => K .ret ts loc τ
  | .refuse, _, _, _, _ => False
end

/-! more in the heap: the same step -/
section
variable {h g : Hp} (sub : ∀ i x, h i = some x → g i = some x)
include sub
theorem target_sub {X : AV} {p : List AV × Nat} (e : target h X = some p) : target g X = some p := by
  cases X <;> simp only [target] at e ⊢ <;> try exact e
  rename_i id i off
  cases hi : h id with
  | none => rw [hi] at e; cases e
  | some o => rw [hi] at e; rw [sub _ _ hi]; exact e
theorem elems_sub {X : AV} {p : List (List AV)} (e : elems h X = some p) : elems g X = some p := by
  cases X <;> simp only [elems] at e ⊢ <;> try exact e
  rename_i id i n
  cases hi : h id with
  | none => rw [hi] at e; cases e
  | some o => rw [hi] at e; rw [sub _ _ hi]; exact e
theorem srcElems_sub {X : AV} {p : List (List AV)} (e : srcElems h X = some p) : srcElems g X = some p := by
  cases X <;> simp only [srcElems] at e ⊢ <;> first | exact e | exact elems_sub sub e
theorem mapAt_sub {X : AV} {p : List (AV × AV)} (e : mapAt h X = some p) : mapAt g X = some p := by
  cases X <;> simp only [mapAt] at e ⊢ <;> try exact e
  rename_i id
  cases hi : h id with
  | none => rw [hi] at e; cases e
  | some o => rw [hi] at e; rw [sub _ _ hi]; exact e

/-- what a step does to a heap that holds more -/
def Same (h g h' g' : Hp) (id : Nat) : Prop := (∀ i, i ≠ id → (h' i = h i ∧ g' i = g i) ∨ (h i ≠ none ∧ g' i = h' i)) ∧ (g' id = h' id ∨ (h' id = h id ∧ g' id = g id))
theorem same_upd {id : Nat} {x : Option AObj} : Same h g (upd h id x) (upd g id x) id := ⟨fun i hi => .inl ⟨by simp [upd, hi], by simp [upd, hi]⟩, .inl (by simp)⟩
theorem same_put {id j : Nat} {x : Option AObj} (hj : h j ≠ none) (hne : j ≠ id) : Same h g (upd h j x) (upd g j x) id := by
  refine ⟨fun i hi => ?_, .inr ⟨by simp [upd, Ne.symm hne], by simp [upd, Ne.symm hne]⟩⟩
  by_cases e : i = j
  · subst e; exact .inr ⟨hj, by simp⟩
  · exact .inl ⟨by simp [upd, e], by simp [upd, e]⟩
theorem same_refl {id : Nat} : Same h g h g id := ⟨fun _ _ => .inl ⟨rfl, rfl⟩, .inr ⟨rfl, rfl⟩⟩

theorem so_sub {s : SO} {id : Nat} {ts : List AV} (hid : g id = none) (ok : s.ok id ts h) :
    s.ok id ts g ∧ s.val id ts g = s.val id ts h ∧ Same h g (s.heap id ts h) (s.heap id ts g) id := by
  have hidh : h id = none := by cases e : h id with | none => rfl | some x => rw [sub _ _ e] at hid; cases hid
  have hne : ∀ j x, h j = some x → j ≠ id := fun j x e he => by rw [he, hidh] at e; cases e
  by_cases hp : s.pure = true
  · have a := pure_ok hp id id ts h g
    have b := pure_ok hp id id ts g h
    exact ⟨a.1 ▸ ok, b.2.1, by rw [a.2.2, b.2.2]; exact same_refl sub⟩
  cases s <;> first | (exact absurd rfl hp) | skip
  case alloc ty z => exact ⟨ok, rfl, same_upd sub⟩
  case box ty x => exact ⟨ok, rfl, same_upd sub⟩
  case bslice ty s n z ps bx => exact ⟨ok, rfl, same_upd sub⟩
  case mks ty s b z l c bx => exact ⟨ok, rfl, same_upd sub⟩
  case s2b x => exact ⟨ok, rfl, same_upd sub⟩
  case marks x =>
    obtain ⟨es, t, ty, s, hX, hn, he⟩ := ok
    refine ⟨⟨es, t, ty, s, hX, hn, sub _ _ he⟩, rfl, ?_⟩
    simp only [SO.heap, hX]
    exact same_put sub (by rw [he]; simp) (hne _ _ he)
  case mkm r => exact ⟨ok, rfl, same_upd sub⟩
  case empt => exact ⟨ok, rfl, same_upd sub⟩
  case load n x =>
    obtain ⟨cs, off, e, hp⟩ := ok
    have e' := target_sub sub e
    exact ⟨⟨cs, off, e', hp⟩, by simp only [SO.val, e, e'], same_refl sub⟩
  case ia s x k =>
    obtain ⟨h1, h2, es, e, he, h3⟩ := ok
    exact ⟨⟨h1, h2, es, e, elems_sub sub he, h3⟩, rfl, same_refl sub⟩
  case sub s x lo hi =>
    obtain ⟨h1, h2, n, es, h3, he, h4⟩ := ok
    exact ⟨⟨h1, h2, n, es, h3, elems_sub sub he, h4⟩, rfl, same_refl sub⟩
  case b2s x =>
    obtain ⟨es, l, he, hl⟩ := ok
    have e' := elems_sub sub he
    exact ⟨⟨es, l, e', hl⟩, by simp only [SO.val, he, e'], same_refl sub⟩
  case cvpu x =>
    refine ⟨?_, rfl, same_refl sub⟩
    rcases ok with hX | ⟨id', ty, es, e, hX, hb, q⟩
    · exact .inl hX
    · exact .inr ⟨id', ty, es, e, hX, sub _ _ hb, q⟩
  case cvup tys x =>
    refine ⟨?_, rfl, same_refl sub⟩
    rcases ok with hX | ⟨id', ty, es, e, hX, hb, q⟩
    · exact .inl hX
    · exact .inr ⟨id', ty, es, e, hX, sub _ _ hb, q⟩
  case ustr e x n =>
    refine ⟨?_, rfl, same_refl sub⟩
    rcases ok with hX | ⟨es, t, l, hX, hb, q⟩
    · exact .inl hX
    · exact .inr ⟨es, t, l, hX, sub _ _ hb, q⟩
  case look ck z ok' m k =>
    obtain ⟨h1, kvs, r, he, hr⟩ := ok
    have e' := mapAt_sub sub he
    exact ⟨⟨h1, kvs, r, e', hr⟩, by simp only [SO.val, he, e'], same_refl sub⟩
  case mlen m =>
    obtain ⟨kvs, he⟩ := ok
    have e' := mapAt_sub sub he
    exact ⟨⟨kvs, e'⟩, by simp only [SO.val, he, e'], same_refl sub⟩
  case mput ck m k v =>
    obtain ⟨h1, id', kvs, r, hm, he, hr⟩ := ok
    have e' := sub _ _ he
    refine ⟨⟨h1, id', kvs, r, hm, e', hr⟩, rfl, ?_⟩
    simp only [SO.heap, hm, he, e']
    exact same_put sub (by rw [he]; simp) (hne _ _ he)
  case store n a x =>
    obtain ⟨id', i, off, ty, es, e, ha, he, hr⟩ := ok
    have e' := sub _ _ he
    refine ⟨⟨id', i, off, ty, es, e, ha, e', hr⟩, rfl, ?_⟩
    simp only [SO.heap, ha, he, e']
    exact same_put sub (by rw [he]; simp) (hne _ _ he)
  case app ty s b x y =>
    obtain ⟨es, ns, hx, hs, hr⟩ := ok
    have e' := srcElems_sub sub hs
    refine ⟨⟨es, ns, ?_, e', hr⟩, by simp only [SO.val, hs, e'], ?_⟩
    · rcases hx with hx | ⟨t, ty', h1, h2⟩
      · exact .inl hx
      · exact .inr ⟨t, ty', h1, sub _ _ h2⟩
    · rcases hx with ⟨hx, _⟩ | ⟨t, ty', h1, h2⟩
      · simp only [SO.heap, hx, hs, e', Option.getD_some]
        cases ns with
        | nil => exact same_refl sub
        | cons _ _ => exact same_upd sub
      · have e2 := sub _ _ h2
        have hnt := hne _ _ h2
        simp only [SO.heap, h1, hs, e', Option.getD_some, h2, e2]
        refine ⟨fun i hi => ?_, .inl (by simp)⟩
        by_cases et : i = t
        · subst et; exact .inr ⟨by rw [h2]; simp, by simp [upd, hi]⟩
        · exact .inl ⟨by simp [upd, hi, et], by simp [upd, hi, et]⟩
  case grow ty s b x y =>
    obtain ⟨es, ns, hx, hs, hr⟩ := ok
    have e' := srcElems_sub sub hs
    refine ⟨⟨es, ns, ?_, e', hr⟩, by simp only [SO.val, hs, e'], ?_⟩
    · rcases hx with hx | ⟨t, n, ty', es0, h1, h2, h3⟩ | ⟨t, h1, h2, h3, h4⟩
      · exact .inl hx
      · exact .inr (.inl ⟨t, n, ty', es0, h1, sub _ _ h2, h3⟩)
      · exact .inr (.inr ⟨t, h1, sub _ _ h2, h3, by rw [e', ← hs]; exact h4⟩)
    · rcases hx with ⟨hx, _⟩ | ⟨t, n, ty', es0, h1, h2, h3⟩ | ⟨t, h1, h2, h3, h4⟩
      · simp only [SO.heap, hx, hs, e', Option.getD_some]
        cases ns with
        | nil => exact same_refl sub
        | cons _ _ => exact same_upd sub
      · have e2 := sub _ _ h2
        have hnt := hne _ _ h2
        simp only [SO.heap, h1, hs, e', Option.getD_some, h2, e2]
        refine ⟨fun i hi => ?_, .inl (by simp)⟩
        by_cases et : i = t
        · subst et; exact .inr ⟨by rw [h2]; simp, by simp [upd, hi]⟩
        · exact .inl ⟨by simp [upd, hi, et], by simp [upd, hi, et]⟩
      · have e2 := sub _ _ h2
        have hnt := hne _ _ h2
        simp only [SO.heap, h1, hs, e', Option.getD_some, h2, e2]
        refine ⟨fun i hi => ?_, .inl (by simp)⟩
        by_cases et : i = t
        · subst et; exact .inr ⟨by rw [h2]; simp, by simp [upd, hi]⟩
        · exact .inl ⟨by simp [upd, hi, et], by simp [upd, hi, et]⟩
  all_goals exact ok.elim
end

section
variable {X : Hp} {B : Nat → Prop} {n1 : Nat} {U : Nat → Prop} {loc : Loc} {h g : Hp}

theorem Sim.mono {V : Nat → Prop} (s : Sim X B n1 U loc h g) (hv : ∀ i, U i → V i) : Sim X B n1 V loc h g := ⟨s.sub, fun i x e => hv _ (s.use i x e), s.new, s.nam, s.inj, s.out⟩

theorem Sim.none_of (s : Sim X B n1 U loc h g) {id : Nat} (hid : ¬ U id) : g id = none := by
  cases e : g id with
  | none => rfl
  | some x => exact absurd (s.use _ _ e) hid

theorem plain_step (s : Sim X B n1 U loc h g) {o : SO} {id : Nat} {ts : List AV} (hid : ¬ U id) (hn : n1 ≤ id) (ok : o.ok id ts h) :
    o.ok id ts g ∧ o.val id ts g = o.val id ts h ∧ Sim X B n1 (fun i => U i ∨ i = id) loc (o.heap id ts h) (o.heap id ts g) := by
  have hg := s.none_of hid
  obtain ⟨h1, h2, h3, h4⟩ := so_sub s.sub hg ok
  have hh : h id = none := by cases e : h id with | none => rfl | some x => rw [s.sub _ _ e] at hg; cases hg
  refine ⟨h1, h2, ⟨fun i x e => ?_, fun i x e => ?_, fun i x e => ?_, fun k i x e => ?_, s.inj, fun i x e => ?_⟩⟩
  · by_cases he : i = id
    · subst he
      rcases h4 with h4 | ⟨h4, h5⟩
      · rw [h4]; exact e
      · rw [h4, hh] at e; cases e
    · rcases h3 i he with ⟨a, b⟩ | ⟨a, b⟩
      · rw [b]; exact s.sub _ _ (a ▸ e)
      · rw [b]; exact e
  · by_cases he : i = id
    · exact .inr he
    · rcases h3 i he with ⟨a, b⟩ | ⟨a, b⟩
      · exact .inl (s.use _ _ (b ▸ e))
      · cases hi : h i with
        | none => exact absurd hi a
        | some y => exact .inl (s.use _ _ (s.sub _ _ hi))
  · by_cases he : i = id
    · exact .inr (he ▸ hn)
    · rcases h3 i he with ⟨a, b⟩ | ⟨a, b⟩
      · exact s.new _ _ (a ▸ e)
      · cases hi : h i with
        | none => exact absurd hi a
        | some y => exact s.new _ _ hi
  · obtain ⟨a, b, c⟩ := s.nam k i x e
    have he : i ≠ id := fun q => by rw [q, hg] at a; cases a
    rcases h3 i he with ⟨p, q⟩ | ⟨p, q⟩
    · exact ⟨q ▸ a, p ▸ b, c⟩
    · exact absurd b p
  · obtain ⟨a, b, c⟩ := s.out i x e
    have he : i ≠ id := fun q => by rw [q, hg] at a; cases a
    rcases h3 i he with ⟨p, q⟩ | ⟨p, q⟩
    · exact ⟨q ▸ a, b, c⟩
    · cases hi : h i with
      | none => exact absurd hi p
      | some y =>
        rcases s.new _ _ hi with d | d
        · exact absurd d c
        · omega

/-- a name is given to what is new -/
theorem Sim.fresh (s : Sim X B n1 U loc h g) {id k : Nat} {c : LC} {x : AObj} (hc : c.obj = some (id, x)) (hid : ¬ U id) (hn : n1 ≤ id) : Sim X B n1 (fun i => U i ∨ i = id) (setL loc k c) h (upd g id (some x)) := by
  have hg := s.none_of hid
  have hh : h id = none := by cases e : h id with | none => rfl | some x => rw [s.sub _ _ e] at hg; cases hg
  refine ⟨fun i y e => ?_, fun i y e => ?_, s.new, fun j i y e => ?_, fun j j' i y y' e e' => ?_, fun i y e => ?_⟩
  · have he : i ≠ id := fun q => by rw [q, hh] at e; cases e
    rw [upd_ne he]; exact s.sub _ _ e
  · by_cases he : i = id
    · exact .inr he
    · rw [upd_ne he] at e; exact .inl (s.use _ _ e)
  · by_cases hj : j = k
    · subst hj; rw [setL_same, hc] at e; cases e
      exact ⟨by simp, hh, hn⟩
    · rw [setL_ne hj] at e
      obtain ⟨a, b, c⟩ := s.nam j i y e
      have he : i ≠ id := fun q => by rw [q, hg] at a; cases a
      rw [upd_ne he]; exact ⟨a, b, c⟩
  · by_cases hj : j = k
    · by_cases hj' : j' = k
      · rw [hj, hj']
      · subst hj; rw [setL_same, hc] at e; cases e
        rw [setL_ne hj'] at e'
        have := (s.nam _ _ _ e').1
        rw [hg] at this; cases this
    · by_cases hj' : j' = k
      · subst hj'; rw [setL_same, hc] at e'; cases e'
        rw [setL_ne hj] at e
        have := (s.nam _ _ _ e).1
        rw [hg] at this; cases this
      · rw [setL_ne hj] at e; rw [setL_ne hj'] at e'
        exact s.inj _ _ _ _ _ e e'
  · obtain ⟨a, b, c⟩ := s.out i y e
    have he : i ≠ id := fun q => by rw [q, hg] at a; cases a
    rw [upd_ne he]; exact ⟨a, b, c⟩
/-- what a name stands for is written -/
theorem Sim.write (s : Sim X B n1 U loc h g) {id k : Nat} {c : LC} {x x' : AObj} (hk : (loc k).obj = some (id, x)) (hc : c.obj = some (id, x')) : Sim X B n1 U (setL loc k c) h (upd g id (some x')) := by
  obtain ⟨k1, k2, k3⟩ := s.nam _ _ _ hk
  refine ⟨fun i y e => ?_, fun i y e => ?_, s.new, fun j i y e => ?_, fun j j' i y y' e e' => ?_, fun i y e => ?_⟩
  · have he : i ≠ id := fun q => by rw [q, k2] at e; cases e
    rw [upd_ne he]; exact s.sub _ _ e
  · by_cases he : i = id
    · rw [he]; exact s.use _ _ k1
    · rw [upd_ne he] at e; exact s.use _ _ e
  · by_cases hj : j = k
    · subst hj; rw [setL_same, hc] at e; cases e
      exact ⟨by simp, k2, k3⟩
    · rw [setL_ne hj] at e
      have he : i ≠ id := fun q => hj (s.inj _ _ _ _ _ (q ▸ e) hk)
      rw [upd_ne he]; exact s.nam j i y e
  · have key : ∀ j y, (setL loc k c j).obj = some (i, y) → ∃ y, (loc j).obj = some (i, y) := fun j y e => by
      by_cases hj : j = k
      · subst hj; rw [setL_same, hc] at e; cases e; exact ⟨_, hk⟩
      · rw [setL_ne hj] at e; exact ⟨_, e⟩
    obtain ⟨z, hz⟩ := key j y e
    obtain ⟨z', hz'⟩ := key j' y' e'
    exact s.inj _ _ _ _ _ hz hz'
  · obtain ⟨a, b, c'⟩ := s.out i y e
    have he : i ≠ id := fun q => by omega
    rw [upd_ne he]; exact ⟨a, b, c'⟩
/-- what a name stood for is gone -/
theorem Sim.gone (s : Sim X B n1 U loc h g) {id k : Nat} {x : AObj} (hk : (loc k).obj = some (id, x)) : Sim X B n1 U (setL loc k .none) h (upd g id none) := by
  obtain ⟨k1, k2, k3⟩ := s.nam _ _ _ hk
  refine ⟨fun i y e => ?_, fun i y e => ?_, s.new, fun j i y e => ?_, fun j j' i y y' e e' => ?_, fun i y e => ?_⟩
  · have he : i ≠ id := fun q => by rw [q, k2] at e; cases e
    rw [upd_ne he]; exact s.sub _ _ e
  · by_cases he : i = id
    · rw [he]; exact s.use _ _ k1
    · rw [upd_ne he] at e; exact s.use _ _ e
  · by_cases hj : j = k
    · subst hj; rw [setL_same] at e; cases e
    · rw [setL_ne hj] at e
      have he : i ≠ id := fun q => hj (s.inj _ _ _ _ _ (q ▸ e) hk)
      rw [upd_ne he]; exact s.nam j i y e
  · have key : ∀ j y, (setL loc k .none j).obj = some (i, y) → ∃ y, (loc j).obj = some (i, y) := fun j y e => by
      by_cases hj : j = k
      · subst hj; rw [setL_same] at e; cases e
      · rw [setL_ne hj] at e; exact ⟨_, e⟩
    obtain ⟨z, hz⟩ := key j y e
    obtain ⟨z', hz'⟩ := key j' y' e'
    exact s.inj _ _ _ _ _ hz hz'
  · obtain ⟨a, b, c'⟩ := s.out i y e
    have he : i ≠ id := fun q => by omega
    rw [upd_ne he]; exact ⟨a, b, c'⟩

theorem setL_setL (l : Loc) (k : Nat) (a b : LC) : setL (setL l k a) k b = setL l k b := by funext i; simp only [setL]; split <;> rfl

theorem boxOf_some {c : LC} {v : AV} {id : Nat} {ty : TypeId} {es : List (List AV)} {e : List AV} {i off : Nat} (hb : boxOf c v = some (id, ty, es, e, i, off)) : c = .box id ty es ∧ v = .bp id i off ∧ es[i]? = some e := by
  unfold boxOf at hb
  split at hb
  · split at hb
    · rename_i he
      simp only [Option.map_eq_some_iff] at hb
      obtain ⟨x, hx, hh⟩ := hb
      cases hh; subst he; exact ⟨rfl, rfl, hx⟩
    · cases hb
  · cases hb

theorem elOf_some {c : LC} {v : AV} {es' : List (List AV)} (hb : elOf c v = some es') : ∃ id ty es st n, c = .box id ty es ∧ v = .sl id st n ∧ st + n ≤ es.length ∧ es' = (es.drop st).take n := by
  unfold elOf at hb
  split at hb
  · split at hb
    · rename_i he
      obtain ⟨rfl, he⟩ := he
      cases hb; exact ⟨_, _, _, _, _, rfl, rfl, he, rfl⟩
    · cases hb
  · cases hb

theorem setL_self (l : Loc) (k : Nat) : setL l k (l k) = l := by funext i; simp only [setL]; split <;> simp_all

theorem local_step (s : Sim X B n1 U loc h g) {x : LO2} {o : SO} {id : Nat} {ts : List AV} (hx : x.er = .s o) (hl : x.isLoc = true) (hid : ¬ U id) (hn : n1 ≤ id) (ok : x.lok id ts loc h) :
    o.ok id ts g ∧ o.val id ts g = x.lval id ts loc h ∧ Sim X B n1 (fun i => U i ∨ i = id) (x.lloc id ts loc h) h (o.heap id ts g) := by
  have hg := s.none_of hid
  cases x with
  | o y => cases hl
  | lalloc k ty z => cases hx; exact ⟨ok, rfl, s.fresh rfl hid hn⟩
  | lbox k ty y => cases hx; exact ⟨ok, rfl, s.fresh rfl hid hn⟩
  | lload k n y =>
    cases hx
    simp only [LO2.lok] at ok
    split at ok
    · rename_i id' ty' es' e' i' off' hb
      obtain ⟨h1, h2, h3⟩ := boxOf_some hb
      have hgb := (s.nam k _ _ (by rw [h1]; rfl)).1
      have ht : target g (y.ev ts) = some (e', off') := by rw [h2]; simp only [target, hgb, h3]; rfl
      exact ⟨⟨_, _, ht, ok⟩, by simp only [SO.val, ht, LO2.lval, hb], s.mono fun i hi => .inl hi⟩
    · exact ok.elim
  | lstore k n a y =>
    cases hx
    simp only [LO2.lok] at ok
    split at ok
    · rename_i id' ty' es' e' i' off' hb
      obtain ⟨h1, h2, h3⟩ := boxOf_some hb
      have hgb := (s.nam k _ _ (by rw [h1]; rfl)).1
      refine ⟨⟨_, _, _, _, _, _, h2, hgb, h3, ok⟩, rfl, ?_⟩
      have hll : LO2.lloc id ts loc h (.lstore k n a y) = setL loc k (.box id' ty' (setAt es' i' off' (y.ev ts).cells)) := by simp only [LO2.lloc, hb]
      rw [hll]
      simp only [SO.heap, h2, hgb]
      exact (s.write (x' := .box ty' (setAt es' i' off' (y.ev ts).cells)) (c := .box id' ty' (setAt es' i' off' (y.ev ts).cells)) (by rw [h1]; rfl) rfl).mono fun i hi => .inl hi
    · exact ok.elim
  | lapp k ty sz b y z =>
    cases hx
    simp only [LO2.lok] at ok
    split at ok
    · rename_i es ns hgr hsr
      have hsr' := srcElems_sub s.sub hsr
      have hval : SO.val id ts g (.app ty sz b y z) = LO2.lval id ts loc h (.lapp k ty sz b y z) := by
        rw [val_app, LO2.lval, hsr, hsr']
      unfold growOk at hgr
      split at hgr
      · rename_i hy
        cases hgr
        refine ⟨⟨[], ns, .inl ⟨hy, rfl⟩, hsr', ok⟩, hval, ?_⟩
        simp only [SO.heap, LO2.lloc, hy, hsr, hsr', Option.getD_some]
        cases ns with
        | nil => simp only [growLoc, setL_self]; exact s.mono fun i hi => .inl hi
        | cons _ _ => exact s.fresh rfl hid hn
      · rename_i es' t hy
        split at hgr
        · rename_i i' ty' s' hlk
          split at hgr
          · rename_i he
            obtain ⟨rfl, rfl⟩ := he
            cases hgr
            have hgt := (s.nam k _ _ (by rw [hlk]; rfl)).1
            refine ⟨⟨es, ns, .inr ⟨t, ty', hy, hgt⟩, hsr', ok⟩, hval, ?_⟩
            simp only [SO.heap, LO2.lloc, hy, hsr, hsr', Option.getD_some, hgt]
            have s1 := s.gone (k := k) (id := t) (by rw [hlk]; rfl)
            have s2 := s1.fresh (k := k) (c := .tok id (growTy ty (loc k)) s') rfl hid hn
            rw [setL_setL] at s2
            have : growTy ty (loc k) = tailTy ty (some (.tail ty' s')) := by rw [hlk]; cases ty' <;> rfl
            rw [← this]; exact s2
          · cases hgr
        · cases hgr
      · cases hgr
    · exact ok.elim
  | lgrow k ty sz b y z =>
    cases hx
    simp only [LO2.lok] at ok
    split at ok
    · rename_i es ns hgr hsr
      have hsr' := srcElems_sub s.sub hsr
      have hval : SO.val id ts g (.grow ty sz b y z) = LO2.lval id ts loc h (.lgrow k ty sz b y z) := by
        simp only [SO.val, LO2.lval, hsr, hsr', Option.getD_some]
        cases y.ev ts <;> cases ns <;> rfl
      unfold stkOk at hgr
      split at hgr
      · rename_i hy
        cases hgr
        refine ⟨⟨[], ns, .inl ⟨hy, rfl⟩, hsr', ok⟩, hval, ?_⟩
        simp only [SO.heap, LO2.lloc, hy, hsr, hsr', Option.getD_some]
        cases ns with
        | nil => simp only [stkLoc, setL_self]; exact s.mono fun i hi => .inl hi
        | cons _ _ => exact s.fresh rfl hid hn
      · rename_i t n hy
        split at hgr
        · rename_i i' ty' es0 hlk
          split at hgr
          · rename_i he
            obtain ⟨rfl, rfl, hn1, hn2, hn3⟩ := he
            cases hgr
            have hgt := (s.nam k _ _ (by rw [hlk]; rfl)).1
            refine ⟨⟨es0.take n, ns, .inr (.inl ⟨t, n, ty', es0, hy, hgt, hn1, rfl, fun e he => by simpa using List.all_eq_true.1 hn3 e he, fun e0 => hn2 (by rw [e0]; rfl), rfl⟩), hsr', ok⟩, hval, ?_⟩
            simp only [SO.heap, LO2.lloc, hy, hsr, hsr', Option.getD_some, hgt]
            have s1 := s.gone (k := k) (id := t) (by rw [hlk]; rfl)
            have s2 := s1.fresh (k := k) (c := .box id ty' (es0.take n ++ ns)) rfl hid hn
            rw [setL_setL] at s2
            rw [hlk]; exact s2
          · cases hgr
        · cases hgr
      · cases hgr
    · exact ok.elim
  | lmks k ty sz b z l c bx =>
    cases hx
    refine ⟨ok, val_mks .., ?_⟩
    simp only [SO.heap, LO2.lloc]
    cases bx <;> exact s.fresh rfl hid hn
  | lbsl k ty sz n z ps bx =>
    cases hx
    refine ⟨ok, val_bslice .., ?_⟩
    simp only [SO.heap, LO2.lloc]
    cases bx <;> exact s.fresh rfl hid hn
  | lia k sz y i =>
    cases hx
    obtain ⟨o1, o2, ok⟩ := ok
    split at ok
    · rename_i es' he
      obtain ⟨id', ty, es, st, n, e1, e2, e3, e4⟩ := elOf_some he
      have hgb := (s.nam k _ _ (by rw [e1]; rfl)).1
      have hel : elems g (y.ev ts) = some es' := by rw [e2, e4]; simp only [elems, hgb, if_pos e3]
      refine ⟨by rw [ok_ia]; exact ⟨o1, o2, by rw [hel]; exact ok⟩, val_ia .., s.mono fun i hi => .inl hi⟩
    · exact ok.elim
  | lsub k sz y lo hi =>
    cases hx
    obtain ⟨o1, o2, ok⟩ := ok
    split at ok
    · rename_i es' he
      obtain ⟨id', ty, es, st, n, e1, e2, e3, e4⟩ := elOf_some he
      have hgb := (s.nam k _ _ (by rw [e1]; rfl)).1
      have hel : elems g (y.ev ts) = some es' := by rw [e2, e4]; simp only [elems, hgb, if_pos e3]
      have hlen : es'.length = n := by rw [e4]; simp; omega
      refine ⟨by rw [ok_sub]; refine ⟨o1, o2, ?_⟩; unfold slOk; rw [hel, e2]; simp only [lenOf]; rw [hlen] at ok; exact ok, val_sub .., s.mono fun i hi => .inl hi⟩
    · exact ok.elim
end
end Go.Proofs.YtgahmpfpnclefaaW.Abs
