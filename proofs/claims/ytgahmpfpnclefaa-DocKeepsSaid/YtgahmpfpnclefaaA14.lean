/- Light code, what it comes to, and that the model's code does so. -/
import Derived.Test.YtgahmpfpnclefaaA13b
import Derived.LoopN
namespace Go.Proofs.YtgahmpfpnclefaaW.Abs
open Go.RowKit
set_option linter.unusedVariables false
set_option linter.unusedSimpArgs false

inductive LO where
  | s (o : SO)
  | call (f : FuncId) (args : List Arg)
  | callv (f : Arg) (args : List Arg)
  | panic (x : Arg)
  | icall (f : FuncId) (args : List Arg)

structure LOp where
  i : Nat
  dst : Option Nat
  g : Option (Nat × Bool)
  op : LO

inductive S where
  | skip
  | ops (n : Nat) (l : List LOp)
  | dops (n : Nat) (l : List (LOp × FP))
  | seq (a b : S)
  | cond (c : Arg) (a b : S)
  | block (id : Nat) (a : S)
  | loop (a : S)
  | exit (id : Nat)
  | ret
  | refuse

inductive AOut where
  | ret (v : AV)
  | pan (v : AV)

inductive Ex where
  | normal
  | exit (id : Nat)
  | ret
  | panic (v : AV)

abbrev Kt := Ex → List AV → Heap → Prop

/-- what a guard says; where its question was not asked: not wanted -/
def guardV : AV → Bool → AV
  | .undef, w => .bool (!w)
  | v, _ => v
theorem guardV_ne {v : AV} (h : v ≠ .undef) (w : Bool) : guardV v w = v := by cases v <;> first | rfl | exact absurd rfl h
theorem undef_yields {E : Env} {ops : Array Oper} {tmps : Array Value} {j d : Nat} (hd : (ops[j]?).bind (·.dst) = some d) (rd : Rep E .undef (tmps.getD d undef)) : yielded ops tmps j = none := by
  have hv : tmps.getD d undef = undef := by
    generalize tmps.getD d undef = v at rd
    cases rd; rfl
  simp only [yielded, hd, Option.bind_some]
  cases hq : tmps[d]? with
  | none => rfl
  | some v =>
    have : v = undef := by simpa [Array.getD_eq_getD_getElem?, hq] using hv
    subst this; rfl

def setD (ts : List AV) : Option Nat → AV → List AV
  | some d, v => ts.set d v
  | none, _ => ts

section
variable (P : Program) (W0 : World)

/-- behind a step: more is known, the heap is another -/
def Post (E : Env) (n : Nat) (Φ : Env → Heap → Prop) (w : World) : Prop :=
  ∃ E' σ', Ext E E' ∧ (∀ id b, E'.ι id = some b → E.ι id = some b ∨ n ≤ id) ∧ n ≤ σ'.next ∧ Rel W0 E' (fun i => i < σ'.next) σ'.obj w ∧ Φ E' σ'

def Enters (f : FuncId) : Prop := ∀ args w, (callFunc f args).run P w = .ok (.enter f args) w

def OutR (E : Env) : AOut → Ending → Prop
  | .ret a, .returned v => Rep E a v
  | .pan a, .panicked c => ∃ v, c = [{ v, recovered := false }] ∧ Rep E a v
  | _, _ => False

/-- a call, told without memory: from the heap σ it ends as R says -/
def ACalls (f : FuncId) (args : List AV) (σ : Heap) (R : AOut → Heap → Prop) : Prop :=
  Enters P f ∧ ∀ E w (vs : Array Value), Rel W0 E (fun i => i < σ.next) σ.obj w → Reps E args vs.toList → Calls P f vs w fun e w' => Post W0 E σ.next (fun E' σ' => ∃ out, OutR E' out e ∧ R out σ') w'

def ExR (E : Env) : Ex → Exit → Prop
  | .normal, .normal => True
  | .exit i, .exit j => i = j
  | .ret, .ret => True
  | .panic a, .panic c => ∃ v, c = [{ v, recovered := false }] ∧ Rep E a v
  | _, _ => False

def conc (E : Env) (n : Nat) (K : Kt) : Exit → Act → World → Prop :=
  fun e a w => Post W0 E n (fun E' σ' => a.defers = [] ∧ ∃ ts x, Reps E' ts a.tmps.toList ∧ ExR E' x e ∧ K x ts σ') w

/-- from here on the loop's body goes round and round -/
def LoopFrom (c : Code) (Q : Exit → Act → World → Prop) (a : Act) (w : World) : Prop :=
  ∀ (b : Frame) (k : List Item) (cs : List Frame), ∃ e a' w', Q e a' w' ∧ Arrives P (lone (b.at a (.code c :: .inLoop c :: k)) cs w) b k cs e a' w'
end

section
variable {P : Program} {W0 : World}

theorem Post.trans {E E1 : Env} {n n1 : Nat} {Φ : Env → Heap → Prop} {w : World} (h : Post W0 E1 n1 Φ w) (x : Ext E E1) (hn : ∀ id b, E1.ι id = some b → E.ι id = some b ∨ n ≤ id) (hle : n ≤ n1) : Post W0 E n Φ w := by
  obtain ⟨E', σ', h1, h2, h3, h4, h5⟩ := h
  refine ⟨E', σ', x.trans h1, fun id b e => ?_, Nat.le_trans hle h3, h4, h5⟩
  rcases h2 id b e with h | h
  · exact hn id b h
  · exact .inr (by omega)
theorem Post.mono {E : Env} {n : Nat} {Φ Ψ : Env → Heap → Prop} {w : World} (h : Post W0 E n Φ w) (hk : ∀ E' σ', Ext E E' → n ≤ σ'.next → Φ E' σ' → Ψ E' σ') : Post W0 E n Ψ w := by
  obtain ⟨E', σ', h1, h2, h3, h4, h5⟩ := h
  exact ⟨E', σ', h1, h2, h3, h4, hk E' σ' h1 h3 h5⟩

theorem loopFrom_wp {c : Code} {Q : Exit → Act → World → Prop} {a : Act} {w : World} (h : LoopFrom P c Q a w) : (Code.loop c).wp P Q a w := fun b k cs => by
  obtain ⟨e, a', w', hq, harr⟩ := h b k cs
  exact ⟨e, a', w', hq, .of_steps (.one step_loop) harr⟩
theorem loopFrom_round {c : Code} {Q : Exit → Act → World → Prop} {a : Act} {w : World} (h : c.wp P (Exit.then (LoopFrom P c Q) Q) a w) : LoopFrom P c Q a w := fun b k cs => by
  obtain ⟨e, a₁, w₁, hq, harr⟩ := h b (.inLoop c :: k) cs
  cases e with
  | normal =>
    obtain ⟨e₂, a₂, w₂, hq₂, harr₂⟩ := hq b k cs
    exact ⟨e₂, a₂, w₂, hq₂, .of_steps (Steps.trans harr (.one step_inLoop)) harr₂⟩
  | exit id => exact ⟨_, a₁, w₁, hq, .pass (x := .inLoop c) rfl (fun _ _ => .inl (by simp)) harr⟩
  | goto l => exact ⟨_, a₁, w₁, hq, .pass (x := .inLoop c) rfl (fun _ _ => .inl (by simp)) harr⟩
  | ret => exact ⟨_, a₁, w₁, hq, .pass (x := .inLoop c) rfl (fun _ _ => .inl (by simp)) harr⟩
  | panic ch => exact ⟨_, a₁, w₁, hq, .pass (x := .inLoop c) rfl (fun _ _ => .inl (by simp)) harr⟩
  | outgrown => exact ⟨_, a₁, w₁, hq, .pass (x := .inLoop c) rfl (fun _ _ => .inl (by simp)) harr⟩
theorem loopFrom_mono {c : Code} {Q Q' : Exit → Act → World → Prop} {a : Act} {w : World} (h : LoopFrom P c Q a w) (hq : ∀ e a w, Q e a w → Q' e a w) : LoopFrom P c Q' a w := fun b k cs => by
  obtain ⟨e, a', w', q, r⟩ := h b k cs
  exact ⟨e, a', w', hq _ _ _ q, r⟩

theorem conc_trans {E E1 : Env} {n n1 : Nat} {K : Kt} {e : Exit} {a : Act} {w : World} (h : conc W0 E1 n1 K e a w) (x : Ext E E1) (hn : ∀ id b, E1.ι id = some b → E.ι id = some b ∨ n ≤ id) (hle : n ≤ n1) : conc W0 E n K e a w := Post.trans h x hn hle
end

/-! the code -/
def compG (ops : Array Oper) : Option (Nat × Bool) → Option (Option (Nat × Bool))
  | none => some none
  | some (j, want) => match (ops[j]?).bind (·.dst) with
    | some d => some (some (d, want))
    | none => none

def compLO (C : Ctx) (bx : Bool) (o : Oper) : Option LO :=
  match o.op with
  | .call c => match c.callee with
    | .value (.func f) => if C.same f = true then (compO C bx o).map .s else (compL c.args.toList).map (.call f)
    | .value x => match compA x, compL c.args.toList with
      | some x', some ys => some (.callv x' ys)
      | _, _ => none
    | _ => (compO C bx o).map .s
  | .panic x => (compA x).map .panic
  | _ => (compO C bx o).map .s

/-- where a slice is made as a box, by region and number -/
abbrev Hints := List (Nat × Nat)

def compOps (C : Ctx) (hs : Hints) (id : Nat) (ops : Array Oper) : List Nat → Option (List LOp)
  | [] => some []
  | i :: r => match ops[i]? with
    | none => none
    | some o => match compG ops o.guard, compLO C (hs.contains (id, i)) o, compOps C hs id ops r with
      | some g, some x, some l => some ({ i, dst := o.dst, g, op := x } :: l)
      | _, _, _ => none

/-! a region whose order is drawn -/
def Arg.reads : Arg → List Nat
  | .t n => [n]
  | .k _ => []
def LO.args : LO → List Arg
  | .s x => x.args
  | .call _ l | .icall _ l => l
  | .callv f l => f :: l
  | .panic x => [x]
def LOp.reads (o : LOp) : List Nat := o.op.args.flatMap Arg.reads ++ (o.g.map (·.1)).toList

def regsOk (p q : LOp) : Bool :=
  (match p.dst with | some d => !q.reads.contains d && q.dst != some d | none => true) && (match q.dst with | some d => !p.reads.contains d | none => true)
def fpOk (f g : FP) : Bool := !(f.old == 2 && decide (1 ≤ g.old)) && !(g.old == 2 && decide (1 ≤ f.old)) && f.news.all fun j => !g.news.contains j
def LO.calm : LO → Bool
  | .s x => x.pure
  | .call _ _ | .callv _ _ => true
  | _ => false
/-- what stands first may stand behind -/
def swapOk (p q : LOp × FP) : Bool :=
  regsOk p.1 q.1 && match p.1.op, q.1.op with
    | .icall _ _, _ => false
    | .panic _, _ | _, .panic _ => false
    | x, .icall _ _ => x.calm
    | _, _ => fpOk p.2 q.2

def depsOf (o : Oper) : List Nat := (o.after.toList.filter (Region.binds .any)).map (·.on)
def ancOf (ops : List Oper) : List (List Nat) :=
  ops.foldl (fun acc o => acc ++ [((depsOf o) ++ (depsOf o).flatMap fun j => acc.getD j []).eraseDups]) []
def ancCheck (ops : Array Oper) (anc : List (List Nat)) : Bool :=
  (List.range ops.size).all fun i => match ops[i]? with
    | some o => (anc.getD i []).all fun k => (depsOf o).contains k || (depsOf o).any fun m => (anc.getD m []).contains k
    | none => true
/-- the operations' own order: no operation ahead of what it hangs on -/
def topo (ops : Array Oper) : List Nat → List (LOp × FP) → Bool
  | _, [] => true
  | done, p :: r => (match ops[p.1.i]? with | some o => (depsOf o).all done.contains | none => false) && topo ops (p.1.i :: done) r
def pairsOk (anc : List (List Nat)) : List (LOp × FP) → Bool
  | [] => true
  | p :: r => (r.all fun q => (anc.getD q.1.i []).contains p.1.i || swapOk p q) && pairsOk anc r

/-- which operation of this region laid what a temporary points to -/
def orgOf (l : List LOp) : List (Nat × Nat) :=
  l.foldl (fun acc o => match o.dst, o.op with
    | some d, .s (.alloc _ _) | some d, .s (.box _ _) | some d, .s (.bslice _ _ _ _ _ _) | some d, .s (.mks _ _ _ _ _ _ _) | some d, .s (.app _ _ _ _ _) | some d, .s (.grow _ _ _ _ _) | some d, .s (.s2b _) | some d, .s (.mkm _) | some d, .s .empt => (d, o.i) :: acc
    | some d, .s (.fa _ (.t x)) | some d, .s (.nilck (.t x)) | some d, .s (.cvpu (.t x)) | some d, .s (.cvup _ (.t x)) | some d, .s (.idn (.t x)) | some d, .s (.sdata (.t x)) => match acc.lookup x with
      | some j => (d, j) :: acc
      | none => acc
    | _, _ => acc) []
def fpOf (org : List (Nat × Nat)) (o : LOp) : FP :=
  let at_ (x : Arg) : Option Nat := match x with | .t n => org.lookup n | .k _ => none
  match o.op with
  | .s (.load _ x) | .s (.ia _ x _) | .s (.sub _ x _ _) | .s (.b2s x) | .s (.look _ _ _ x _) | .s (.mlen x) | .s (.cvpu x) | .s (.cvup _ x) | .s (.ustr _ x _) => match at_ x with | some j => ⟨0, [j]⟩ | none => ⟨1, []⟩
  | .s (.store _ a _) | .s (.mput _ a _ _) | .s (.marks a) => match at_ a with | some j => ⟨0, [j]⟩ | none => ⟨2, []⟩
  | .s (.alloc _ _) | .s (.box _ _) | .s (.bslice _ _ _ _ _ _) | .s (.mks _ _ _ _ _ _ _) | .s (.s2b _) | .s (.mkm _) | .s .empt => ⟨0, [o.i]⟩
  | .s (.app _ _ _ x y) | .s (.grow _ _ _ x y) => match x, at_ x with
    | .k _, _ => ⟨match at_ y, y with | some _, _ => 0 | none, .k _ => 0 | none, _ => 1, [o.i]⟩
    | _, some j => ⟨match at_ y, y with | some _, _ => 0 | none, .k _ => 0 | none, _ => 1, [j, o.i]⟩
    | _, none => ⟨2, [o.i]⟩
  | _ => ⟨0, []⟩
def prio (o : LOp) : Nat := match o.op with
  | .s s => if s.pure then 0 else match s with | .load _ _ | .ia _ _ _ | .sub _ _ _ _ | .b2s _ | .look _ _ _ _ _ | .mlen _ | .cvpu _ | .cvup _ _ | .ustr _ _ _ => 2 | _ => 3
  | .call _ _ | .callv _ _ => 1
  | .panic _ => 4
  | .icall _ _ => 5
def eager (ops : Array Oper) : Nat → List Nat → List (LOp × FP) → List (LOp × FP)
  | 0, _, _ => []
  | n + 1, done, l =>
    let rdy := l.filter fun p => match ops[p.1.i]? with | some o => (depsOf o).all done.contains | none => false
    match rdy.foldl (fun (b : Option (LOp × FP)) p => match b with | none => some p | some q => if prio p.1 < prio q.1 then some p else some q) none with
    | none => []
    | some p => p :: eager ops n (p.1.i :: done) (l.filter fun q => q.1.i != p.1.i)

def impure (hs : Hints) (id : Nat) (o : LOp) : LOp := match o.op with
  | .call f l => if hs.contains (id, o.i) then { o with op := .icall f l } else o
  | _ => o

def compD (C : Ctx) (hs : Hints) (id : Nat) (ops : Array Oper) : Option S :=
  match compOps C hs id ops (List.range ops.size) with
  | none => none
  | some l0 =>
    let l := l0.map (impure hs id)
    let org := orgOf l
    let e := eager ops ops.size [] (l.map fun o => (o, fpOf org o))
    let anc := ancOf ops.toList
    if e.length == ops.size && ancCheck ops anc && topo ops [] e && pairsOk anc e && (List.range ops.size).all (fun i => e.any fun p => p.1.i == i) then some (.dops ops.size e) else none

def comp (C : Ctx) (hs : Hints) : Code → Option S
  | .skip => some .skip
  | .label _ => some .skip
  | .region id ops false => (compOps C hs id ops (List.range ops.size)).map (.ops ops.size)
  | .region id ops true => compD C hs id ops
  | .seq a b => match comp C hs a, comp C hs b with
    | some x, some y => some (.seq x y)
    | _, _ => none
  | .cond c a b => match compA c, comp C hs a, comp C hs b with
    | some c', some x, some y => some (.cond c' x y)
    | _, _, _ => none
  | .block id a => (comp C hs a).map (.block id)
  | .loop a => (comp C hs a).map .loop
  | .exit id => some (.exit id)
  | .ret => some .ret
  | .scope a => comp C hs a
  | .refuse _ => some .refuse
  | _ => none

section
variable (P : Program) (W0 : World) (C : Ctx)

def evOp (n0 : Nat) (o : LOp) (next : List AV → Heap → Prop) (K : Kt) (ts : List AV) (σ : Heap) : Prop :=
  match o.op with
  | .s s => s.ok (n0 + o.i) ts σ.obj ∧ next (setD ts o.dst (s.val (n0 + o.i) ts σ.obj)) ⟨σ.next, s.heap (n0 + o.i) ts σ.obj⟩
  | .call f args | .icall f args => ACalls P W0 f (args.map (·.ev ts)) σ fun
      | .ret v, σ' => next (setD ts o.dst v) σ'
      | .pan v, σ' => K (.panic v) ts σ'
  | .callv f args => match f.ev ts with
    | .fn (.func g) first caps => ACalls P W0 g (first ++ args.map (·.ev ts) ++ caps) σ fun
        | .ret v, σ' => next (setD ts o.dst v) σ'
        | .pan v, σ' => K (.panic v) ts σ'
    | _ => False
  | .panic x => match x.ev ts with
    | .ifc t v => K (.panic (.ifc t v)) ts σ
    | _ => False

def evOps (n0 : Nat) : List LOp → Kt → List AV → Heap → Prop
  | [], K, ts, σ => K .normal ts σ
  | o :: r, K, ts, σ => match o.g with
    | none => evOp P W0 n0 o (evOps n0 r K) K ts σ
    | some (g, want) => match guardV (ts.getD g .undef) want with
      | .bool b => if b = want then evOp P W0 n0 o (evOps n0 r K) K ts σ else evOps n0 r K (setD ts o.dst .undef) σ
      | _ => False

/-- a call that only reckons -/
def PCall (f : FuncId) (args : List AV) (r : AV) : Prop := ∀ σ, ACalls P W0 f args σ fun o σ' => o = .ret r ∧ σ'.obj = σ.obj

def evDOp (n0 m : Nat) (o : LOp) (fp : FP) (next : List AV → Hp → Prop) (ts : List AV) (h : Hp) : Prop :=
  match o.op with
  | .s s => s.ok (n0 + o.i) ts h ∧ s.chk n0 o.i fp ts ∧ next (setD ts o.dst (s.val (n0 + o.i) ts h)) (s.heap (n0 + o.i) ts h)
  | .call f args => ∃ r, PCall P W0 f (args.map (·.ev ts)) r ∧ next (setD ts o.dst r) h
  | .callv f args => match f.ev ts with
    | .fn (.func g) first caps => ∃ r, PCall P W0 g (first ++ args.map (·.ev ts) ++ caps) r ∧ next (setD ts o.dst r) h
    | _ => False
  | .icall f args => ∀ m', m ≤ m' → (∀ i x, h i = some x → i < m') → ACalls P W0 f (args.map (·.ev ts)) ⟨m', h⟩ fun
      | .ret v, σ' => next (setD ts o.dst v) σ'.obj
      | .pan _, _ => False
  | .panic _ => False
def evDG (n0 m : Nat) (o : LOp) (fp : FP) (next : List AV → Hp → Prop) (ts : List AV) (h : Hp) : Prop :=
  match o.g with
  | none => evDOp P W0 n0 m o fp next ts h
  | some (g, want) => match guardV (ts.getD g .undef) want with
    | .bool b => if b = want then evDOp P W0 n0 m o fp next ts h else next (setD ts o.dst .undef) h
    | _ => False
def evD (n0 m : Nat) : List (LOp × FP) → (List AV → Hp → Prop) → List AV → Hp → Prop
  | [], K, ts, h => K ts h
  | (o, fp) :: r, K, ts, h => evDG P W0 n0 m o fp (evD n0 m r K) ts h

/-- the loop whose body is a -/
def ALoop (hs : Hints) (a : S) (K : Kt) (ts : List AV) (σ : Heap) : Prop :=
  ∀ c, comp C hs c = some a → ∀ E (act : Act) w, Rel W0 E (fun i => i < σ.next) σ.obj w → Reps E ts act.tmps.toList → act.defers = [] → LoopFrom P c (conc W0 E σ.next K) act w

def ev (hs : Hints) : S → Kt → List AV → Heap → Prop
  | .skip, K, ts, σ => K .normal ts σ
  | .ops n l, K, ts, σ => evOps P W0 σ.next l K ts ⟨σ.next + n, σ.obj⟩
  | .dops n l, K, ts, σ => evD P W0 σ.next (σ.next + n) l (fun ts h => ∀ m, σ.next + n ≤ m → (∀ i x, h i = some x → i < m) → K .normal ts ⟨m, h⟩) ts σ.obj
  | .seq a b, K, ts, σ => ev hs a (fun e ts σ => match e with | .normal => ev hs b K ts σ | e => K e ts σ) ts σ
  | .cond c a b, K, ts, σ => match c.ev ts with
    | .bool t => if t = true then ev hs a K ts σ else ev hs b K ts σ
    | _ => False
  | .block id a, K, ts, σ => ev hs a (fun e ts σ => match e with | .exit i => if i = id then K .normal ts σ else K (.exit i) ts σ | e => K e ts σ) ts σ
  | .loop a, K, ts, σ => ALoop P W0 C hs a K ts σ
  | .exit id, K, ts, σ => K (.exit id) ts σ
  | .ret, K, ts, σ => K .ret ts σ
  | .refuse, _, _, _ => False
end

section
variable {P : Program} {W0 : World} {C : Ctx}

theorem put_reps {E : Env} {ts : List AV} {a : Act} {x : AV} {v : Value} (ht : Reps E ts a.tmps.toList) (hr : Rep E x v) (d : Option Nat) : Reps E (setD ts d x) (a.put d v).tmps.toList := by
  cases d with
  | none => exact ht
  | some d => simpa [setD, Act.put] using ht.set hr d

/-- the ids of operations that are still to come are not in use -/
def Free (n0 : Nat) (l : List LOp) (m : Nat) : Nat → Prop := fun x => x < m ∧ ∀ o ∈ l, x ≠ n0 + o.i

theorem evOp_sound (hC : C.Ok P) {bx : Bool} {o : Oper} {lo : LOp} (hc : compLO C bx o = some lo.op ∨ ∃ f l, compLO C bx o = some (.call f l) ∧ lo.op = .icall f l) (hd : lo.dst = o.dst) {n0 n : Nat} (hi : lo.i < n) {l : List LOp} (hl : ∀ q ∈ l, q.i < n) (hne : ∀ q ∈ l, q.i ≠ lo.i)
    {next : List AV → Heap → Prop} {K : Kt} {Next : Act → World → Prop} {E0 : Env} {n1 : Nat} (hn1 : n1 ≤ n0)
    (hnext : ∀ (E : Env) ts σ (a : Act) w, Ext E0 E → (∀ id b, E.ι id = some b → E0.ι id = some b ∨ n1 ≤ id) → n0 + n ≤ σ.next → Rel W0 E (Free n0 l σ.next) σ.obj w → Reps E ts a.tmps.toList → a.defers = [] → next ts σ → Next a w)
    {E : Env} {ts : List AV} {σ : Heap} {a : Act} {w : World} (hx : Ext E0 E) (hnew : ∀ id b, E.ι id = some b → E0.ι id = some b ∨ n1 ≤ id) (hσ : n0 + n ≤ σ.next) (r : Rel W0 E (Free n0 (lo :: l) σ.next) σ.obj w) (ht : Reps E ts a.tmps.toList) (hdf : a.defers = [])
    (h : evOp P W0 n0 lo next K ts σ) : o.wp P a w Next (conc W0 E0 n1 K) := by
  have rw1 : Rel W0 E (fun i => i < σ.next) σ.obj w := r.used fun i hi => hi.1
  have callcase : ∀ (f : FuncId) (args : List AV) (vs : Array Value), Reps E args vs.toList → (execOp a.eval o).run P w = .ok (.enter f vs) w →
      (ACalls P W0 f args σ fun | .ret v, σ' => next (setD ts lo.dst v) σ' | .pan v, σ' => K (.panic v) ts σ') → o.wp P a w Next (conc W0 E0 n1 K) := by
    intro f args vs hvs hrun hcall
    unfold Oper.wp
    rw [hrun]
    show Calls P f vs w _
    refine (hcall.2 E w vs rw1 hvs).mono fun e w' hp => ?_
    obtain ⟨E', σ', x1, x2, x3, x4, out, ho, hR⟩ := hp
    cases e with
    | returned v =>
      cases out with
      | pan q => exact ho.elim
      | ret q =>
        refine hnext E' _ σ' _ w' (hx.trans x1) (fun id b hb => ?_) (by omega) ?_ (put_reps (ht.mono x1) ho o.dst) (by cases o.dst <;> exact hdf) (hd ▸ hR)
        · rcases x2 id b hb with g | g
          · exact hnew id b g
          · exact .inr (by omega)
        · refine ⟨x4.below, x4.imm, x4.lt, x4.own, fun id b hb => ⟨x4.ids id b hb, fun q hq => ?_⟩, x4.objs, x4.low⟩
          rcases x2 id b hb with g | g
          · exact (r.ids id b g).2 q (List.mem_cons_of_mem _ hq)
          · have := hl q hq; omega
    | panicked c =>
      cases out with
      | ret q => exact ho.elim
      | pan q =>
        refine ⟨E', σ', hx.trans x1, fun id b hb => ?_, by omega, x4, hdf, ts, .panic q, ht.mono x1, ho, hR⟩
        rcases x2 id b hb with g | g
        · exact hnew id b g
        · exact .inr (by omega)
    | outgrown => cases out <;> exact ho.elim
  have simplecase : ∀ s, compO C bx o = some s → lo.op = .s s → o.wp P a w Next (conc W0 E0 n1 K) := by
    intro s hs hlo
    simp only [evOp, hlo] at h
    obtain ⟨hok, hk⟩ := h
    have hfree : ¬ Free n0 (lo :: l) σ.next (n0 + lo.i) := fun hf => hf.2 lo (List.mem_cons_self ..) rfl
    obtain ⟨nx, v, w', E', hrun, hnx, y1, y2, y3, y4⟩ := compO_res hC hs r hfree ht hok
    have hr' : Rel W0 E' (Free n0 l σ.next) (s.heap (n0 + lo.i) ts σ.obj) w' := y3.used fun i hi' => by
      rcases hi' with g | g
      · exact ⟨g.1, fun q hq => g.2 q (List.mem_cons_of_mem _ hq)⟩
      · subst g; exact ⟨by omega, fun q hq he => hne q hq (by omega)⟩
    have hnew' : ∀ id b, E'.ι id = some b → E0.ι id = some b ∨ n1 ≤ id := fun id b hb => by
      rcases y2 id b hb with g | g
      · exact hnew id b g
      · exact .inr (by omega)
    have hfin := fun (u : Value) (hu : Rep E' (s.val (n0 + lo.i) ts σ.obj) u) => hnext E' _ ⟨σ.next, s.heap (n0 + lo.i) ts σ.obj⟩ (a.put o.dst u) w' (hx.trans y1) hnew' hσ hr' (put_reps (ht.mono y1) hu o.dst) (by cases o.dst <;> exact hdf) (hd ▸ hk)
    unfold Oper.wp
    rw [hrun]
    rcases hnx with rfl | ⟨rfl, rfl⟩
    · exact hfin v y4
    · exact hfin undef y4
  rcases hc with hc | ⟨f, l, hc, hlo⟩
  case inr =>
    unfold compLO at hc
    split at hc
    · rename_i c ho
      split at hc
      · rename_i f' hcal
        split at hc
        · simp only [Option.map_eq_some_iff] at hc
          obtain ⟨s, _, hh⟩ := hc; cases hh
        simp only [Option.map_eq_some_iff] at hc
        obtain ⟨ys, hys, hlo'⟩ := hc
        cases hlo'
        simp only [evOp, hlo] at h
        refine callcase f _ (c.args.map a.eval) (by simpa using compL_rep ht hys) ?_ h
        unfold execOp; rw [ho]
        have he := h.1
        unfold Enters at he
        simp [resolve, hcal, Act.eval, Deferred.ofValue, invoke]
        exact he _ w
      · split at hc <;> cases hc
      · simp only [Option.map_eq_some_iff] at hc
        obtain ⟨s, _, hh⟩ := hc; cases hh
    · simp only [Option.map_eq_some_iff] at hc
      obtain ⟨s, _, hh⟩ := hc; cases hh
    · simp only [Option.map_eq_some_iff] at hc
      obtain ⟨s, _, hh⟩ := hc; cases hh
  unfold compLO at hc
  split at hc
  · rename_i c ho
    split at hc
    · rename_i f hcal
      split at hc
      · simp only [Option.map_eq_some_iff] at hc
        obtain ⟨s, hs, hlo⟩ := hc
        exact simplecase s hs hlo.symm
      simp only [Option.map_eq_some_iff] at hc
      obtain ⟨ys, hys, hlo⟩ := hc
      simp only [evOp, ← hlo] at h
      refine callcase f _ (c.args.map a.eval) (by simpa using compL_rep ht hys) ?_ h
      unfold execOp; rw [ho]
      have he := h.1
      unfold Enters at he
      simp [resolve, hcal, Act.eval, Deferred.ofValue, invoke]
      exact he _ w
    · rename_i x hne hcal
      split at hc
      · rename_i x' ys hx' hys
        simp only [Option.some.injEq] at hc
        simp only [evOp, ← hc] at h
        have rx := compA_rep ht hx'
        generalize hfv : x'.ev ts = F at h rx
        split at h
        · rename_i g first caps
          generalize hev : a.eval x = V at rx
          cases rx with
          | @fn _ _ _ vs ws hs1 hs2 hh1 hh2 =>
            refine callcase g _ (vs ++ c.args.map a.eval ++ ws) ?_ ?_ h
            · have r1 : Reps E first vs.toList := ⟨by simpa using hs1, fun i a v ha hv => hh1 i a v ha (by simpa using hv)⟩
              have r2 : Reps E caps ws.toList := ⟨by simpa using hs2, fun i a v ha hv => hh2 i a v ha (by simpa using hv)⟩
              have := (r1.append (compL_rep ht hys)).append r2
              simpa using this
            · unfold execOp; rw [ho]
              have he := h.1
              unfold Enters at he
              simp [resolve, hcal, hev, Deferred.ofValue, invoke, he]
        · exact h.elim
      · cases hc
    · simp only [Option.map_eq_some_iff] at hc
      obtain ⟨s, hs, hlo⟩ := hc
      exact simplecase s hs hlo.symm
  · rename_i x ho
    simp only [Option.map_eq_some_iff] at hc
    obtain ⟨y, hy, hlo⟩ := hc
    simp only [evOp, ← hlo] at h
    have rx := compA_rep ht hy
    generalize y.ev ts = Y at h rx
    split at h
    · rename_i t q
      generalize hev : a.eval x = V at rx
      have rx0 := rx
      cases rx with
      | @ifc _ _ v hv =>
        unfold Oper.wp execOp
        rw [ho]
        simp only [hev, Instr.panic]
        show conc W0 E0 n1 K (.panic [{ v := .iface t v, recovered := false }]) a w
        exact ⟨E, σ, hx, hnew, by omega, rw1, hdf, ts, .panic (.ifc t q), ht, ⟨_, rfl, rx0⟩, h⟩
    · exact h.elim
  · simp only [Option.map_eq_some_iff] at hc
    obtain ⟨s, hs, hlo⟩ := hc
    exact simplecase s hs hlo.symm

theorem evOps_sound (hC : C.Ok P) {hs : Hints} {id : Nat} {ops : Array Oper} {n0 n : Nat} {K : Kt} {E0 : Env} {n1 : Nat} (hn1 : n1 ≤ n0) :
    ∀ (idx : List Nat) (l : List LOp), compOps C hs id ops idx = some l → idx.Nodup → (∀ i ∈ idx, i < n) → ∀ (E : Env) (ts : List AV) (σ : Heap) (a : Act) (w : World), Ext E0 E → (∀ id b, E.ι id = some b → E0.ι id = some b ∨ n1 ≤ id) → n0 + n ≤ σ.next → Rel W0 E (Free n0 l σ.next) σ.obj w → Reps E ts a.tmps.toList → a.defers = [] →
      evOps P W0 n0 l K ts σ → wpOps P ops (conc W0 E0 n1 K) idx a w
  | [], l, hc, _, _, E, ts, σ, a, w, hx, hnew, hσ, r, ht, hdf, h => by
    cases hc
    exact ⟨E, σ, hx, hnew, by omega, r.used fun i hi => hi.1, hdf, ts, .normal, ht, trivial, h⟩
  | i :: rest, l, hc, hnd, hlt, E, ts, σ, a, w, hx, hnew, hσ, r, ht, hdf, h => by
    unfold compOps at hc
    split at hc
    · cases hc
    · rename_i o ho
      split at hc
      · rename_i g x l' hg hxo hl'
        cases hc
        have hidx : ∀ (idx : List Nat) (l : List LOp), compOps C hs id ops idx = some l → ∀ q ∈ l, q.i ∈ idx := by
          intro idx
          induction idx with
          | nil => intro l hl q hq; cases hl; simp at hq
          | cons j idx ih =>
            intro l hl q hq
            unfold compOps at hl
            split at hl
            · cases hl
            · split at hl
              · rename_i hl2; cases hl
                rcases List.mem_cons.1 hq with rfl | hq
                · exact List.mem_cons_self ..
                · exact List.mem_cons_of_mem _ (ih _ hl2 q hq)
              · cases hl
        have hmem := hidx rest l' hl'
        have hnd' := List.nodup_cons.1 hnd
        have ih := evOps_sound hC (E0 := E0) (K := K) hn1 rest l' hl' hnd'.2 (fun j hj => hlt j (List.mem_cons_of_mem _ hj))
        have hi := hlt i (List.mem_cons_self ..)
        have hskip : evOps P W0 n0 l' K (setD ts o.dst .undef) σ → wpOps P ops (conc W0 E0 n1 K) rest (a.put o.dst undef) w := fun hh =>
          ih E _ σ _ w hx hnew hσ (r.used fun i hi => ⟨hi.1, fun q hq => hi.2 q (List.mem_cons_of_mem _ hq)⟩) (put_reps ht .undef o.dst) (by cases o.dst <;> exact hdf) hh
        have hdo : evOp P W0 n0 { i, dst := o.dst, g, op := x } (evOps P W0 n0 l' K) K ts σ → o.wp P a w (wpOps P ops (conc W0 E0 n1 K) rest) (conc W0 E0 n1 K) := fun hh =>
          evOp_sound hC (.inl hxo) rfl hi (l := l') (fun q hq => hlt q.i (List.mem_cons_of_mem _ (hmem q hq))) (fun q hq he => hnd'.1 (by have h0 := hmem q hq; rw [show q.i = i from he] at h0; exact h0)) hn1 (fun E ts σ a w h1 h2 h3 h4 h5 h6 h7 => ih E ts σ a w h1 h2 h3 h4 h5 h6 h7) hx hnew hσ r ht hdf hh
        simp only [wpOps, ho]
        unfold compG at hg
        split at hg
        · rename_i hgu
          cases hg
          have hwt : Region.wanted o (yielded ops a.tmps) = true := by simp [Region.wanted, hgu]
          rw [if_pos hwt]
          simp only [evOps] at h
          exact .inl (hdo h)
        · rename_i j want hgu
          split at hg
          · rename_i d hd
            cases hg
            simp only [evOps] at h
            have rd := compA_rep (x := .tmp d) (y := .t d) ht rfl
            simp only [Arg.ev] at rd
            generalize hD : ts.getD d .undef = D at h rd
            by_cases hu : D = .undef
            · subst hu
              have hy : yielded ops a.tmps j = none := undef_yields hd rd
              have hwt : ¬ Region.wanted o (yielded ops a.tmps) = true := by simp [Region.wanted, hgu, hy]
              rw [if_neg hwt]
              refine hskip ?_
              cases want <;> simpa [guardV] using h
            rw [guardV_ne hu] at h
            split at h
            · rename_i b
              have hb := rd.bool_inv
              have hy : yielded ops a.tmps j = some b := by
                simp only [yielded, hd, Option.bind_some]
                have : a.tmps.getD d undef = .bool b := hb
                have hlt2 : d < a.tmps.size := by
                  rcases Nat.lt_or_ge d a.tmps.size with q | q
                  · exact q
                  · simp [Array.getD_eq_getD_getElem?, Array.getElem?_eq_none q, undef] at this
                have : a.tmps[d]? = some (.bool b) := by
                  rw [Array.getElem?_eq_getElem hlt2]
                  simpa [Array.getD_eq_getD_getElem?, Array.getElem?_eq_getElem hlt2] using this
                rw [this]
              by_cases hbw : b = want
              · have hwt : Region.wanted o (yielded ops a.tmps) = true := by simp [Region.wanted, hgu, hy, hbw]
                rw [if_pos hwt]
                rw [if_pos hbw] at h
                exact .inl (hdo h)
              · have hwt : ¬ Region.wanted o (yielded ops a.tmps) = true := by simp [Region.wanted, hgu, hy, hbw]
                rw [if_neg hwt]
                rw [if_neg hbw] at h
                exact hskip h
            · exact h.elim
          · cases hg
      · cases hc
end
end Go.Proofs.YtgahmpfpnclefaaW.Abs
