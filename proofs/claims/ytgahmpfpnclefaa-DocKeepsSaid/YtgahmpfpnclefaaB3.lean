/- Code over locals by name, reckoned by simp. -/
import Derived.Test.YtgahmpfpnclefaaB2
namespace Go.Proofs.YtgahmpfpnclefaaW.Abs
open Go.RowKit
set_option linter.unusedVariables false
set_option linter.unusedSimpArgs false

class KC2 where k : Kt2
class NC2 where n : List AV → Loc → Heap → Prop
class HC2 where n : List AV → Loc → Hp → Prop

section
variable (P : Program) (W0 : World) (C : Ctx) (hs : Hints)
def ev2I [K : KC2] (s : S2) (ts : List AV) (loc : Loc) (τ : Heap) : Prop := ev2 P W0 C hs s K.k ts loc τ
def evOps2I [K : KC2] (n0 : Nat) (l : List LOp2) (ts : List AV) (loc : Loc) (τ : Heap) : Prop := evOps2 P W0 n0 l K.k ts loc τ
def evOp2I [N : NC2] [K : KC2] (n0 i : Nat) (d : Option Nat) (op : LO2) (ts : List AV) (loc : Loc) (τ : Heap) : Prop := evOp2 P W0 n0 ⟨i, d, none, op⟩ N.n K.k ts loc τ
def evD2I [N : HC2] (n0 m : Nat) (l : List (LOp2 × FP)) (ts : List AV) (loc : Loc) (h : Hp) : Prop := evD2 P W0 n0 m l N.n ts loc h
def evDOp2I [N : HC2] (n0 m i : Nat) (d : Option Nat) (op : LO2) (fp : FP) (ts : List AV) (loc : Loc) (h : Hp) : Prop := evDOp2 P W0 n0 m ⟨i, d, none, op⟩ fp N.n ts loc h
def loop2I [K : KC2] (s : S2) (ts : List AV) (loc : Loc) (τ : Heap) : Prop := ALoop2 P W0 C hs s K.k ts loc τ
def hcallI [R : RC] (f : FuncId) (args : List AV) (τ : Heap) : Prop := HCalls P W0 f args τ R.r
def hcallvI [R : RC] (v : AV) (args : List AV) (τ : Heap) : Prop := match v with | .fn (.func f) first caps => HCalls P W0 f (first ++ args ++ caps) τ R.r | _ => False
def ihcallI [R : RC] (f : FuncId) (args : List AV) (m : Nat) (h : Hp) : Prop := ∀ m', m ≤ m' → (∀ i x, h i = some x → i < m') → HCalls P W0 f args ⟨m', h⟩ R.r
end

section
variable {P : Program} {W0 : World} {C : Ctx} {hs : Hints} {ts : List AV} {loc : Loc} {τ : Heap}

@[simp] theorem ev2I_skip [K : KC2] : ev2I P W0 C hs .skip ts loc τ = K.k .normal ts loc τ := rfl
@[simp] theorem ev2I_ops [K : KC2] (n : Nat) (l : List LOp2) : ev2I P W0 C hs (.ops n l) ts loc τ = evOps2I P W0 τ.next l ts loc ⟨τ.next + n, τ.obj⟩ := rfl
@[simp] theorem ev2I_dops [K : KC2] (n : Nat) (l : List (LOp2 × FP)) : ev2I P W0 C hs (.dops n l) ts loc τ = @evD2I P W0 ⟨fun ts loc h => ∀ m, τ.next + n ≤ m → K.k .normal ts loc ⟨m, h⟩⟩ τ.next (τ.next + n) l ts loc τ.obj := rfl
@[simp] theorem ev2I_dopc [K : KC2] (n : Nat) (l : List (LOp2 × FP)) : ev2I P W0 C hs (.dopc n l) ts loc τ = @evD2I P W0 ⟨fun ts loc h => ∀ m, τ.next + n ≤ m → (∀ i x, h i = some x → i < m) → K.k .normal ts loc ⟨m, h⟩⟩ τ.next (τ.next + n) l ts loc τ.obj := rfl
@[simp] theorem ev2I_seq [K : KC2] (a b : S2) : ev2I P W0 C hs (.seq a b) ts loc τ = @ev2I P W0 C hs ⟨fun e ts loc τ => match e with | .normal => ev2I P W0 C hs b ts loc τ | e => K.k e ts loc τ⟩ a ts loc τ := rfl
@[simp] theorem ev2I_block [K : KC2] (id : Nat) (a : S2) : ev2I P W0 C hs (.block id a) ts loc τ = @ev2I P W0 C hs ⟨fun e ts loc τ => match e with | .exit i => if i = id then K.k .normal ts loc τ else K.k (.exit i) ts loc τ | e => K.k e ts loc τ⟩ a ts loc τ := rfl
@[simp] theorem ev2I_loop [K : KC2] (a : S2) : ev2I P W0 C hs (.loop a) ts loc τ = loop2I P W0 C hs a ts loc τ := rfl
@[simp] theorem ev2I_refuse [K : KC2] : ev2I P W0 C hs .refuse ts loc τ = False := rfl
@[simp] theorem ev2I_exit [K : KC2] (id : Nat) : ev2I P W0 C hs (.exit id) ts loc τ = K.k (.exit id) ts loc τ := rfl
@[simp] theorem ev2I_ret [K : KC2] : ev2I P W0 C hs .ret ts loc τ = K.k .ret ts loc τ := rfl
@[simp] theorem ev2I_cond [K : KC2] (c : Arg) (a b : S2) : ev2I P W0 C hs (.cond c a b) ts loc τ = @condI (c.ev ts) ⟨ev2I P W0 C hs a ts loc τ⟩ ⟨ev2I P W0 C hs b ts loc τ⟩ := rfl
@[simp] theorem evOps2I_nil [K : KC2] (n0 : Nat) : evOps2I P W0 n0 [] ts loc τ = K.k .normal ts loc τ := rfl
@[simp] theorem evOps2I_plain [K : KC2] (n0 i : Nat) (d : Option Nat) (op : LO2) (r : List LOp2) : evOps2I P W0 n0 (⟨i, d, none, op⟩ :: r) ts loc τ = @evOp2I P W0 ⟨evOps2I P W0 n0 r⟩ K n0 i d op ts loc τ := rfl
@[simp] theorem evOps2I_guard [K : KC2] (n0 i g : Nat) (want : Bool) (d : Option Nat) (op : LO2) (r : List LOp2) : evOps2I P W0 n0 (⟨i, d, some (g, want), op⟩ :: r) ts loc τ = @guardI (tmp ts g) want ⟨@evOp2I P W0 ⟨evOps2I P W0 n0 r⟩ K n0 i d op ts loc τ⟩ ⟨evOps2I P W0 n0 r (setD ts d .undef) loc τ⟩ := rfl

def ltOk (n : Option Nat) : Option (Nat × TypeId × List (List AV) × List AV × Nat × Nat) → Prop | some (_, _, _, e, _, off) => partOk e off n | none => False
def ltVal (n : Option Nat) : Option (Nat × TypeId × List (List AV) × List AV × Nat × Nat) → AV | some (_, _, _, e, _, off) => partOf e off n | none => .undef
def lsOk (n : Nat) (c : List AV) : Option (Nat × TypeId × List (List AV) × List AV × Nat × Nat) → Prop | some (_, _, _, e, _, off) => c.length = n ∧ off + n ≤ e.length ∧ c.all AV.one = true | none => False
def lsLoc (loc : Loc) (k : Nat) (c : List AV) : Option (Nat × TypeId × List (List AV) × List AV × Nat × Nat) → Loc | some (id, ty, es, _, i, off) => setL loc k (.box id ty (setAt es i off c)) | none => loc
@[simp] theorem ltOk_some (n : Option Nat) (a : Nat) (b : TypeId) (c : List (List AV)) (e : List AV) (i o : Nat) : ltOk n (some (a, b, c, e, i, o)) = partOk e o n := rfl
@[simp] theorem ltVal_some (n : Option Nat) (a : Nat) (b : TypeId) (c : List (List AV)) (e : List AV) (i o : Nat) : ltVal n (some (a, b, c, e, i, o)) = partOf e o n := rfl
@[simp] theorem lsOk_some (n : Nat) (cs : List AV) (a : Nat) (b : TypeId) (c : List (List AV)) (e : List AV) (i o : Nat) : lsOk n cs (some (a, b, c, e, i, o)) = (cs.length = n ∧ o + n ≤ e.length ∧ cs.all AV.one = true) := rfl
@[simp] theorem lsLoc_some (k : Nat) (cs : List AV) (a : Nat) (b : TypeId) (c : List (List AV)) (e : List AV) (i o : Nat) : lsLoc loc k cs (some (a, b, c, e, i, o)) = setL loc k (.box a b (setAt c i o cs)) := rfl
@[simp] theorem boxOf_box (a : Nat) (ty : TypeId) (es : List (List AV)) (i off : Nat) : boxOf (.box a ty es) (.bp a i off) = (es[i]?).map fun e => (a, ty, es, e, i, off) := by simp [boxOf]
def laOk (s bytes : Nat) : Option (List (List AV)) → Option (List (List AV)) → Prop | some es, some ns => (∀ e, e ∈ ns → e.length = s) ∧ (es.length + ns.length) * bytes ≤ 140737488355328 ∧ es.length + ns.length ≤ 4611686018427387904 | _, _ => False
@[simp] theorem laOk_some (s bytes : Nat) (es ns : List (List AV)) : laOk s bytes (some es) (some ns) = ((∀ e, e ∈ ns → e.length = s) ∧ (es.length + ns.length) * bytes ≤ 140737488355328 ∧ es.length + ns.length ≤ 4611686018427387904) := rfl
@[simp] theorem growOk_nils (c : LC) (s : Nat) : growOk c s .nils = some [] := rfl
@[simp] theorem growOk_row (id : Nat) (ty : Option TypeId) (s : Nat) (es : List (List AV)) : growOk (.tok id ty s) s (.row es (some id)) = some es := by simp [growOk]
@[simp] theorem growLoc_row (id : Nat) (ty : TypeId) (s : Nat) (c : LC) (ns es : List (List AV)) (t : Nat) : growLoc id ty s c ns (.row es (some t)) = .tok id (growTy ty c) s := rfl
@[simp] theorem growLoc_nils0 (id : Nat) (ty : TypeId) (s : Nat) (c : LC) : growLoc id ty s c [] .nils = c := rfl
@[simp] theorem growLoc_nils1 (id : Nat) (ty : TypeId) (s : Nat) (c : LC) (e : List AV) (r : List (List AV)) : growLoc id ty s c (e :: r) .nils = .tok id (some ty) s := rfl
def liOk (s i : Nat) : Option (List (List AV)) → Prop | some es => someLen es[i]? s | none => False
@[simp] theorem liOk_some (s i : Nat) (es : List (List AV)) : liOk s i (some es) = someLen es[i]? s := rfl
def lbOk (s : Nat) (lo : Int) (hi : Nat → Int) : Option (List (List AV)) → Prop | some es => 0 ≤ lo ∧ lo ≤ hi es.length ∧ hi es.length ≤ es.length ∧ ∀ e, e ∈ es → e.length = s | none => False
@[simp] theorem lbOk_some (s : Nat) (lo : Int) (hi : Nat → Int) (es : List (List AV)) : lbOk s lo hi (some es) = (0 ≤ lo ∧ lo ≤ hi es.length ∧ hi es.length ≤ es.length ∧ ∀ e, e ∈ es → e.length = s) := rfl
theorem elOf_box {a : Nat} {ty : TypeId} {es : List (List AV)} {st n : Nat} (h : st + n ≤ es.length) : elOf (.box a ty es) (.sl a st n) = some ((es.drop st).take n) := by simp [elOf, h]
theorem elOf_all {a : Nat} {ty : TypeId} {es : List (List AV)} {n : Nat} (h : es.length = n) : elOf (.box a ty es) (.sl a 0 n) = some es := by subst h; simp [elOf]

section
variable {n0 i : Nat} {d : Option Nat} [N : NC2]
@[simp] theorem evOp2I_s [K : KC2] (s : SO) : evOp2I P W0 n0 i d (.o (.s s)) ts loc τ = @andI (s.ok (n0 + i) ts τ.obj) ⟨N.n (setD ts d (s.val (n0 + i) ts τ.obj)) loc ⟨τ.next, s.heap (n0 + i) ts τ.obj⟩⟩ := rfl
@[simp] theorem evOp2I_call [K : KC2] (f : FuncId) (l : List Arg) : evOp2I P W0 n0 i d (.o (.call f l)) ts loc τ = @hcallI P W0 ⟨fun | .ret v, σ' => N.n (setD ts d v) loc σ' | .pan v, σ' => K.k (.panic v) ts loc σ'⟩ f (l.map (·.ev ts)) τ := rfl
@[simp] theorem evOp2I_icall [K : KC2] (f : FuncId) (l : List Arg) : evOp2I P W0 n0 i d (.o (.icall f l)) ts loc τ = @hcallI P W0 ⟨fun | .ret v, σ' => N.n (setD ts d v) loc σ' | .pan v, σ' => K.k (.panic v) ts loc σ'⟩ f (l.map (·.ev ts)) τ := rfl
@[simp] theorem evOp2I_callv [K : KC2] (f : Arg) (l : List Arg) : evOp2I P W0 n0 i d (.o (.callv f l)) ts loc τ = @hcallvI P W0 ⟨fun | .ret v, σ' => N.n (setD ts d v) loc σ' | .pan v, σ' => K.k (.panic v) ts loc σ'⟩ (f.ev ts) (l.map (·.ev ts)) τ := rfl
@[simp] theorem evOp2I_panic [K : KC2] (x : Arg) : evOp2I P W0 n0 i d (.o (.panic x)) ts loc τ = @panicI (x.ev ts) ⟨fun v => K.k (.panic v) ts loc τ⟩ := by
  unfold evOp2I evOp2 panicI; dsimp only; cases x.ev ts <;> rfl
@[simp] theorem evOp2I_lalloc [K : KC2] (k : Nat) (ty : TypeId) (z : List AV) : evOp2I P W0 n0 i d (.lalloc k ty z) ts loc τ = @andI (z.all AV.one = true) ⟨N.n (setD ts d (.bp (n0 + i) 0 0)) (setL loc k (.box (n0 + i) ty [z])) τ⟩ := rfl
@[simp] theorem evOp2I_lbox [K : KC2] (k : Nat) (ty : TypeId) (x : Arg) : evOp2I P W0 n0 i d (.lbox k ty x) ts loc τ = @andI ((x.ev ts).cells.all AV.one = true) ⟨N.n (setD ts d (.bp (n0 + i) 0 0)) (setL loc k (.box (n0 + i) ty [(x.ev ts).cells])) τ⟩ := rfl
@[simp] theorem evOp2I_lload [K : KC2] (k : Nat) (n : Option Nat) (x : Arg) : evOp2I P W0 n0 i d (.lload k n x) ts loc τ = @andI (ltOk n (boxOf (loc k) (x.ev ts))) ⟨N.n (setD ts d (ltVal n (boxOf (loc k) (x.ev ts)))) loc τ⟩ := rfl
@[simp] theorem evOp2I_lstore [K : KC2] (k n : Nat) (a x : Arg) : evOp2I P W0 n0 i d (.lstore k n a x) ts loc τ = @andI (lsOk n (x.ev ts).cells (boxOf (loc k) (a.ev ts))) ⟨N.n (setD ts d .undef) (lsLoc loc k (x.ev ts).cells (boxOf (loc k) (a.ev ts))) τ⟩ := rfl
@[simp] theorem evOp2I_lapp [K : KC2] (k : Nat) (ty : TypeId) (s b : Nat) (x y : Arg) : evOp2I P W0 n0 i d (.lapp k ty s b x y) ts loc τ = @andI (laOk s b (growOk (loc k) s (x.ev ts)) (srcElems τ.obj (y.ev ts))) ⟨N.n (setD ts d (appRes (n0 + i) ((srcElems τ.obj (y.ev ts)).getD []) (x.ev ts))) (setL loc k (growLoc (n0 + i) ty s (loc k) ((srcElems τ.obj (y.ev ts)).getD []) (x.ev ts))) τ⟩ := by
  unfold evOp2I evOp2 andI; dsimp only [LO2.lok, LO2.lval, LO2.lloc]; congr 1
@[simp] theorem evOp2I_lgrow [K : KC2] (k : Nat) (ty : TypeId) (s b : Nat) (x y : Arg) : evOp2I P W0 n0 i d (.lgrow k ty s b x y) ts loc τ = @andI (laOk s b (stkOk (loc k) ty s (x.ev ts)) (srcElems τ.obj (y.ev ts))) ⟨N.n (setD ts d (stkRes (n0 + i) ((srcElems τ.obj (y.ev ts)).getD []) (x.ev ts))) (setL loc k (stkLoc (n0 + i) ty (loc k) ((srcElems τ.obj (y.ev ts)).getD []) (x.ev ts))) τ⟩ := by
  unfold evOp2I evOp2 andI; dsimp only [LO2.lok, LO2.lval, LO2.lloc]; congr 1
@[simp] theorem evOp2I_lmks [K : KC2] (k : Nat) (ty : TypeId) (s b : Nat) (z : List AV) (l c : Arg) (bx : Bool) : evOp2I P W0 n0 i d (.lmks k ty s b z l c bx) ts loc τ = @andI (z.length = s ∧ z.all AV.one = true ∧ (l.ev ts).isInt ∧ (c.ev ts).isInt ∧ 0 ≤ (l.ev ts).toInt ∧ (l.ev ts).toInt ≤ (c.ev ts).toInt ∧ (c.ev ts).toInt * b ≤ 140737488355328 ∧ (c.ev ts).toInt ≤ 9223372036854775807)
    ⟨N.n (setD ts d (if bx = true then .sl (n0 + i) 0 (l.ev ts).toInt.toNat else .row (List.replicate (l.ev ts).toInt.toNat z) (some (n0 + i)))) (setL loc k (if bx = true then .box (n0 + i) ty (List.replicate (l.ev ts).toInt.toNat z) else .tok (n0 + i) (some ty) s)) τ⟩ := rfl
@[simp] theorem evOp2I_lbsl [K : KC2] (k : Nat) (ty : TypeId) (s n : Nat) (z : List AV) (ps : List (Nat × Arg)) (bx : Bool) : evOp2I P W0 n0 i d (.lbsl k ty s n z ps bx) ts loc τ = @andI (fillSOk ts s n ps ∧ z.length = s ∧ z.all AV.one = true ∧ n * s ≤ 16777216)
    ⟨N.n (setD ts d (if bx = true then .sl (n0 + i) 0 n else .row (fillS ts (List.replicate n z) ps) (some (n0 + i)))) (setL loc k (if bx = true then .box (n0 + i) ty (fillS ts (List.replicate n z) ps) else .tok (n0 + i) (some ty) s)) τ⟩ := rfl
@[simp] theorem evOp2I_lia [K : KC2] (k s : Nat) (x j : Arg) : evOp2I P W0 n0 i d (.lia k s x j) ts loc τ = @andI ((j.ev ts).isInt ∧ 0 ≤ (j.ev ts).toInt ∧ liOk s (j.ev ts).toInt.toNat (elOf (loc k) (x.ev ts))) ⟨N.n (setD ts d (iaVal (x.ev ts) (j.ev ts).toInt.toNat)) loc τ⟩ := rfl
@[simp] theorem evOp2I_lsub [K : KC2] (k s : Nat) (x : Arg) (lo hi : Option Arg) : evOp2I P W0 n0 i d (.lsub k s x lo hi) ts loc τ = @andI (boundOk ts lo ∧ boundOk ts hi ∧ lbOk s (bound ts 0 lo) (fun n => bound ts n hi) (elOf (loc k) (x.ev ts))) ⟨N.n (setD ts d (subVal (bound ts 0 lo).toNat (fun n => (bound ts n hi).toNat) (x.ev ts))) loc τ⟩ := rfl
end
@[simp] theorem hcallvI_fn (f : FuncId) (a b args : List AV) [R : RC] : hcallvI P W0 (.fn (.func f) a b) args τ = hcallI P W0 f (a ++ args ++ b) τ := rfl
section
variable [N : HC2] {n0 m i : Nat} {d : Option Nat} {fp : FP} {h : Hp}
@[simp] theorem evD2I_nil : evD2I P W0 n0 m [] ts loc h = N.n ts loc h := rfl
@[simp] theorem evD2I_plain (op : LO2) (r : List (LOp2 × FP)) : evD2I P W0 n0 m ((⟨i, d, none, op⟩, fp) :: r) ts loc h = @evDOp2I P W0 ⟨evD2I P W0 n0 m r⟩ n0 m i d op fp ts loc h := rfl
@[simp] theorem evD2I_guard (g : Nat) (want : Bool) (op : LO2) (r : List (LOp2 × FP)) : evD2I P W0 n0 m ((⟨i, d, some (g, want), op⟩, fp) :: r) ts loc h = @guardI (tmp ts g) want ⟨@evDOp2I P W0 ⟨evD2I P W0 n0 m r⟩ n0 m i d op fp ts loc h⟩ ⟨evD2I P W0 n0 m r (setD ts d .undef) loc h⟩ := rfl
@[simp] theorem evDOp2I_s (s : SO) : evDOp2I P W0 n0 m i d (.o (.s s)) fp ts loc h = @andI (s.ok (n0 + i) ts h) ⟨@andI (s.chk n0 i fp ts) ⟨N.n (setD ts d (s.val (n0 + i) ts h)) loc (s.heap (n0 + i) ts h)⟩⟩ := rfl
@[simp] theorem evDOp2I_call (f : FuncId) (l : List Arg) : evDOp2I P W0 n0 m i d (.o (.call f l)) fp ts loc h = @pcallI P W0 ⟨fun r => N.n (setD ts d r) loc h⟩ f (l.map (·.ev ts)) := rfl
@[simp] theorem evDOp2I_icall (f : FuncId) (l : List Arg) : evDOp2I P W0 n0 m i d (.o (.icall f l)) fp ts loc h = @ihcallI P W0 ⟨fun | .ret v, σ' => N.n (setD ts d v) loc σ'.obj | .pan _, _ => False⟩ f (l.map (·.ev ts)) m h := rfl
@[simp] theorem evDOp2I_callv (f : Arg) (l : List Arg) : evDOp2I P W0 n0 m i d (.o (.callv f l)) fp ts loc h = @pcallvI P W0 ⟨fun r => N.n (setD ts d r) loc h⟩ (f.ev ts) (l.map (·.ev ts)) := rfl
@[simp] theorem evDOp2I_lalloc (k : Nat) (ty : TypeId) (z : List AV) : evDOp2I P W0 n0 m i d (.lalloc k ty z) fp ts loc h = @andI (z.all AV.one = true) ⟨@andI (fp.W n0 (n0 + i)) ⟨N.n (setD ts d (.bp (n0 + i) 0 0)) (setL loc k (.box (n0 + i) ty [z])) h⟩⟩ := rfl
@[simp] theorem evDOp2I_lbox (k : Nat) (ty : TypeId) (x : Arg) : evDOp2I P W0 n0 m i d (.lbox k ty x) fp ts loc h = @andI ((x.ev ts).cells.all AV.one = true) ⟨@andI (fp.W n0 (n0 + i)) ⟨N.n (setD ts d (.bp (n0 + i) 0 0)) (setL loc k (.box (n0 + i) ty [(x.ev ts).cells])) h⟩⟩ := rfl
@[simp] theorem evDOp2I_lload (k : Nat) (n : Option Nat) (x : Arg) : evDOp2I P W0 n0 m i d (.lload k n x) fp ts loc h = @andI (ltOk n (boxOf (loc k) (x.ev ts))) ⟨@andI (bpIn (fp.D n0) (x.ev ts)) ⟨N.n (setD ts d (ltVal n (boxOf (loc k) (x.ev ts)))) loc h⟩⟩ := by
  unfold evDOp2I evDOp2 andI; dsimp only [LO2.lok, LO2.lval, LO2.lloc, LO2.lchk, LO2.er]; rw [chk_load]; rfl
@[simp] theorem evDOp2I_lstore (k n : Nat) (a x : Arg) : evDOp2I P W0 n0 m i d (.lstore k n a x) fp ts loc h = @andI (lsOk n (x.ev ts).cells (boxOf (loc k) (a.ev ts))) ⟨@andI (bpIn (fp.W n0) (a.ev ts)) ⟨N.n (setD ts d .undef) (lsLoc loc k (x.ev ts).cells (boxOf (loc k) (a.ev ts))) h⟩⟩ := by
  unfold evDOp2I evDOp2 andI; dsimp only [LO2.lok, LO2.lval, LO2.lloc, LO2.lchk, LO2.er]; rw [chk_store]; rfl
@[simp] theorem evDOp2I_lapp (k : Nat) (ty : TypeId) (s b : Nat) (x y : Arg) : evDOp2I P W0 n0 m i d (.lapp k ty s b x y) fp ts loc h = @andI (laOk s b (growOk (loc k) s (x.ev ts)) (srcElems h (y.ev ts))) ⟨@andI (fp.W n0 (n0 + i) ∧ tokIn (fp.W n0) (x.ev ts) ∧ chkS (fp.D n0) (y.ev ts)) ⟨N.n (setD ts d (appRes (n0 + i) ((srcElems h (y.ev ts)).getD []) (x.ev ts))) (setL loc k (growLoc (n0 + i) ty s (loc k) ((srcElems h (y.ev ts)).getD []) (x.ev ts))) h⟩⟩ := by
  unfold evDOp2I evDOp2 andI; dsimp only [LO2.lok, LO2.lval, LO2.lloc, LO2.lchk, LO2.er]; rw [chk_app]; congr 1
@[simp] theorem evDOp2I_lgrow (k : Nat) (ty : TypeId) (s b : Nat) (x y : Arg) : evDOp2I P W0 n0 m i d (.lgrow k ty s b x y) fp ts loc h = @andI (laOk s b (stkOk (loc k) ty s (x.ev ts)) (srcElems h (y.ev ts))) ⟨@andI (fp.W n0 (n0 + i) ∧ slIn (fp.W n0) (x.ev ts) ∧ chkS (fp.D n0) (y.ev ts)) ⟨N.n (setD ts d (stkRes (n0 + i) ((srcElems h (y.ev ts)).getD []) (x.ev ts))) (setL loc k (stkLoc (n0 + i) ty (loc k) ((srcElems h (y.ev ts)).getD []) (x.ev ts))) h⟩⟩ := by
  unfold evDOp2I evDOp2 andI; dsimp only [LO2.lok, LO2.lval, LO2.lloc, LO2.lchk, LO2.er]; rw [chk_grow]; congr 1
@[simp] theorem evDOp2I_lmks (k : Nat) (ty : TypeId) (s b : Nat) (z : List AV) (l c : Arg) (bx : Bool) : evDOp2I P W0 n0 m i d (.lmks k ty s b z l c bx) fp ts loc h = @andI (z.length = s ∧ z.all AV.one = true ∧ (l.ev ts).isInt ∧ (c.ev ts).isInt ∧ 0 ≤ (l.ev ts).toInt ∧ (l.ev ts).toInt ≤ (c.ev ts).toInt ∧ (c.ev ts).toInt * b ≤ 140737488355328 ∧ (c.ev ts).toInt ≤ 9223372036854775807)
    ⟨@andI (fp.W n0 (n0 + i)) ⟨N.n (setD ts d (if bx = true then .sl (n0 + i) 0 (l.ev ts).toInt.toNat else .row (List.replicate (l.ev ts).toInt.toNat z) (some (n0 + i)))) (setL loc k (if bx = true then .box (n0 + i) ty (List.replicate (l.ev ts).toInt.toNat z) else .tok (n0 + i) (some ty) s)) h⟩⟩ := rfl
@[simp] theorem evDOp2I_lbsl (k : Nat) (ty : TypeId) (s n : Nat) (z : List AV) (ps : List (Nat × Arg)) (bx : Bool) : evDOp2I P W0 n0 m i d (.lbsl k ty s n z ps bx) fp ts loc h = @andI (fillSOk ts s n ps ∧ z.length = s ∧ z.all AV.one = true ∧ n * s ≤ 16777216)
    ⟨@andI (fp.W n0 (n0 + i)) ⟨N.n (setD ts d (if bx = true then .sl (n0 + i) 0 n else .row (fillS ts (List.replicate n z) ps) (some (n0 + i)))) (setL loc k (if bx = true then .box (n0 + i) ty (fillS ts (List.replicate n z) ps) else .tok (n0 + i) (some ty) s)) h⟩⟩ := rfl
@[simp] theorem evDOp2I_lia (k s : Nat) (x j : Arg) : evDOp2I P W0 n0 m i d (.lia k s x j) fp ts loc h = @andI ((j.ev ts).isInt ∧ 0 ≤ (j.ev ts).toInt ∧ liOk s (j.ev ts).toInt.toNat (elOf (loc k) (x.ev ts))) ⟨@andI (chkS (fp.D n0) (x.ev ts)) ⟨N.n (setD ts d (iaVal (x.ev ts) (j.ev ts).toInt.toNat)) loc h⟩⟩ := rfl
@[simp] theorem evDOp2I_lsub (k s : Nat) (x : Arg) (lo hi : Option Arg) : evDOp2I P W0 n0 m i d (.lsub k s x lo hi) fp ts loc h = @andI (boundOk ts lo ∧ boundOk ts hi ∧ lbOk s (bound ts 0 lo) (fun n => bound ts n hi) (elOf (loc k) (x.ev ts))) ⟨@andI (chkS (fp.D n0) (x.ev ts)) ⟨N.n (setD ts d (subVal (bound ts 0 lo).toNat (fun n => (bound ts n hi).toNat) (x.ev ts))) loc h⟩⟩ := rfl
end

/-- a loop whose measure sinks; the number of temporaries stays -/
theorem loop2I_ind (hC : C.Ok P) {K : KC2} {s : S2} (hw : s.wf = true) {α : Type} (m : α → Nat) (I : α → List AV → Loc → Heap → Prop)
    (round : ∀ a ts loc τ, I a ts loc τ → (∀ a' ts' loc' τ', m a' < m a → I a' ts' loc' τ' → loop2I P W0 C hs s ts' loc' τ') → @ev2I P W0 C hs ⟨fun e ts loc τ => match e with | .normal => loop2I P W0 C hs s ts loc τ | e => K.k e ts loc τ⟩ s ts loc τ)
    (a : α) (h : I a ts loc τ) : loop2I P W0 C hs s ts loc τ := by
  induction hn : m a using Nat.strongRecOn generalizing a ts loc τ with
  | _ n ih =>
    refine aloop2 hC hw (round a ts loc τ h (fun a' ts' loc' τ' hl hi => ih (m a') (by omega) a' hi rfl))
theorem loop2I_round {K : KC2} (hC : C.Ok P) {s : S2} (hw : s.wf = true) (h : @ev2I P W0 C hs ⟨fun e ts loc τ => match e with | .normal => loop2I P W0 C hs s ts loc τ | e => K.k e ts loc τ⟩ s ts loc τ) : loop2I P W0 C hs s ts loc τ := aloop2 hC hw h
theorem loop2I_weak {K : KC2} {s : S2} {ts' : List AV} (hw : ∀ (E : Env) vs, Reps E ts vs → Reps E ts' vs) (h : loop2I P W0 C hs s ts' loc τ) : loop2I P W0 C hs s ts loc τ := aloop2_weak hw h
theorem loop2I_drop {K : KC2} {s : S2} {loc' : Loc} {h' : Hp} (hl : ∀ k i x, (loc' k).obj = some (i, x) → (loc k).obj = some (i, x)) (hh : ∀ i x, h' i = some x → τ.obj i = some x) (h : loop2I P W0 C hs s ts loc' ⟨τ.next, h'⟩) : loop2I P W0 C hs s ts loc τ := aloop2_drop hl hh h
/-- a temporary told without its marks -/
theorem reps_bare_at {E : Env} {ts : List AV} {vs : List Value} (h : Reps E ts vs) (n : Nat) : Reps E (ts.set n (tmp ts n).bare) vs := by
  refine ⟨by simpa using h.1, fun i a v ha hv => ?_⟩
  by_cases e : n = i
  · subst e
    have hi : n < ts.length := by have := (List.getElem?_eq_some_iff.1 ha).1; simpa using this
    rw [List.getElem?_set_self hi] at ha
    cases ha
    have : tmp ts n = ts[n] := by simp [tmp, hi]
    rw [this]
    exact (h.2 n _ v (List.getElem?_eq_getElem hi) hv).bare
  · rw [List.getElem?_set_ne e] at ha; exact h.2 i a v ha hv

theorem ev2I_intro {K : Kt2} {s : S2} (h : @ev2I P W0 C hs ⟨K⟩ s ts loc τ) : ev2 P W0 C hs s K ts loc τ := h
theorem hcallI_use {R : RC} {f : FuncId} {args args' : List AV} {Q : AOut → Heap → Prop} (h : HCalls P W0 f args' τ Q) (e : bareL args = args') (hR : ∀ o τ', τ.next ≤ τ'.next → Q o τ' → R.r o τ') : hcallI P W0 f args τ := HCalls.args (e ▸ h.mono hR)
theorem hcallI_pure {R : RC} {f : FuncId} {args args' : List AV} {r : AV} (h : PCall P W0 f args' r) (e : bareL args = args') (hR : ∀ m, τ.next ≤ m → R.r (.ret r) ⟨m, τ.obj⟩) : hcallI P W0 f args τ := HCalls.args (e ▸ h.hcalls hR)
theorem ihcallI_use {R : RC} {f : FuncId} {args args' : List AV} {m : Nat} {h : Hp} {Q : AOut → Heap → Prop} (hq : ∀ m', m ≤ m' → (∀ i x, h i = some x → i < m') → HCalls P W0 f args' ⟨m', h⟩ Q) (e : bareL args = args') (hR : ∀ o τ', Q o τ' → R.r o τ') : ihcallI P W0 f args m h := fun m' hm hbd => HCalls.args (e ▸ (hq m' hm hbd).mono fun o τ' _ => hR o τ')
end

/-! a list that grows and shrinks under a name: a slice of a box -/
structure StkL (c : LC) (ty : TypeId) (s : Nat) (v : AV) (l : List (List AV)) : Prop where
  or : (v = .nils ∧ l = []) ∨ ∃ id es, c = .box id ty es ∧ v = .sl id 0 l.length ∧ l.length ≤ es.length ∧ es.take l.length = l ∧ es.length ≠ 0 ∧ ∀ e, e ∈ es → e.length = s
theorem StkL.grow {c : LC} {ty : TypeId} {s : Nat} {v : AV} {l : List (List AV)} (h : StkL c ty s v l) : stkOk c ty s v = some l := by
  rcases h.or with ⟨rfl, rfl⟩ | ⟨id, es, rfl, rfl, h1, h2, h3, h4⟩
  · rfl
  · have h5 : (es.all fun e => e.length == s) = true := List.all_eq_true.2 fun e he => by simpa using h4 e he
    simp only [stkOk, h2]
    rw [if_pos]; exact ⟨trivial, trivial, h1, h3, h5⟩
theorem StkL.next {c : LC} {ty : TypeId} {s : Nat} {v : AV} {l : List (List AV)} (h : StkL c ty s v l) (id : Nat) {ns : List (List AV)} (hne : ns ≠ []) (hs : ∀ e, e ∈ ns → e.length = s) : StkL (stkLoc id ty c ns v) ty s (stkRes id ns v) (l ++ ns) := by
  have hpos : 0 < ns.length := List.length_pos_iff.2 hne
  rcases h.or with ⟨rfl, rfl⟩ | ⟨id', es, rfl, rfl, h1, h2, h3, h4⟩
  · cases ns with
    | nil => exact absurd rfl hne
    | cons e r => exact ⟨.inr ⟨id, e :: r, rfl, by simp [stkRes], by simp, by simp, by simp, hs⟩⟩
  · refine ⟨.inr ⟨id, es.take l.length ++ ns, rfl, by simp [stkRes], by simp; omega, by rw [h2]; exact List.take_of_length_le (by simp), by simp; exact fun _ e => hne e, fun e he => ?_⟩⟩
    rcases List.mem_append.1 he with he | he
    · exact h4 e (List.mem_of_mem_take he)
    · exact hs e he
theorem StkL.len {c : LC} {ty : TypeId} {s : Nat} {v : AV} {l : List (List AV)} (h : StkL c ty s v l) : lenOf v = some l.length := by
  rcases h.or with ⟨rfl, rfl⟩ | ⟨id', es, rfl, rfl, h1, h2, h3, h4⟩ <;> rfl
theorem StkL.el {c : LC} {ty : TypeId} {s : Nat} {v : AV} {l : List (List AV)} (h : StkL c ty s v l) (hne : l ≠ []) : elOf c v = some l := by
  rcases h.or with ⟨rfl, rfl⟩ | ⟨id', es, rfl, rfl, h1, h2, h3, h4⟩
  · exact absurd rfl hne
  · unfold elOf; dsimp only; rw [if_pos ⟨rfl, by omega⟩, List.drop_zero, h2]
/-- an element's place and what stands there -/
theorem StkL.at {c : LC} {ty : TypeId} {s : Nat} {v : AV} {l : List (List AV)} (h : StkL c ty s v l) {i : Nat} {e : List AV} (hi : l[i]? = some e) : ∃ id es, iaVal v i = .bp id i 0 ∧ boxOf c (.bp id i 0) = some (id, ty, es, e, i, 0) := by
  rcases h.or with ⟨rfl, rfl⟩ | ⟨id', es, rfl, rfl, h1, h2, h3, h4⟩
  · simp at hi
  · refine ⟨id', es, by simp [iaVal], ?_⟩
    have : es[i]? = some e := by
      have hlt := (List.getElem?_eq_some_iff.1 hi).1
      rw [← h2, List.getElem?_take, if_pos hlt] at hi; exact hi
    simp [this]
/-- without its last elements -/
theorem StkL.cut {c : LC} {ty : TypeId} {s : Nat} {v : AV} {l : List (List AV)} (h : StkL c ty s v l) {n : Nat} (hn : n ≤ l.length) (hne : l ≠ []) : StkL c ty s (subVal 0 (fun _ => n) v) (l.take n) := by
  rcases h.or with ⟨rfl, rfl⟩ | ⟨id', es, rfl, rfl, h1, h2, h3, h4⟩
  · exact absurd rfl hne
  · refine ⟨.inr ⟨id', es, rfl, ?_, ?_, ?_, h3, h4⟩⟩
    · simp [subVal]; omega
    · simp; omega
    · have h5 : (l.take n).length = n := by simp; omega
      rw [h5, ← h2, List.take_take]; congr 1; omega

/-! a list that grows under a name -/
def AccL (c : LC) (s t : Nat) (l : List (List AV)) : Prop := l ≠ [] → ∃ ty, c = .tok t ty s
@[simp] theorem accL_nil (c : LC) (s t : Nat) : AccL c s t [] ↔ True := by simp [AccL]
theorem AccL.grow {c : LC} {s t : Nat} {l : List (List AV)} (h : AccL c s t l) : growOk c s (accV l t) = some l := by
  cases l with
  | nil => rfl
  | cons e r => obtain ⟨ty, rfl⟩ := h (by simp); simp [accV]
theorem AccL.next {c : LC} {s t : Nat} {l : List (List AV)} (id : Nat) (ty : TypeId) (ns : List (List AV)) : AccL (growLoc id ty s c ns (accV l t)) s id (l ++ ns) := by
  intro hne
  cases l with
  | nil => cases ns with
    | nil => exact absurd rfl hne
    | cons e r => exact ⟨_, rfl⟩
  | cons e r => exact ⟨_, rfl⟩
@[simp] theorem grow_next (c : LC) (s t : Nat) (l : List (List AV)) (id : Nat) (ty : TypeId) (ns : List (List AV)) : growOk (growLoc id ty s c ns (accV l t)) s (accV (l ++ ns) id) = some (l ++ ns) := (AccL.next (c := c) (t := t) id ty ns).grow
theorem AccL.next' {c : LC} {s t : Nat} {l l' : List (List AV)} (id : Nat) (ty : TypeId) (ns : List (List AV)) (e : l' = l ++ ns) : AccL (growLoc id ty s c ns (accV l t)) s id l' := by rw [e]; exact AccL.next id ty ns

@[simp] theorem setAt_one {e : List AV} {off : Nat} {cs : List AV} : setAt [e] 0 off cs = [e.take off ++ cs ++ e.drop (off + cs.length)] := rfl
attribute [simp] tmp_set tmp_set_ne setL_same setL_ne setL_setL List.replicate
section
variable {rs : List RV2} {R : AOut → Heap → Prop} {ts : List AV} {loc : Loc} {τ : Heap} {h : Hp}
@[simp] theorem fin2_ret : Fin2 rs R .ret ts loc τ = (resOk2 ts loc τ.obj rs ∧ R (.ret (resVal2 ts loc τ.obj rs)) τ) := rfl
@[simp] theorem fin2_normal : Fin2 rs R .normal ts loc τ = (resOk2 ts loc τ.obj rs ∧ R (.ret (resVal2 ts loc τ.obj rs)) τ) := rfl
@[simp] theorem fin2_panic (v : AV) : Fin2 rs R (.panic v) ts loc τ = R (.pan v) τ := rfl
@[simp] theorem fin2_exit (i : Nat) : Fin2 rs R (.exit i) ts loc τ = False := rfl
@[simp] theorem resOk2_nil : resOk2 ts loc h [] = True := rfl
@[simp] theorem resOk2_cons (x : RV2) (r : List RV2) : resOk2 ts loc h (x :: r) = (x.ok ts loc h ∧ resOk2 ts loc h r) := rfl
@[simp] theorem resVal2_nil : resVal2 ts loc h [] = .tup [] := rfl
@[simp] theorem resVal2_one (x : RV2) : resVal2 ts loc h [x] = x.val ts loc h := rfl
@[simp] theorem resVal2_two (x y : RV2) (r : List RV2) : resVal2 ts loc h (x :: y :: r) = .tup ((x :: y :: r).map (·.val ts loc h)) := rfl
@[simp] theorem rv2_tmp_ok (t : Nat) : RV2.ok ts loc h (.o (.tmp t)) = True := rfl
@[simp] theorem rv2_tmp_val (t : Nat) : RV2.val ts loc h (.o (.tmp t)) = tmp ts t := rfl
@[simp] theorem rv2_cell_ok (t : Nat) (n : Option Nat) : RV2.ok ts loc h (.o (.cell t n)) = targetOk (target h (tmp ts t)) n := rv_cell_ok ts h t n
@[simp] theorem rv2_cell_val (t : Nat) (n : Option Nat) : RV2.val ts loc h (.o (.cell t n)) = targetVal (target h (tmp ts t)) n := rfl
@[simp] theorem rv2_lcell_ok (k t : Nat) (n : Option Nat) : RV2.ok ts loc h (.lcell k t n) = ltOk n (boxOf (loc k) (tmp ts t)) := rfl
@[simp] theorem rv2_lcell_val (k t : Nat) (n : Option Nat) : RV2.val ts loc h (.lcell k t n) = ltVal n (boxOf (loc k) (tmp ts t)) := rfl
@[simp] theorem abare_ret (v : AV) : AOut.bare (.ret v) = .ret v.bare := rfl
@[simp] theorem abare_pan (v : AV) : AOut.bare (.pan v) = .pan v.bare := rfl
end
theorem condI_dec {A : PC} {B : PC} {p : Prop} [Decidable p] (h1 : p → A.p) (h2 : ¬ p → B.p) : @condI (.bool (decide p)) A B := by
  by_cases h : p
  · simp only [h, decide_true]; exact h1 h
  · simp only [h, decide_false]; exact h2 h
theorem condI_ndec {A : PC} {B : PC} {p : Prop} [Decidable p] (h1 : ¬ p → A.p) (h2 : p → B.p) : @condI (.bool (!decide p)) A B := by
  by_cases h : p
  · simp only [h, decide_true]; exact h2 h
  · simp only [h, decide_false]; exact h1 h

/-- a call that sees less -/
theorem HCalls.frame {P : Program} {W0 : World} {f : FuncId} {args : List AV} {n : Nat} {h0 h : Hp} {R : AOut → Heap → Prop} (sub : ∀ i x, h0 i = some x → h i = some x) (H : HCalls P W0 f args ⟨n, h0⟩ R) :
    HCalls P W0 f args ⟨n, h⟩ fun o τ' => ∃ h', (∀ i x, h' i = some x → h0 i ≠ none ∨ n ≤ i) ∧ R o ⟨τ'.next, h'⟩ ∧ τ'.obj = mix h h0 h' := by
  intro g h1 h2
  refine (H g (fun i x e => h1 i x (sub i x e)) h2).mono fun o σ' hn ⟨h', a1, a2, a3, a4, a5⟩ => ?_
  have hn' : n ≤ σ'.next := hn
  refine ⟨mix h h0 h', fun i x e => ?_, fun i x e => ?_, fun i x e => ?_, fun i x e e0 => a4 i x e ?_, h', a2, a5, rfl⟩
  · rcases mix_some e with q | ⟨_, q1, q2⟩
    · exact a1 i x q
    · exact a4 i x (h1 i x q2) q1
  · rcases mix_some e with q | ⟨_, q1, q2⟩
    · rcases a2 i x q with z | z
      · refine .inl fun hz => z ?_
        cases hi : h0 i with
        | none => exact hi
        | some y => have := sub i y hi; rw [show h i = none from hz] at this; cases this
      · exact .inr z
    · exact .inl (by show h i ≠ none; rw [q2]; simp)
  · rcases mix_some e with q | ⟨_, q1, q2⟩
    · exact a3 i x q
    · exact Nat.lt_of_lt_of_le (h2 i x (h1 i x q2)) hn'
  · cases hi : h0 i with
    | none => exact hi
    | some y => have := sub i y hi; rw [show h i = none from e0] at this; cases this
/-- at a call's end part of what is in sight may be forgotten -/
theorem HCalls.drop {P : Program} {W0 : World} {f : FuncId} {args : List AV} {τ : Heap} {R : AOut → Heap → Prop} (H : HCalls P W0 f args τ fun o τ' => ∃ obj, (∀ i x, obj i = some x → τ'.obj i = some x) ∧ R o ⟨τ'.next, obj⟩) : HCalls P W0 f args τ R := fun g h1 h2 =>
  (H g h1 h2).mono fun o σ' hn ⟨h', a1, a2, a3, a4, obj, b1, b2⟩ => ⟨obj, fun i x e => a1 i x (b1 i x e), fun i x e => a2 i x (b1 i x e), fun i x e => a3 i x (b1 i x e), a4, b2⟩
theorem mix_self {h0 h' : Hp} (hs : ∀ i, h' i = none → h0 i = none ∨ True) : mix h0 h0 h' = h' := by
  funext i; unfold mix
  cases h' i with
  | some x => rfl
  | none => cases h0 i <;> rfl
end Go.Proofs.YtgahmpfpnclefaaW.Abs
