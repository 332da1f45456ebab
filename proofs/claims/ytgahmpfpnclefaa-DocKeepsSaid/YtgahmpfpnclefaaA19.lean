/- The light code, reckoned by simp. -/
import Derived.Test.YtgahmpfpnclefaaA18
namespace Go.Proofs.YtgahmpfpnclefaaW.Abs
open Go.RowKit
set_option linter.unusedVariables false
set_option linter.unusedSimpArgs false

attribute [simp] List.getElem?_cons_zero
attribute [simp] setD AV.toInt AV.isInt binOk binVal intBin strBin fillOk fillA fillSOk fillS partOf partOk bound boundOk resOk resVal unVal eqVal eqCells eqCell bareL

@[simp] theorem one_int (k : IntKind) (n : Int) : AV.one (.int k n) = true := rfl
@[simp] theorem cells_int (k : IntKind) (n : Int) : AV.cells (.int k n) = [.int k n] := rfl
@[simp] theorem bare_int (k : IntKind) (n : Int) : AV.bare (.int k n) = .int k n := by simp [AV.bare]
@[simp] theorem one_bool (b : Bool) : AV.one (.bool b) = true := rfl
@[simp] theorem cells_bool (b : Bool) : AV.cells (.bool b) = [.bool b] := rfl
@[simp] theorem bare_bool (b : Bool) : AV.bare (.bool b) = .bool b := by simp [AV.bare]
@[simp] theorem one_str (l : List UInt8) : AV.one (.str l) = true := rfl
@[simp] theorem cells_str (l : List UInt8) : AV.cells (.str l) = [.str l] := rfl
@[simp] theorem bare_str (l : List UInt8) : AV.bare (.str l) = .str l := by simp [AV.bare]
@[simp] theorem one_nilp  : AV.one (.nilp) = true := rfl
@[simp] theorem cells_nilp  : AV.cells (.nilp) = [.nilp] := rfl
@[simp] theorem bare_nilp  : AV.bare (.nilp) = .nilp := by simp [AV.bare]
@[simp] theorem one_nils  : AV.one (.nils) = true := rfl
@[simp] theorem cells_nils  : AV.cells (.nils) = [.nils] := rfl
@[simp] theorem bare_nils  : AV.bare (.nils) = .nils := by simp [AV.bare]
@[simp] theorem one_nilm  : AV.one (.nilm) = true := rfl
@[simp] theorem cells_nilm  : AV.cells (.nilm) = [.nilm] := rfl
@[simp] theorem bare_nilm  : AV.bare (.nilm) = .nilm := by simp [AV.bare]
@[simp] theorem one_nilf  : AV.one (.nilf) = true := rfl
@[simp] theorem cells_nilf  : AV.cells (.nilf) = [.nilf] := rfl
@[simp] theorem bare_nilf  : AV.bare (.nilf) = .nilf := by simp [AV.bare]
@[simp] theorem one_nili  : AV.one (.nili) = true := rfl
@[simp] theorem cells_nili  : AV.cells (.nili) = [.nili] := rfl
@[simp] theorem bare_nili  : AV.bare (.nili) = .nili := by simp [AV.bare]
@[simp] theorem one_row (es : List (List AV)) (t : Option Nat) : AV.one (.row es t) = true := rfl
@[simp] theorem cells_row (es : List (List AV)) (t : Option Nat) : AV.cells (.row es t) = [.row es t] := rfl
@[simp] theorem bare_row (es : List (List AV)) (t : Option Nat) : AV.bare (.row es t) = .row (bareLL es) none := by simp [AV.bare]
@[simp] theorem one_ep (c : List AV) (o : Nat) : AV.one (.ep c o) = true := rfl
@[simp] theorem cells_ep (c : List AV) (o : Nat) : AV.cells (.ep c o) = [.ep c o] := rfl
@[simp] theorem bare_ep (c : List AV) (o : Nat) : AV.bare (.ep c o) = .ep (bareL c) o := by simp [AV.bare]
@[simp] theorem one_dp (es : List (List AV)) (t : Option Nat) : AV.one (.dp es t) = true := rfl
@[simp] theorem cells_dp (es : List (List AV)) (t : Option Nat) : AV.cells (.dp es t) = [.dp es t] := rfl
@[simp] theorem bare_dp (es : List (List AV)) (t : Option Nat) : AV.bare (.dp es t) = .dp (bareLL es) none := by simp [AV.bare]
@[simp] theorem one_bp (a b c : Nat) : AV.one (.bp a b c) = true := rfl
@[simp] theorem cells_bp (a b c : Nat) : AV.cells (.bp a b c) = [.bp a b c] := rfl
@[simp] theorem bare_bp (a b c : Nat) : AV.bare (.bp a b c) = .bp a b c := by simp [AV.bare]
@[simp] theorem one_sl (a b c : Nat) : AV.one (.sl a b c) = true := rfl
@[simp] theorem cells_sl (a b c : Nat) : AV.cells (.sl a b c) = [.sl a b c] := rfl
@[simp] theorem bare_sl (a b c : Nat) : AV.bare (.sl a b c) = .sl a b c := by simp [AV.bare]
@[simp] theorem one_fn (f : Fn) (a b : List AV) : AV.one (.fn f a b) = true := rfl
@[simp] theorem cells_fn (f : Fn) (a b : List AV) : AV.cells (.fn f a b) = [.fn f a b] := rfl
@[simp] theorem bare_fn (f : Fn) (a b : List AV) : AV.bare (.fn f a b) = .fn f (bareL a) (bareL b) := by simp [AV.bare]
@[simp] theorem one_mp (m : Nat) : AV.one (.mp m) = true := rfl
@[simp] theorem cells_mp (m : Nat) : AV.cells (.mp m) = [.mp m] := rfl
@[simp] theorem bare_mp (m : Nat) : AV.bare (.mp m) = .mp m := by simp [AV.bare]
@[simp] theorem one_ifc (t : TypeId) (v : AV) : AV.one (.ifc t v) = true := rfl
@[simp] theorem cells_ifc (t : TypeId) (v : AV) : AV.cells (.ifc t v) = [.ifc t v] := rfl
@[simp] theorem bare_ifc (t : TypeId) (v : AV) : AV.bare (.ifc t v) = .ifc t v.bare := by simp [AV.bare]
@[simp] theorem one_undef : AV.one .undef = false := rfl
@[simp] theorem one_agg (l : List AV) : AV.one (.agg l) = false := rfl
@[simp] theorem one_tup (l : List AV) : AV.one (.tup l) = false := rfl
@[simp] theorem cells_agg (l : List AV) : AV.cells (.agg l) = l := rfl
@[simp] theorem bare_agg (l : List AV) : AV.bare (.agg l) = .agg (bareL l) := by simp [AV.bare]
@[simp] theorem bare_tup (l : List AV) : AV.bare (.tup l) = .tup (bareL l) := by simp [AV.bare]
@[simp] theorem bare_undef : AV.bare .undef = .undef := by simp [AV.bare]
@[simp] theorem one_ite (c : Prop) [Decidable c] (a b : AV) : AV.one (if c then a else b) = if c then a.one else b.one := by split <;> rfl
theorem cells_one {v : AV} (h : v.one = true) : v.cells = [v] := by cases v <;> first | rfl | (simp at h; done)
@[simp] theorem lenOf_nils : lenOf .nils = some 0 := rfl
@[simp] theorem lenOf_row (es : List (List AV)) (t : Option Nat) : lenOf (.row es t) = some es.length := rfl
@[simp] theorem lenOf_sl (a b c : Nat) : lenOf (.sl a b c) = some c := rfl
@[simp] theorem elems_nils (h : Hp) : elems h .nils = some [] := rfl
@[simp] theorem elems_row (h : Hp) (es : List (List AV)) (t : Option Nat) : elems h (.row es t) = some es := rfl
@[simp] theorem srcElems_str (h : Hp) (l : List UInt8) : srcElems h (.str l) = some (ind l) := rfl
@[simp] theorem srcElems_nils (h : Hp) : srcElems h .nils = some [] := rfl
@[simp] theorem srcElems_row (h : Hp) (es : List (List AV)) (t : Option Nat) : srcElems h (.row es t) = some es := rfl

@[simp] theorem bareLL_nil : bareLL [] = [] := by simp [bareLL]
@[simp] theorem bareLL_cons (e : List AV) (r : List (List AV)) : bareLL (e :: r) = bareL e :: bareLL r := by simp [bareLL]
@[simp] theorem bareLL_append (a b : List (List AV)) : bareLL (a ++ b) = bareLL a ++ bareLL b := by simp [bareLL_eq]
@[simp] theorem bareL_append (a b : List AV) : bareL (a ++ b) = bareL a ++ bareL b := by simp [bareL_eq]
@[simp] theorem bareLL_map {α : Type} (f : α → List AV) (l : List α) : bareLL (l.map f) = l.map fun x => bareL (f x) := by simp [bareLL_eq, bareL_eq]
@[simp] theorem bareL_map {α : Type} (f : α → AV) (l : List α) : bareL (l.map f) = l.map fun x => (f x).bare := by simp [bareL_eq]

@[simp] theorem upd_same (h : Hp) (i : Nat) (x : Option AObj) : upd h i x i = x := by simp [upd]
theorem upd_ne {h : Hp} {i j : Nat} (hne : j ≠ i) (x : Option AObj) : upd h i x j = h j := by simp [upd, hne]
@[simp] theorem upd_upd (h : Hp) (i : Nat) (x y : Option AObj) : upd (upd h i x) i y = upd h i y := by funext j; simp only [upd]; split <;> rfl
theorem upd_swap {h : Hp} {i j : Nat} (hne : i ≠ j) (x y : Option AObj) : upd (upd h i x) j y = upd (upd h j y) i x := by
  funext k; simp only [upd]; split <;> split <;> first | rfl | (rename_i a b; exact absurd (a ▸ b) (by omega))

@[simp] theorem int_beq (x y : Int) : (x == y) = decide (x = y) := by by_cases h : x = y <;> simp [h]
@[simp] theorem int_bne (x y : Int) : (x != y) = !decide (x = y) := by by_cases h : x = y <;> simp [h]
/-- what a temporary holds -/
def tmp (ts : List AV) (n : Nat) : AV := ts.getD n .undef
@[simp] theorem ev_t (ts : List AV) (n : Nat) : Arg.ev ts (.t n) = tmp ts n := rfl
@[simp] theorem ev_k (ts : List AV) (v : AV) : Arg.ev ts (.k v) = v := rfl
@[simp] theorem tmp_zero (a : AV) (ts : List AV) : tmp (a :: ts) 0 = a := rfl
@[simp] theorem tmp_succ (a : AV) (ts : List AV) (n : Nat) : tmp (a :: ts) (n + 1) = tmp ts n := rfl
theorem tmp_set {ts : List AV} {n : Nat} (h : n < ts.length) (v : AV) : tmp (ts.set n v) n = v := by simp [tmp, h]
theorem tmp_set_ne {ts : List AV} {n m : Nat} (h : n ≠ m) (v : AV) : tmp (ts.set n v) m = tmp ts m := by simp [tmp, h]

/-- below the next number all is free -/
def Fresh (σ : Heap) : Prop := ∀ i, σ.next ≤ i → σ.obj i = none
@[simp] theorem keeps_refl (σ : Heap) : Keeps σ σ.obj ↔ True := ⟨fun _ => trivial, fun _ => Keeps.refl σ⟩
theorem keeps_upd {σ : Heap} {h : Hp} (hf : Fresh σ) {id : Nat} (hid : σ.next ≤ id) (x : Option AObj) : Keeps σ (upd h id x) ↔ Keeps σ h := by
  constructor
  · intro k i y hi
    have : i ≠ id := fun e => by rw [e, hf id hid] at hi; cases hi
    have := k i y hi
    rwa [upd_ne ‹_›] at this
  · intro k; exact k.upd hf hid x

/-! what comes later stands in places where simp does not look -/
class KC where k : Kt
class NC where n : List AV → Heap → Prop
class HC where n : List AV → Hp → Prop
class PC where p : Prop
class RC where r : AOut → Heap → Prop
class VC where v : AV → Prop

section
variable (P : Program) (W0 : World) (C : Ctx) (hs : Hints)
def evI [K : KC] (s : S) (ts : List AV) (σ : Heap) : Prop := ev P W0 C hs s K.k ts σ
def evOpsI [K : KC] (n0 : Nat) (l : List LOp) (ts : List AV) (σ : Heap) : Prop := evOps P W0 n0 l K.k ts σ
def evOpI [N : NC] [K : KC] (n0 i : Nat) (d : Option Nat) (op : LO) (ts : List AV) (σ : Heap) : Prop := evOp P W0 n0 ⟨i, d, none, op⟩ N.n K.k ts σ
def evDI [N : HC] (n0 m : Nat) (l : List (LOp × FP)) (ts : List AV) (h : Hp) : Prop := evD P W0 n0 m l N.n ts h
def evDOpI [N : HC] (n0 m i : Nat) (d : Option Nat) (op : LO) (fp : FP) (ts : List AV) (h : Hp) : Prop := evDOp P W0 n0 m ⟨i, d, none, op⟩ fp N.n ts h
def loopI [K : KC] (s : S) (ts : List AV) (σ : Heap) : Prop := ALoop P W0 C hs s K.k ts σ
def callI [R : RC] (f : FuncId) (args : List AV) (σ : Heap) : Prop := ACalls P W0 f args σ R.r
def callvI [R : RC] (v : AV) (args : List AV) (σ : Heap) : Prop := match v with | .fn (.func f) first caps => ACalls P W0 f (first ++ args ++ caps) σ R.r | _ => False
def pcallI [R : VC] (f : FuncId) (args : List AV) : Prop := ∃ r, PCall P W0 f args r ∧ R.v r
def pcallvI [R : VC] (v : AV) (args : List AV) : Prop := match v with | .fn (.func f) first caps => ∃ r, PCall P W0 f (first ++ args ++ caps) r ∧ R.v r | _ => False
def icallI [R : RC] (f : FuncId) (args : List AV) (m : Nat) (h : Hp) : Prop := ∀ m', m ≤ m' → (∀ i x, h i = some x → i < m') → ACalls P W0 f args ⟨m', h⟩ R.r
end
def condI (v : AV) [A : PC] [B : PC] : Prop := match v with | .bool t => if t = true then A.p else B.p | _ => False
def guardI (v : AV) (want : Bool) [A : PC] [B : PC] : Prop := match guardV v want with | .bool t => if t = want then A.p else B.p | _ => False
def panicI (v : AV) [R : VC] : Prop := match v with | .ifc t v => R.v (.ifc t v) | _ => False
def andI (a : Prop) [B : PC] : Prop := a ∧ B.p
/-- an operation is carried out, if what it asks is so -/
theorem andI_true [B : PC] : andI True = B.p := by simp [andI]
theorem andI_false [B : PC] : andI False = False := by simp [andI]
theorem andI_and [B : PC] (a b : Prop) : andI (a ∧ b) = @andI a ⟨@andI b B⟩ := by simp [andI, and_assoc]
theorem andI_intro {B : PC} {a : Prop} (h : a) (hB : B.p) : andI a := ⟨h, hB⟩
attribute [simp] andI_true andI_false
theorem condI_true [A : PC] [B : PC] : @condI (.bool true) A B = A.p := rfl
theorem condI_false [A : PC] [B : PC] : @condI (.bool false) A B = B.p := rfl
attribute [simp] condI_true condI_false
theorem condI_split {A : PC} {B : PC} {t : Bool} (h1 : t = true → A.p) (h2 : t = false → B.p) : @condI (.bool t) A B := by cases t <;> simp_all
@[simp] theorem guardI_undef (w : Bool) [A : PC] [B : PC] : @guardI .undef w A B = B.p := by cases w <;> simp [guardI, guardV]
@[simp] theorem guardI_same (t : Bool) [A : PC] [B : PC] : @guardI (.bool t) t A B = A.p := by simp [guardI, guardV]
@[simp] theorem guardI_tf [A : PC] [B : PC] : @guardI (.bool true) false A B = B.p := by simp [guardI, guardV]
@[simp] theorem guardI_ft [A : PC] [B : PC] : @guardI (.bool false) true A B = B.p := by simp [guardI, guardV]
theorem guardI_split {A : PC} {B : PC} {t w : Bool} (h1 : t = w → A.p) (h2 : t = (!w) → B.p) : @guardI (.bool t) w A B := by cases t <;> cases w <;> simp_all [guardI, guardV]
@[simp] theorem panicI_ifc (t : TypeId) (v : AV) [R : VC] : panicI (.ifc t v) = R.v (.ifc t v) := rfl

section
variable {P : Program} {W0 : World} {C : Ctx} {hs : Hints} {ts : List AV} {σ : Heap}

@[simp] theorem evI_skip [K : KC] : evI P W0 C hs .skip ts σ = K.k .normal ts σ := rfl
@[simp] theorem evI_ops [K : KC] (n : Nat) (l : List LOp) : evI P W0 C hs (.ops n l) ts σ = evOpsI P W0 σ.next l ts ⟨σ.next + n, σ.obj⟩ := rfl
@[simp] theorem evI_dops [K : KC] (n : Nat) (l : List (LOp × FP)) : evI P W0 C hs (.dops n l) ts σ = @evDI P W0 ⟨fun ts h => ∀ m, σ.next + n ≤ m → (∀ i x, h i = some x → i < m) → K.k .normal ts ⟨m, h⟩⟩ σ.next (σ.next + n) l ts σ.obj := rfl
@[simp] theorem evI_seq [K : KC] (a b : S) : evI P W0 C hs (.seq a b) ts σ = @evI P W0 C hs ⟨fun e ts σ => match e with | .normal => evI P W0 C hs b ts σ | e => K.k e ts σ⟩ a ts σ := rfl
@[simp] theorem evI_block [K : KC] (id : Nat) (a : S) : evI P W0 C hs (.block id a) ts σ = @evI P W0 C hs ⟨fun e ts σ => match e with | .exit i => if i = id then K.k .normal ts σ else K.k (.exit i) ts σ | e => K.k e ts σ⟩ a ts σ := rfl
@[simp] theorem evI_loop [K : KC] (a : S) : evI P W0 C hs (.loop a) ts σ = loopI P W0 C hs a ts σ := rfl
@[simp] theorem evI_refuse [K : KC] : evI P W0 C hs .refuse ts σ = False := rfl
@[simp] theorem evI_exit [K : KC] (id : Nat) : evI P W0 C hs (.exit id) ts σ = K.k (.exit id) ts σ := rfl
@[simp] theorem evI_ret [K : KC] : evI P W0 C hs .ret ts σ = K.k .ret ts σ := rfl
@[simp] theorem evI_cond [K : KC] (c : Arg) (a b : S) : evI P W0 C hs (.cond c a b) ts σ = @condI (c.ev ts) ⟨evI P W0 C hs a ts σ⟩ ⟨evI P W0 C hs b ts σ⟩ := rfl
@[simp] theorem evOpsI_nil [K : KC] (n0 : Nat) : evOpsI P W0 n0 [] ts σ = K.k .normal ts σ := rfl
@[simp] theorem evOpsI_plain [K : KC] (n0 i : Nat) (d : Option Nat) (op : LO) (r : List LOp) : evOpsI P W0 n0 (⟨i, d, none, op⟩ :: r) ts σ = @evOpI P W0 ⟨evOpsI P W0 n0 r⟩ K n0 i d op ts σ := rfl
@[simp] theorem evOpsI_guard [K : KC] (n0 i g : Nat) (want : Bool) (d : Option Nat) (op : LO) (r : List LOp) : evOpsI P W0 n0 (⟨i, d, some (g, want), op⟩ :: r) ts σ = @guardI (tmp ts g) want ⟨@evOpI P W0 ⟨evOpsI P W0 n0 r⟩ K n0 i d op ts σ⟩ ⟨evOpsI P W0 n0 r (setD ts d .undef) σ⟩ := rfl
section
variable {n0 i : Nat} {d : Option Nat} [N : NC]
@[simp] theorem evOpI_s [K : KC] (s : SO) : evOpI P W0 n0 i d (.s s) ts σ = @andI (s.ok (n0 + i) ts σ.obj) ⟨N.n (setD ts d (s.val (n0 + i) ts σ.obj)) ⟨σ.next, s.heap (n0 + i) ts σ.obj⟩⟩ := rfl
@[simp] theorem evOpI_call [K : KC] (f : FuncId) (l : List Arg) : evOpI P W0 n0 i d (.call f l) ts σ = @callI P W0 ⟨fun | .ret v, σ' => N.n (setD ts d v) σ' | .pan v, σ' => K.k (.panic v) ts σ'⟩ f (l.map (·.ev ts)) σ := rfl
@[simp] theorem evOpI_icall [K : KC] (f : FuncId) (l : List Arg) : evOpI P W0 n0 i d (.icall f l) ts σ = @callI P W0 ⟨fun | .ret v, σ' => N.n (setD ts d v) σ' | .pan v, σ' => K.k (.panic v) ts σ'⟩ f (l.map (·.ev ts)) σ := rfl
@[simp] theorem evOpI_callv [K : KC] (f : Arg) (l : List Arg) : evOpI P W0 n0 i d (.callv f l) ts σ = @callvI P W0 ⟨fun | .ret v, σ' => N.n (setD ts d v) σ' | .pan v, σ' => K.k (.panic v) ts σ'⟩ (f.ev ts) (l.map (·.ev ts)) σ := rfl
@[simp] theorem evOpI_panic [K : KC] (x : Arg) : evOpI P W0 n0 i d (.panic x) ts σ = @panicI (x.ev ts) ⟨fun v => K.k (.panic v) ts σ⟩ := by
  unfold evOpI evOp panicI; dsimp only; cases x.ev ts <;> rfl
end
@[simp] theorem callvI_fn (f : FuncId) (a b args : List AV) [R : RC] : callvI P W0 (.fn (.func f) a b) args σ = callI P W0 f (a ++ args ++ b) σ := rfl
section
variable [N : HC] {n0 m i : Nat} {d : Option Nat} {fp : FP} {h : Hp}
@[simp] theorem evDI_nil : evDI P W0 n0 m [] ts h = N.n ts h := rfl
@[simp] theorem evDI_plain (op : LO) (r : List (LOp × FP)) : evDI P W0 n0 m ((⟨i, d, none, op⟩, fp) :: r) ts h = @evDOpI P W0 ⟨evDI P W0 n0 m r⟩ n0 m i d op fp ts h := rfl
@[simp] theorem evDI_guard (g : Nat) (want : Bool) (op : LO) (r : List (LOp × FP)) : evDI P W0 n0 m ((⟨i, d, some (g, want), op⟩, fp) :: r) ts h = @guardI (tmp ts g) want ⟨@evDOpI P W0 ⟨evDI P W0 n0 m r⟩ n0 m i d op fp ts h⟩ ⟨evDI P W0 n0 m r (setD ts d .undef) h⟩ := rfl
@[simp] theorem evDOpI_s (s : SO) : evDOpI P W0 n0 m i d (.s s) fp ts h = @andI (s.ok (n0 + i) ts h) ⟨@andI (s.chk n0 i fp ts) ⟨N.n (setD ts d (s.val (n0 + i) ts h)) (s.heap (n0 + i) ts h)⟩⟩ := rfl
@[simp] theorem evDOpI_call (f : FuncId) (l : List Arg) : evDOpI P W0 n0 m i d (.call f l) fp ts h = @pcallI P W0 ⟨fun r => N.n (setD ts d r) h⟩ f (l.map (·.ev ts)) := rfl
@[simp] theorem evDOpI_icall (f : FuncId) (l : List Arg) : evDOpI P W0 n0 m i d (.icall f l) fp ts h = @icallI P W0 ⟨fun | .ret v, σ' => N.n (setD ts d v) σ'.obj | .pan _, _ => False⟩ f (l.map (·.ev ts)) m h := rfl
@[simp] theorem evDOpI_callv (f : Arg) (l : List Arg) : evDOpI P W0 n0 m i d (.callv f l) fp ts h = @pcallvI P W0 ⟨fun r => N.n (setD ts d r) h⟩ (f.ev ts) (l.map (·.ev ts)) := rfl
end
@[simp] theorem pcallvI_fn (f : FuncId) (a b args : List AV) [R : VC] : pcallvI P W0 (.fn (.func f) a b) args = pcallI P W0 f (a ++ args ++ b) := rfl

/-- a loop whose measure sinks -/
theorem loopI_ind (hC : C.Ok P) {K : KC} {s : S} {α : Type} (m : α → Nat) (I : α → List AV → Heap → Prop)
    (round : ∀ a ts σ, I a ts σ → (∀ a' ts' σ', m a' < m a → I a' ts' σ' → loopI P W0 C hs s ts' σ') → @evI P W0 C hs ⟨fun e ts σ => match e with | .normal => loopI P W0 C hs s ts σ | e => K.k e ts σ⟩ s ts σ)
    (a : α) (h : I a ts σ) : loopI P W0 C hs s ts σ := by
  induction hn : m a using Nat.strongRecOn generalizing a ts σ with
  | _ n ih =>
    refine aloop hC (round a ts σ h (fun a' ts' σ' hl hi => ih (m a') (by omega) a' hi rfl))
/-- from simp's form back -/
theorem evI_intro {K : Kt} {s : S} (h : @evI P W0 C hs ⟨K⟩ s ts σ) : ev P W0 C hs s K ts σ := h
theorem callI_use {R : RC} {f : FuncId} {args : List AV} {Q : AOut → Heap → Prop} (h : ACalls P W0 f (bareL args) σ Q) (hR : ∀ o σ', σ.next ≤ σ'.next → Q o σ' → R.r o σ') : callI P W0 f args σ := ACalls.args (h.mono hR)
theorem callI_pure {R : RC} {f : FuncId} {args : List AV} {r : AV} (h : PCall P W0 f (bareL args) r) (hR : ∀ m, σ.next ≤ m → R.r (.ret r) ⟨m, σ.obj⟩) : callI P W0 f args σ := PCall.use h hR
theorem pcallI_pure {R : VC} {f : FuncId} {args : List AV} {r : AV} (h : PCall P W0 f (bareL args) r) (hR : R.v r) : pcallI P W0 f args := ⟨r, PCall.args h, hR⟩
theorem callI_pure' {R : RC} {f : FuncId} {args args' : List AV} {r : AV} (h : PCall P W0 f args' r) (e : bareL args = args') (hR : ∀ m, σ.next ≤ m → R.r (.ret r) ⟨m, σ.obj⟩) : callI P W0 f args σ := callI_pure (e ▸ h) hR
theorem callI_use' {R : RC} {f : FuncId} {args args' : List AV} {Q : AOut → Heap → Prop} (h : ACalls P W0 f args' σ Q) (e : bareL args = args') (hR : ∀ o σ', σ.next ≤ σ'.next → Q o σ' → R.r o σ') : callI P W0 f args σ := callI_use (e ▸ h) hR
theorem pcallI_pure' {R : VC} {f : FuncId} {args args' : List AV} {r : AV} (h : PCall P W0 f args' r) (e : bareL args = args') (hR : R.v r) : pcallI P W0 f args := pcallI_pure (e ▸ h) hR
theorem loopI_round {K : KC} (hC : C.Ok P) {s : S} (h : @evI P W0 C hs ⟨fun e ts σ => match e with | .normal => loopI P W0 C hs s ts σ | e => K.k e ts σ⟩ s ts σ) : loopI P W0 C hs s ts σ := aloop hC h
end

section
variable {P : Program} {W0 : World} {C : Ctx} {hs : Hints} {K : Kt} {ts : List AV} {σ : Heap}
/-! what operations ask, for simp -/
section
variable {id n0 i : Nat} {h : Hp} {fp : FP}
def isBool : AV → Prop | .bool _ => True | _ => False
def isStr : AV → Prop | .str _ => True | _ => False
def isIfc : AV → Prop | .ifc _ _ => True | _ => False
@[simp] theorem isBool_bool (b : Bool) : isBool (.bool b) = True := rfl
@[simp] theorem isStr_str (b : List UInt8) : isStr (.str b) = True := rfl
@[simp] theorem isIfc_ifc (t : TypeId) (b : AV) : isIfc (.ifc t b) = True := rfl
theorem ok_iff {α : Type} {o : Option α} {p : α → Prop} : (∃ x, o = some x ∧ p x) ↔ (match o with | some x => p x | none => False) := by
  cases o <;> simp

@[simp] theorem ok_mv (x : Arg) : SO.ok id ts h (.mv x) = True := rfl
@[simp] theorem ok_pick (c a b : Arg) : SO.ok id ts h (.pick c a b) = isBool (c.ev ts) := by
  apply propext; simp only [SO.ok]; cases c.ev ts <;> simp [isBool]
@[simp] theorem ok_alloc (ty : TypeId) (z : List AV) : SO.ok id ts h (.alloc ty z) = (z.all AV.one = true) := rfl
@[simp] theorem ok_box (ty : TypeId) (x : Arg) : SO.ok id ts h (.box ty x) = ((x.ev ts).cells.all AV.one = true) := rfl
@[simp] theorem ok_build (z : List AV) (ps : List (Nat × Nat × Arg)) : SO.ok id ts h (.build z ps) = fillOk ts z.length ps := rfl
@[simp] theorem ok_bslice (ty : TypeId) (s n : Nat) (z : List AV) (ps : List (Nat × Arg)) (bx : Bool) : SO.ok id ts h (.bslice ty s n z ps bx) = (fillSOk ts s n ps ∧ z.length = s ∧ z.all AV.one = true ∧ n * s ≤ 16777216) := rfl
def targetOk (o : Option (List AV × Nat)) (n : Option Nat) : Prop := match o with | some (cs, off) => partOk cs off n | none => False
@[simp] theorem targetOk_some (cs : List AV) (off : Nat) (n : Option Nat) : targetOk (some (cs, off)) n = partOk cs off n := rfl
@[simp] theorem ok_load (n : Option Nat) (x : Arg) : SO.ok id ts h (.load n x) = targetOk (target h (x.ev ts)) n := by
  apply propext; simp only [SO.ok, targetOk]; cases target h (x.ev ts) with
  | none => simp
  | some p =>
    obtain ⟨a, b⟩ := p
    constructor
    · rintro ⟨cs, off, e, hh⟩; cases e; exact hh
    · intro hh; exact ⟨a, b, rfl, hh⟩
def targetVal (o : Option (List AV × Nat)) (n : Option Nat) : AV := match o with | some (cs, off) => partOf cs off n | none => .undef
@[simp] theorem targetVal_some (cs : List AV) (off : Nat) (n : Option Nat) : targetVal (some (cs, off)) n = partOf cs off n := rfl
@[simp] theorem val_load (n : Option Nat) (x : Arg) : SO.val id ts h (.load n x) = targetVal (target h (x.ev ts)) n := rfl
def boxAt (o : Option AObj) (i : Nat) : Option (List AV) := match o with | some (.box _ es) | some (.froz es) => es[i]? | _ => none
@[simp] theorem boxAt_box (ty : TypeId) (es : List (List AV)) (i : Nat) : boxAt (some (.box ty es)) i = es[i]? := rfl
@[simp] theorem boxAt_froz (es : List (List AV)) (i : Nat) : boxAt (some (.froz es)) i = es[i]? := rfl
@[simp] theorem target_bp (a b c : Nat) : target h (.bp a b c) = (boxAt (h a) b).map (·, c) := by
  simp only [target, boxAt]
  cases h a with
  | none => rfl
  | some o => cases o <;> rfl
@[simp] theorem target_ep (cs : List AV) (o : Nat) : target h (.ep cs o) = some (cs, o) := rfl
def storeOk (n : Nat) (off : Nat) (c : List AV) (o : Option AObj) (i : Nat) : Prop := match o with | some (.box _ es) => (match es[i]? with | some e => c.length = n ∧ off + n ≤ e.length ∧ c.all AV.one = true | none => False) | _ => False
@[simp] theorem storeOk_box (ty : TypeId) (n off : Nat) (c : List AV) (es : List (List AV)) (i : Nat) : storeOk n off c (some (.box ty es)) i = (match es[i]? with | some e => c.length = n ∧ off + n ≤ e.length ∧ c.all AV.one = true | none => False) := rfl
def storeAtOk (n : Nat) (c : List AV) (h : Hp) : AV → Prop | .bp a i off => storeOk n off c (h a) i | _ => False
@[simp] theorem storeAtOk_bp (n : Nat) (c : List AV) (a i off : Nat) : storeAtOk n c h (.bp a i off) = storeOk n off c (h a) i := rfl
@[simp] theorem ok_store (n : Nat) (a x : Arg) : SO.ok id ts h (.store n a x) = storeAtOk n (x.ev ts).cells h (a.ev ts) := by
  apply propext
  simp only [SO.ok]
  constructor
  · rintro ⟨id', i, off, ty, es, e, h1, h2, h3, h4, h5, h6⟩
    simp only [h1, storeAtOk, h2, storeOk, h3]; exact ⟨h4, h5, h6⟩
  · intro hh
    cases hX : a.ev ts <;> (rw [hX] at hh) <;> try exact hh.elim
    rename_i id' i off
    simp only [storeAtOk] at hh
    unfold storeOk at hh
    split at hh
    · rename_i ty es he
      split at hh
      · rename_i e hee; exact ⟨id', i, off, ty, es, e, rfl, he, hee, hh⟩
      · exact hh.elim
    · exact hh.elim
def storeHeap (c : List AV) (h : Hp) : AV → Hp | .bp a i off => (match h a with | some (.box ty es) => upd h a (some (.box ty (setAt es i off c))) | _ => h) | _ => h
@[simp] theorem heap_store (n : Nat) (a x : Arg) : SO.heap id ts h (.store n a x) = storeHeap (x.ev ts).cells h (a.ev ts) := rfl
def storeIn (c : List AV) (h : Hp) (a i off : Nat) : Option AObj → Hp | some (.box ty es) => upd h a (some (.box ty (setAt es i off c))) | _ => h
@[simp] theorem storeHeap_bp (c : List AV) (a i off : Nat) : storeHeap c h (.bp a i off) = storeIn c h a i off (h a) := by
  simp only [storeHeap, storeIn]
@[simp] theorem storeIn_box (ty : TypeId) (c : List AV) (a i off : Nat) (es : List (List AV)) : storeIn c h a i off (some (.box ty es)) = upd h a (some (.box ty (setAt es i off c))) := rfl
@[simp] theorem setAt_zero (e : List AV) (r : List (List AV)) (off : Nat) (cs : List AV) : setAt (e :: r) 0 off cs = (e.take off ++ cs ++ e.drop (off + cs.length)) :: r := rfl

@[simp] theorem ok_nilck (x : Arg) : SO.ok id ts h (.nilck x) = (match x.ev ts with | .bp _ _ _ | .ep _ _ => True | .fn (.func _) _ _ => True | _ => False) := rfl
@[simp] theorem ok_bin (op : BinOp) (x y : Arg) : SO.ok id ts h (.bin op x y) = binOk op (x.ev ts) (y.ev ts) := rfl
@[simp] theorem ok_eqs (q : EqK) (neg : Bool) (x y : Arg) : SO.ok id ts h (.eqs q neg x y) = ((eqVal q (x.ev ts) (y.ev ts)).isSome = true) := by
  apply propext; simp only [SO.ok]; cases eqVal q (x.ev ts) (y.ev ts) <;> simp
@[simp] theorem ok_un (op : UnOp) (x : Arg) : SO.ok id ts h (.un op x) = (unVal op (x.ev ts) ≠ .undef) := rfl
@[simp] theorem ok_cvi (k : IntKind) (x : Arg) : SO.ok id ts h (.cvi k x) = (x.ev ts).isInt := rfl
@[simp] theorem ok_b2s (x : Arg) : SO.ok id ts h (.b2s x) = (match elems h (x.ev ts) with | some es => (bytesOf es).isSome = true | none => False) := by
  apply propext; simp only [SO.ok]; cases elems h (x.ev ts) with
  | none => simp
  | some es =>
    constructor
    · rintro ⟨es', l, e, hh⟩; cases e; dsimp only; rw [hh]; rfl
    · intro hh; dsimp only at hh; obtain ⟨l, hl⟩ := Option.isSome_iff_exists.1 hh; exact ⟨es, l, rfl, hl⟩
@[simp] theorem ok_s2b (x : Arg) : SO.ok id ts h (.s2b x) = isStr (x.ev ts) := by apply propext; simp only [SO.ok]; cases x.ev ts <;> simp [isStr]
def isPtr : AV → Prop | .bp _ _ _ | .ep _ _ => True | _ => False
@[simp] theorem isPtr_bp (a b c : Nat) : isPtr (.bp a b c) = True := rfl
@[simp] theorem isPtr_ep (a : List AV) (c : Nat) : isPtr (.ep a c) = True := rfl
@[simp] theorem ok_fa (o : Nat) (x : Arg) : SO.ok id ts h (.fa o x) = isPtr (x.ev ts) := rfl
def ptrAdd : AV → Nat → AV | .bp i j o, k => .bp i j (o + k) | .ep c o, k => .ep c (o + k) | _, _ => .undef
@[simp] theorem ptrAdd_bp (a b c k : Nat) : ptrAdd (.bp a b c) k = .bp a b (c + k) := rfl
@[simp] theorem ptrAdd_ep (a : List AV) (c k : Nat) : ptrAdd (.ep a c) k = .ep a (c + k) := rfl
@[simp] theorem val_fa (o : Nat) (x : Arg) : SO.val id ts h (.fa o x) = ptrAdd (x.ev ts) o := by simp only [SO.val]; cases x.ev ts <;> rfl
def aggOk (p : List AV → Prop) : AV → Prop | .agg cs => p cs | _ => False
@[simp] theorem aggOk_agg (p : List AV → Prop) (cs : List AV) : aggOk p (.agg cs) = p cs := rfl
def aggVal (p : List AV → AV) : AV → AV | .agg cs => p cs | _ => .undef
@[simp] theorem aggVal_agg (p : List AV → AV) (cs : List AV) : aggVal p (.agg cs) = p cs := rfl
@[simp] theorem ok_fld (o : Nat) (n : Option Nat) (x : Arg) : SO.ok id ts h (.fld o n x) = aggOk (fun cs => partOk cs o n) (x.ev ts) := by apply propext; simp only [SO.ok]; cases x.ev ts <;> simp [aggOk]
@[simp] theorem val_fld (o : Nat) (n : Option Nat) (x : Arg) : SO.val id ts h (.fld o n x) = aggVal (fun cs => partOf cs o n) (x.ev ts) := by simp only [SO.val]; cases x.ev ts <;> rfl
def someLen (o : Option (List AV)) (s : Nat) : Prop := match o with | some e => e.length = s | none => False
@[simp] theorem someLen_some (e : List AV) (s : Nat) : someLen (some e) s = (e.length = s) := rfl
@[simp] theorem ok_ia (s : Nat) (x k : Arg) : SO.ok id ts h (.ia s x k) = ((k.ev ts).isInt ∧ 0 ≤ (k.ev ts).toInt ∧ someLen ((elems h (x.ev ts)).bind (·[(k.ev ts).toInt.toNat]?)) s) := by
  apply propext; simp only [SO.ok]
  cases elems h (x.ev ts) with
  | none => simp [someLen]
  | some es =>
    simp only [Option.some.injEq, Option.bind_some]
    cases hk : es[(k.ev ts).toInt.toNat]? with
    | none =>
      simp only [someLen]
      constructor
      · rintro ⟨_, _, es', e, rfl, he, _⟩; rw [hk] at he; cases he
      · rintro ⟨_, _, hh⟩; exact hh.elim
    | some e =>
      simp only [someLen]
      constructor
      · rintro ⟨a, b, es', e', rfl, he, hl⟩; rw [hk] at he; cases he; exact ⟨a, b, hl⟩
      · rintro ⟨a, b, hl⟩; exact ⟨a, b, es, e, rfl, hk, hl⟩
def iaVal : AV → Nat → AV | .sl id' st _, k => .bp id' (st + k) 0 | .row es _, k => .ep (es.getD k []) 0 | _, _ => .undef
@[simp] theorem iaVal_sl (a b c k : Nat) : iaVal (.sl a b c) k = .bp a (b + k) 0 := rfl
@[simp] theorem iaVal_row (es : List (List AV)) (t : Option Nat) (k : Nat) : iaVal (.row es t) k = .ep (es.getD k []) 0 := rfl
@[simp] theorem val_ia (s : Nat) (x k : Arg) : SO.val id ts h (.ia s x k) = iaVal (x.ev ts) (k.ev ts).toInt.toNat := by simp only [SO.val]; cases x.ev ts <;> rfl
@[simp] theorem ok_iaa (l s : Nat) (x k : Arg) : SO.ok id ts h (.iaa l s x k) = ((k.ev ts).isInt ∧ 0 ≤ (k.ev ts).toInt ∧ (k.ev ts).toInt < l ∧ isPtr (x.ev ts)) := rfl
@[simp] theorem val_iaa (l s : Nat) (x k : Arg) : SO.val id ts h (.iaa l s x k) = ptrAdd (x.ev ts) ((k.ev ts).toInt.toNat * s) := by simp only [SO.val]; cases x.ev ts <;> rfl
def strOk (p : List UInt8 → Prop) : AV → Prop | .str l => p l | _ => False
@[simp] theorem strOk_str (p : List UInt8 → Prop) (l : List UInt8) : strOk p (.str l) = p l := rfl
def strVal (p : List UInt8 → AV) : AV → AV | .str l => p l | _ => .undef
@[simp] theorem strVal_str (p : List UInt8 → AV) (l : List UInt8) : strVal p (.str l) = p l := rfl
@[simp] theorem ok_ixs (x k : Arg) : SO.ok id ts h (.ixs x k) = ((k.ev ts).isInt ∧ 0 ≤ (k.ev ts).toInt ∧ strOk (fun l => (k.ev ts).toInt < l.length) (x.ev ts)) := by apply propext; simp only [SO.ok]; cases x.ev ts <;> simp [strOk]
@[simp] theorem val_ixs (x k : Arg) : SO.val id ts h (.ixs x k) = strVal (fun l => .int .u8 (l.getD (k.ev ts).toInt.toNat 0).toNat) (x.ev ts) := by simp only [SO.val]; cases x.ev ts <;> rfl
@[simp] theorem ok_ixa (l s : Nat) (n : Option Nat) (x k : Arg) : SO.ok id ts h (.ixa l s n x k) = ((k.ev ts).isInt ∧ 0 ≤ (k.ev ts).toInt ∧ (k.ev ts).toInt < l ∧ aggOk (fun cs => partOk cs ((k.ev ts).toInt.toNat * s) n) (x.ev ts)) := by apply propext; simp only [SO.ok]; cases x.ev ts <;> simp [aggOk]
@[simp] theorem val_ixa (l s : Nat) (n : Option Nat) (x k : Arg) : SO.val id ts h (.ixa l s n x k) = aggVal (fun cs => partOf cs ((k.ev ts).toInt.toNat * s) n) (x.ev ts) := by simp only [SO.val]; cases x.ev ts <;> rfl
def tupOk (i : Nat) : AV → Prop | .tup vs => i < vs.length | _ => False
@[simp] theorem tupOk_tup (i : Nat) (vs : List AV) : tupOk i (.tup vs) = (i < vs.length) := rfl
def tupVal (i : Nat) : AV → AV | .tup vs => vs.getD i .undef | _ => .undef
@[simp] theorem tupVal_tup (i : Nat) (vs : List AV) : tupVal i (.tup vs) = vs.getD i .undef := rfl
@[simp] theorem ok_ext (x : Arg) (k : Nat) : SO.ok id ts h (.ext x k) = tupOk k (x.ev ts) := by apply propext; simp only [SO.ok]; cases x.ev ts <;> simp [tupOk]
@[simp] theorem val_ext (x : Arg) (k : Nat) : SO.val id ts h (.ext x k) = tupVal k (x.ev ts) := by simp only [SO.val]; cases x.ev ts <;> rfl
@[simp] theorem ok_mkf (f : Fn) (a b : List Arg) : SO.ok id ts h (.mkf f a b) = True := rfl
@[simp] theorem ok_subs (x : Arg) (lo hi : Option Arg) : SO.ok id ts h (.subs x lo hi) = (boundOk ts lo ∧ boundOk ts hi ∧ strOk (fun l => 0 ≤ bound ts 0 lo ∧ bound ts 0 lo ≤ bound ts l.length hi ∧ bound ts l.length hi ≤ l.length) (x.ev ts)) := by apply propext; simp only [SO.ok]; cases x.ev ts <;> simp [strOk]
@[simp] theorem val_subs (x : Arg) (lo hi : Option Arg) : SO.val id ts h (.subs x lo hi) = strVal (fun l => .str ((l.take (bound ts l.length hi).toNat).drop (bound ts 0 lo).toNat)) (x.ev ts) := by simp only [SO.val]; cases x.ev ts <;> rfl
def slOk (h : Hp) (s : Nat) (X : AV) (lo : Int) (hi : Nat → Int) : Prop := match lenOf X, elems h X with | some n, some es => 0 ≤ lo ∧ lo ≤ hi n ∧ hi n ≤ n ∧ ∀ e, e ∈ es → e.length = s | _, _ => False
@[simp] theorem slOk_nils (s : Nat) (lo : Int) (hi : Nat → Int) : slOk h s .nils lo hi = (0 ≤ lo ∧ lo ≤ hi 0 ∧ hi 0 ≤ 0) := by apply propext; simp [slOk]
@[simp] theorem slOk_row (s : Nat) (es : List (List AV)) (t : Option Nat) (lo : Int) (hi : Nat → Int) : slOk h s (.row es t) lo hi = (0 ≤ lo ∧ lo ≤ hi es.length ∧ hi es.length ≤ es.length ∧ ∀ e, e ∈ es → e.length = s) := rfl
@[simp] theorem ok_sub (s : Nat) (x : Arg) (lo hi : Option Arg) : SO.ok id ts h (.sub s x lo hi) = (boundOk ts lo ∧ boundOk ts hi ∧ slOk h s (x.ev ts) (bound ts 0 lo) (fun n => bound ts n hi)) := by
  apply propext; simp only [SO.ok, slOk]
  cases lenOf (x.ev ts) with
  | none => simp
  | some n => cases elems h (x.ev ts) <;> simp
def subVal (lo : Nat) (hi : Nat → Nat) : AV → AV
  | .row es tok => .row ((es.take (hi es.length)).drop lo) (if hi es.length = es.length then tok else none)
  | .sl i st n => .sl i (st + lo) (hi n - lo)
  | x => x
@[simp] theorem subVal_row (lo : Nat) (hi : Nat → Nat) (es : List (List AV)) (tok : Option Nat) : subVal lo hi (.row es tok) = .row ((es.take (hi es.length)).drop lo) (if hi es.length = es.length then tok else none) := rfl
@[simp] theorem subVal_sl (lo : Nat) (hi : Nat → Nat) (i st n : Nat) : subVal lo hi (.sl i st n) = .sl i (st + lo) (hi n - lo) := rfl
@[simp] theorem subVal_nils (lo : Nat) (hi : Nat → Nat) : subVal lo hi .nils = .nils := rfl
@[simp] theorem val_sub (s : Nat) (x : Arg) (lo hi : Option Arg) : SO.val id ts h (.sub s x lo hi) = subVal (bound ts 0 lo).toNat (fun n => (bound ts n hi).toNat) (x.ev ts) := by simp only [SO.val]; cases x.ev ts <;> rfl
@[simp] theorem ok_mki (t : TypeId) (x : Arg) : SO.ok id ts h (.mki t x) = True := rfl
def tasOk (t : TypeId) : AV → Prop | .ifc t' _ => t' = t | _ => False
@[simp] theorem tasOk_ifc (t t' : TypeId) (v : AV) : tasOk t (.ifc t' v) = (t' = t) := rfl
@[simp] theorem ok_tas (t : TypeId) (ok : Bool) (x : Arg) : SO.ok id ts h (.tas t ok x) = tasOk t (x.ev ts) := by apply propext; simp only [SO.ok]; cases x.ev ts <;> simp [tasOk]
@[simp] theorem ok_lens (x : Arg) : SO.ok id ts h (.lens x) = isStr (x.ev ts) := by apply propext; simp only [SO.ok]; cases x.ev ts <;> simp [isStr]
@[simp] theorem val_lens (x : Arg) : SO.val id ts h (.lens x) = strVal (fun l => .int .i64 (l.length : Nat)) (x.ev ts) := by simp only [SO.val]; cases x.ev ts <;> rfl
@[simp] theorem ok_len (x : Arg) : SO.ok id ts h (.len x) = ((lenOf (x.ev ts)).isSome = true) := by apply propext; simp only [SO.ok]; cases lenOf (x.ev ts) <;> simp
def tailAt : Option AObj → Nat → Prop | some (.tail _ s'), s => s' = s | _, _ => False
@[simp] theorem tailAt_tail (ty : Option TypeId) (s s' : Nat) : tailAt (some (.tail ty s')) s = (s' = s) := rfl
theorem tailAt_iff {o : Option AObj} {s : Nat} : tailAt o s ↔ ∃ ty, o = some (.tail ty s) := by
  cases o with
  | none => simp [tailAt]
  | some o => cases o <;> simp [tailAt]
def appOk (s b : Nat) (h : Hp) (ns : Option (List (List AV))) : AV → Prop
  | .nils => (match ns with | some ns => (∀ e, e ∈ ns → e.length = s) ∧ ns.length * b ≤ 140737488355328 ∧ ns.length ≤ 4611686018427387904 | none => False)
  | .row es (some t) => tailAt (h t) s ∧ (match ns with | some ns => (∀ e, e ∈ ns → e.length = s) ∧ (es.length + ns.length) * b ≤ 140737488355328 ∧ es.length + ns.length ≤ 4611686018427387904 | none => False)
  | _ => False
@[simp] theorem appOk_nils (s b : Nat) (ns : List (List AV)) : appOk s b h (some ns) .nils = ((∀ e, e ∈ ns → e.length = s) ∧ ns.length * b ≤ 140737488355328 ∧ ns.length ≤ 4611686018427387904) := rfl
@[simp] theorem appOk_row (s b : Nat) (ns es : List (List AV)) (t : Nat) : appOk s b h (some ns) (.row es (some t)) = (tailAt (h t) s ∧ (∀ e, e ∈ ns → e.length = s) ∧ (es.length + ns.length) * b ≤ 140737488355328 ∧ es.length + ns.length ≤ 4611686018427387904) := rfl
@[simp] theorem ok_app (ty : TypeId) (s b : Nat) (x y : Arg) : SO.ok id ts h (.app ty s b x y) = appOk s b h (srcElems h (y.ev ts)) (x.ev ts) := by
  apply propext; simp only [SO.ok]
  generalize srcElems h (y.ev ts) = o
  generalize x.ev ts = X
  constructor
  · rintro ⟨es, ns, (⟨rfl, rfl⟩ | ⟨t, ty', rfl, ht⟩), rfl, h3, h4, h5⟩
    · exact ⟨h3, by simpa using h4, by simpa using h5⟩
    · exact ⟨tailAt_iff.2 ⟨ty', ht⟩, h3, h4, h5⟩
  · intro hh
    cases X <;> try exact hh.elim
    case nils =>
      cases o with
      | none => exact hh.elim
      | some ns => exact ⟨[], ns, .inl ⟨rfl, rfl⟩, rfl, hh.1, by simpa using hh.2.1, by simpa using hh.2.2⟩
    case row es tok =>
      cases tok with
      | none => exact hh.elim
      | some t =>
        cases o with
        | none => exact hh.2.elim
        | some ns => obtain ⟨ty', ht⟩ := tailAt_iff.1 hh.1; exact ⟨es, ns, .inr ⟨t, ty', rfl, ht⟩, rfl, hh.2⟩
def appRes (id : Nat) (ns : List (List AV)) : AV → AV
  | .row es _ => .row (es ++ ns) (some id)
  | _ => match ns with | [] => .nils | ns => .row ns (some id)
@[simp] theorem appRes_row (ns es : List (List AV)) (t : Option Nat) : appRes id ns (.row es t) = .row (es ++ ns) (some id) := rfl
@[simp] theorem appRes_nils0 : appRes id [] .nils = .nils := rfl
@[simp] theorem appRes_nils1 (e : List AV) (r : List (List AV)) : appRes id (e :: r) .nils = .row (e :: r) (some id) := rfl
@[simp] theorem val_app (ty : TypeId) (s b : Nat) (x y : Arg) : SO.val id ts h (.app ty s b x y) = appRes id ((srcElems h (y.ev ts)).getD []) (x.ev ts) := by
  simp only [SO.val]; generalize (srcElems h (y.ev ts)).getD [] = ns; cases x.ev ts <;> cases ns <;> rfl
/-- a list that grows from nothing -/
def accV (l : List (List AV)) (tok : Nat) : AV := match l with | [] => .nils | l => .row l (some tok)
def accHeap (id : Nat) (ty : TypeId) (s : Nat) (h : Hp) (ns l : List (List AV)) (tok : Nat) : Hp := if l = [] then (if ns = [] then h else upd h id (some (.tail (some ty) s))) else upd (upd h tok none) id (some (.tail (tailTy ty (h tok)) s))
/-- may it grow -/
def AccOk (h : Hp) (s tok : Nat) (l : List (List AV)) : Prop := l ≠ [] → tailAt (h tok) s
/-- .. and its block is known -/
def AccTy (h : Hp) (ty : TypeId) (s tok : Nat) (l : List (List AV)) : Prop := l ≠ [] → h tok = some (.tail (some ty) s)
@[simp] theorem accV_nil (tok : Nat) : accV [] tok = .nils := rfl
@[simp] theorem accV_one (l : List (List AV)) (tok : Nat) : (accV l tok).one = true := by cases l <;> rfl
@[simp] theorem accV_cells (l : List (List AV)) (tok : Nat) : (accV l tok).cells = [accV l tok] := by cases l <;> rfl
@[simp] theorem accV_len (l : List (List AV)) (tok : Nat) : lenOf (accV l tok) = some l.length := by cases l <;> rfl
@[simp] theorem accV_elems (h : Hp) (l : List (List AV)) (tok : Nat) : elems h (accV l tok) = some l := by cases l <;> rfl
@[simp] theorem accV_src (h : Hp) (l : List (List AV)) (tok : Nat) : srcElems h (accV l tok) = some l := by cases l <;> rfl
/-- such a list without its mark -/
def rowV (l : List (List AV)) : AV := match l with | [] => .nils | l => .row l none
@[simp] theorem accV_bare (l : List (List AV)) (tok : Nat) : (accV l tok).bare = rowV (bareLL l) := by cases l <;> simp [accV, rowV]
@[simp] theorem rowV_bare (l : List (List AV)) : (rowV l).bare = rowV (bareLL l) := by cases l <;> simp [rowV]
@[simp] theorem rowV_nil : rowV [] = .nils := rfl
@[simp] theorem rowV_cons (e : List AV) (l : List (List AV)) : rowV (e :: l) = .row (e :: l) none := rfl
@[simp] theorem rowV_one (l : List (List AV)) : (rowV l).one = true := by cases l <;> rfl
@[simp] theorem rowV_cells (l : List (List AV)) : (rowV l).cells = [rowV l] := by cases l <;> rfl
@[simp] theorem rowV_len (l : List (List AV)) : lenOf (rowV l) = some l.length := by cases l <;> rfl
@[simp] theorem rowV_elems (h : Hp) (l : List (List AV)) : elems h (rowV l) = some l := by cases l <;> rfl
@[simp] theorem rowV_src (h : Hp) (l : List (List AV)) : srcElems h (rowV l) = some l := by cases l <;> rfl
theorem rowV_at {l : List (List AV)} {i : Nat} {e : List AV} (h : l[i]? = some e) : iaVal (rowV l) i = .ep e 0 := by
  cases l with
  | nil => simp at h
  | cons a r => simp [rowV, iaVal, h]
theorem accV_at {l : List (List AV)} {tok i : Nat} {e : List AV} (h : l[i]? = some e) : iaVal (accV l tok) i = .ep e 0 := by
  cases l with
  | nil => simp at h
  | cons a r => simp [accV, iaVal, h]
theorem accV_cons {l : List (List AV)} (hl : l ≠ []) (tok : Nat) : accV l tok = .row l (some tok) := by cases l <;> simp_all [accV]
@[simp] theorem appRes_acc (id : Nat) (ns l : List (List AV)) (tok : Nat) : appRes id ns (accV l tok) = accV (l ++ ns) id := by
  cases l <;> cases ns <;> rfl
theorem appOk_acc {s b : Nat} {h : Hp} {ns l : List (List AV)} {tok : Nat} (ha : AccOk h s tok l) : appOk s b h (some ns) (accV l tok) = ((∀ e, e ∈ ns → e.length = s) ∧ (l.length + ns.length) * b ≤ 140737488355328 ∧ l.length + ns.length ≤ 4611686018427387904) := by
  cases l with
  | nil => simp [accV, appOk]
  | cons x r => simp [accV, appOk, ha (by simp)]
def appHeap (id : Nat) (ty : TypeId) (s : Nat) (h : Hp) (ns : List (List AV)) : AV → Hp
  | .row _ (some t) => upd (upd h t none) id (some (.tail (tailTy ty (h t)) s))
  | _ => match ns with | [] => h | _ => upd h id (some (.tail (some ty) s))
@[simp] theorem appHeap_row (ty : TypeId) (s : Nat) (ns es : List (List AV)) (t : Nat) : appHeap id ty s h ns (.row es (some t)) = upd (upd h t none) id (some (.tail (tailTy ty (h t)) s)) := rfl
@[simp] theorem appHeap_nils0 (ty : TypeId) (s : Nat) : appHeap id ty s h [] .nils = h := rfl
@[simp] theorem appHeap_nils1 (ty : TypeId) (s : Nat) (e : List AV) (r : List (List AV)) : appHeap id ty s h (e :: r) .nils = upd h id (some (.tail (some ty) s)) := rfl
theorem AccOk.upd {h : Hp} {s tok : Nat} {l : List (List AV)} (ha : AccOk h s tok l) {j : Nat} (hj : l ≠ [] → tok ≠ j) (x : Option AObj) : AccOk (upd h j x) s tok l := fun hne => by rw [upd_ne (hj hne)]; exact ha hne
@[simp] theorem accOk_nil (h : Hp) (s tok : Nat) : AccOk h s tok [] ↔ True := by simp [AccOk]
@[simp] theorem accOk_cons (h : Hp) (s tok : Nat) (e : List AV) (l : List (List AV)) : AccOk h s tok (e :: l) ↔ tailAt (h tok) s := by simp [AccOk]
@[simp] theorem appHeap_acc (id : Nat) (ty : TypeId) (s : Nat) (h : Hp) (ns l : List (List AV)) (tok : Nat) : appHeap id ty s h ns (accV l tok) = accHeap id ty s h ns l tok := by
  cases l <;> cases ns <;> rfl
theorem accHeap_ne {id s : Nat} {ty : TypeId} {h : Hp} {ns l : List (List AV)} {tok j : Nat} (h1 : j ≠ id) (h2 : l ≠ [] → j ≠ tok) : accHeap id ty s h ns l tok j = h j := by
  simp only [accHeap]; split
  · split <;> simp [upd_ne h1]
  · rw [upd_ne h1, upd_ne (h2 ‹_›)]
theorem accHeap_ty {id s : Nat} {ty : TypeId} {h : Hp} {ns l : List (List AV)} {tok : Nat} (ha : AccTy h ty s tok l) : AccTy (accHeap id ty s h ns l tok) ty s id (l ++ ns) := by
  intro hne; simp only [accHeap]; split
  · rename_i e; subst e; simp at hne; simp [hne]
  · simp [ha ‹_›, tailTy]
theorem AccTy.ok {h : Hp} {ty : TypeId} {s tok : Nat} {l : List (List AV)} (ha : AccTy h ty s tok l) : AccOk h s tok l := fun hne => by rw [ha hne]; rfl
theorem AccTy.upd {h : Hp} {ty : TypeId} {s tok : Nat} {l : List (List AV)} (ha : AccTy h ty s tok l) {j : Nat} (hj : l ≠ [] → tok ≠ j) (x : Option AObj) : AccTy (upd h j x) ty s tok l := fun hne => by rw [upd_ne (hj hne)]; exact ha hne
@[simp] theorem accTy_nil (h : Hp) (ty : TypeId) (s tok : Nat) : AccTy h ty s tok [] ↔ True := by simp [AccTy]
theorem accHeap_ok (id : Nat) (ty : TypeId) (s : Nat) (h : Hp) (ns l : List (List AV)) (tok : Nat) : AccOk (accHeap id ty s h ns l tok) s id (l ++ ns) := by
  intro hne; simp only [accHeap]; split
  · rename_i e; subst e; simp at hne; simp [hne]
  · simp
theorem accHeap_keeps {σ : Heap} {h : Hp} (hf : Fresh σ) {id s : Nat} {ty : TypeId} {ns l : List (List AV)} {tok : Nat} (h1 : σ.next ≤ id) (h2 : l ≠ [] → σ.next ≤ tok) (hk : Keeps σ h) : Keeps σ (accHeap id ty s h ns l tok) := by
  simp only [accHeap]; split
  · split <;> simp [keeps_upd hf h1, hk]
  · rw [keeps_upd hf h1, keeps_upd hf (h2 ‹_›)]; exact hk
@[simp] theorem heap_app (ty : TypeId) (s b : Nat) (x y : Arg) : SO.heap id ts h (.app ty s b x y) = appHeap id ty s h ((srcElems h (y.ev ts)).getD []) (x.ev ts) := by
  simp only [SO.heap]; generalize (srcElems h (y.ev ts)).getD [] = ns
  cases x.ev ts with
  | row es tok => cases tok <;> cases ns <;> rfl
  | _ => cases ns <;> rfl
@[simp] theorem ok_mks (ty : TypeId) (s b : Nat) (z : List AV) (l c : Arg) (bx : Bool) : SO.ok id ts h (.mks ty s b z l c bx) = (z.length = s ∧ z.all AV.one = true ∧ (l.ev ts).isInt ∧ (c.ev ts).isInt ∧ 0 ≤ (l.ev ts).toInt ∧ (l.ev ts).toInt ≤ (c.ev ts).toInt ∧ (c.ev ts).toInt * b ≤ 140737488355328 ∧ (c.ev ts).toInt ≤ 9223372036854775807) := rfl
@[simp] theorem ok_mx (x y : Arg) : SO.ok id ts h (.mx x y) = ((x.ev ts).isInt ∧ (y.ev ts).isInt) := rfl
@[simp] theorem ok_mn (x y : Arg) : SO.ok id ts h (.mn x y) = ((x.ev ts).isInt ∧ (y.ev ts).isInt) := rfl
def mxVal : AV → AV → AV | .int k a, .int _ b => .int k (if b > a then b else a) | _, _ => .undef
def mnVal : AV → AV → AV | .int k a, .int _ b => .int k (if b < a then b else a) | _, _ => .undef
@[simp] theorem mxVal_int (k k' : IntKind) (a b : Int) : mxVal (.int k a) (.int k' b) = .int k (if b > a then b else a) := rfl
@[simp] theorem mnVal_int (k k' : IntKind) (a b : Int) : mnVal (.int k a) (.int k' b) = .int k (if b < a then b else a) := rfl
@[simp] theorem val_mx (x y : Arg) : SO.val id ts h (.mx x y) = mxVal (x.ev ts) (y.ev ts) := by simp only [SO.val]; cases x.ev ts <;> first | rfl | (cases y.ev ts <;> rfl)
@[simp] theorem val_mn (x y : Arg) : SO.val id ts h (.mn x y) = mnVal (x.ev ts) (y.ev ts) := by simp only [SO.val]; cases x.ev ts <;> first | rfl | (cases y.ev ts <;> rfl)
def pickVal : AV → AV → AV → AV | .bool true, a, _ => a | _, _, b => b
@[simp] theorem pickVal_bool (c : Bool) (a b : AV) : pickVal (.bool c) a b = if c = true then a else b := by cases c <;> rfl
@[simp] theorem val_pick (c a b : Arg) : SO.val id ts h (.pick c a b) = pickVal (c.ev ts) (a.ev ts) (b.ev ts) := by
  simp only [SO.val]; cases c.ev ts with
  | bool t => cases t <;> rfl
  | _ => rfl
@[simp] theorem val_mv (x : Arg) : SO.val id ts h (.mv x) = x.ev ts := rfl
@[simp] theorem val_alloc (ty : TypeId) (z : List AV) : SO.val id ts h (.alloc ty z) = .bp id 0 0 := rfl
@[simp] theorem val_box (ty : TypeId) (x : Arg) : SO.val id ts h (.box ty x) = .bp id 0 0 := rfl
@[simp] theorem val_build (z : List AV) (ps : List (Nat × Nat × Arg)) : SO.val id ts h (.build z ps) = .agg (fillA ts z ps) := rfl
/-- a box that grows: when it may -/
def growAt (ty : TypeId) (s b n : Nat) (ns : List (List AV)) : Option AObj → Prop
  | some .nocap => n = 0 ∧ ns ≠ [] ∧ (∀ e, e ∈ ns → e.length = s) ∧ ns.length * b ≤ 140737488355328 ∧ ns.length ≤ 4611686018427387904
  | some (.box ty' es0) => n ≤ es0.length ∧ (∀ e, e ∈ es0 → e.length = s) ∧ es0 ≠ [] ∧ ty' = ty ∧ (∀ e, e ∈ ns → e.length = s) ∧ (n + ns.length) * b ≤ 140737488355328 ∧ n + ns.length ≤ 4611686018427387904
  | _ => False
def growsOk (ty : TypeId) (s b : Nat) (h : Hp) : Option (List (List AV)) → AV → Prop
  | some ns, .nils => (∀ e, e ∈ ns → e.length = s) ∧ ns.length * b ≤ 140737488355328 ∧ ns.length ≤ 4611686018427387904
  | some ns, .sl t 0 n => growAt ty s b n ns (h t)
  | _, _ => False
theorem growsOk_ok {ty : TypeId} {s b : Nat} {x y : Arg} (hg : growsOk ty s b h (srcElems h (y.ev ts)) (x.ev ts)) : SO.ok id ts h (.grow ty s b x y) := by
  simp only [SO.ok]
  generalize x.ev ts = X at hg ⊢
  cases hs : srcElems h (y.ev ts) with
  | none => rw [hs] at hg; exact hg.elim
  | some ns =>
    rw [hs] at hg
    cases X <;> try exact hg.elim
    case nils => exact ⟨[], ns, .inl ⟨rfl, rfl⟩, rfl, hg.1, by simpa using hg.2.1, by simpa using hg.2.2⟩
    case sl t st n =>
      cases st with
      | succ _ => exact hg.elim
      | zero =>
        simp only [growsOk] at hg
        cases ho : h t with
        | none => rw [ho] at hg; exact hg.elim
        | some ob =>
          rw [ho] at hg
          cases ob <;> try exact hg.elim
          case nocap =>
            obtain ⟨rfl, h1, h2, h3, h4⟩ := hg
            exact ⟨[], ns, .inr (.inr ⟨t, rfl, ho, rfl, by simpa using h1⟩), rfl, h2, by simpa using h3, by simpa using h4⟩
          case box ty' es0 =>
            obtain ⟨h0, h1, h2, h3, h4, h5, h6⟩ := hg
            have hl : (es0.take n).length = n := by simp; omega
            exact ⟨es0.take n, ns, .inr (.inl ⟨t, n, ty', es0, rfl, ho, h0, rfl, h1, h2, h3⟩), rfl, h4, by rw [hl]; exact h5, by rw [hl]; exact h6⟩
@[simp] theorem ok_empt : SO.ok id ts h .empt = True := rfl
@[simp] theorem val_empt : SO.val id ts h .empt = .sl id 0 0 := rfl
@[simp] theorem heap_empt : SO.heap id ts h .empt = upd h id (some .nocap) := rfl
@[simp] theorem val_bslice (ty : TypeId) (s n : Nat) (z : List AV) (ps : List (Nat × Arg)) (bx : Bool) : SO.val id ts h (.bslice ty s n z ps bx) = if bx = true then .sl id 0 n else .row (fillS ts (List.replicate n z) ps) (some id) := rfl
@[simp] theorem val_store (n : Nat) (a x : Arg) : SO.val id ts h (.store n a x) = .undef := rfl
@[simp] theorem val_nilck (x : Arg) : SO.val id ts h (.nilck x) = x.ev ts := rfl
@[simp] theorem val_bin (op : BinOp) (x y : Arg) : SO.val id ts h (.bin op x y) = binVal op (x.ev ts) (y.ev ts) := rfl
@[simp] theorem val_eqs (q : EqK) (neg : Bool) (x y : Arg) : SO.val id ts h (.eqs q neg x y) = .bool ((eqVal q (x.ev ts) (y.ev ts)).getD false != neg) := rfl
@[simp] theorem val_un (op : UnOp) (x : Arg) : SO.val id ts h (.un op x) = unVal op (x.ev ts) := rfl
@[simp] theorem val_cvi (k : IntKind) (x : Arg) : SO.val id ts h (.cvi k x) = .int k (k.wrap (x.ev ts).toInt) := rfl
@[simp] theorem val_b2s (x : Arg) : SO.val id ts h (.b2s x) = .str ((bytesOf ((elems h (x.ev ts)).getD [])).getD []) := rfl
def rowBare : AV → AV | .row es _ => .row es none | _ => .undef
@[simp] theorem rowBare_row (es : List (List AV)) (t : Option Nat) : rowBare (.row es t) = .row es none := rfl
@[simp] theorem val_marks (x : Arg) : SO.val id ts h (.marks x) = rowBare (x.ev ts) := by simp only [SO.val]; cases x.ev ts <;> rfl
@[simp] theorem val_s2b (x : Arg) : SO.val id ts h (.s2b x) = strVal (fun l => .row (ind l) (some id)) (x.ev ts) := by simp only [SO.val]; cases x.ev ts <;> rfl
@[simp] theorem val_mkf (f : Fn) (a b : List Arg) : SO.val id ts h (.mkf f a b) = .fn f (a.map (·.ev ts)) (b.map (·.ev ts)) := rfl
@[simp] theorem val_mki (t : TypeId) (x : Arg) : SO.val id ts h (.mki t x) = .ifc t (x.ev ts) := rfl
def tasVal (ok : Bool) : AV → AV | .ifc _ v => if ok then .tup [v, .bool true] else v | _ => .undef
@[simp] theorem tasVal_ifc (ok : Bool) (t : TypeId) (v : AV) : tasVal ok (.ifc t v) = if ok = true then .tup [v, .bool true] else v := rfl
@[simp] theorem val_tas (t : TypeId) (ok : Bool) (x : Arg) : SO.val id ts h (.tas t ok x) = tasVal ok (x.ev ts) := by simp only [SO.val]; cases x.ev ts <;> rfl
@[simp] theorem val_mks (ty : TypeId) (s b : Nat) (z : List AV) (l c : Arg) (bx : Bool) : SO.val id ts h (.mks ty s b z l c bx) = if bx = true then .sl id 0 (l.ev ts).toInt.toNat else .row (List.replicate (l.ev ts).toInt.toNat z) (some id) := rfl
@[simp] theorem val_len (x : Arg) : SO.val id ts h (.len x) = .int .i64 ((lenOf (x.ev ts)).getD 0 : Nat) := rfl

@[simp] theorem heap_mv (x : Arg) : SO.heap id ts h (.mv x) = h := rfl
@[simp] theorem heap_pick (c a b : Arg) : SO.heap id ts h (.pick c a b) = h := rfl
@[simp] theorem heap_alloc (ty : TypeId) (z : List AV) : SO.heap id ts h (.alloc ty z) = upd h id (some (.box ty [z])) := rfl
@[simp] theorem heap_box (ty : TypeId) (x : Arg) : SO.heap id ts h (.box ty x) = upd h id (some (.box ty [(x.ev ts).cells])) := rfl
@[simp] theorem heap_build (z : List AV) (ps : List (Nat × Nat × Arg)) : SO.heap id ts h (.build z ps) = h := rfl
@[simp] theorem heap_bslice (ty : TypeId) (s n : Nat) (z : List AV) (ps : List (Nat × Arg)) (bx : Bool) : SO.heap id ts h (.bslice ty s n z ps bx) = upd h id (some (if bx = true then .box ty (fillS ts (List.replicate n z) ps) else .tail (some ty) s)) := rfl
@[simp] theorem heap_load (n : Option Nat) (x : Arg) : SO.heap id ts h (.load n x) = h := rfl
@[simp] theorem heap_nilck (x : Arg) : SO.heap id ts h (.nilck x) = h := rfl
@[simp] theorem heap_bin (op : BinOp) (x y : Arg) : SO.heap id ts h (.bin op x y) = h := rfl
@[simp] theorem heap_eqs (q : EqK) (neg : Bool) (x y : Arg) : SO.heap id ts h (.eqs q neg x y) = h := rfl
@[simp] theorem heap_un (op : UnOp) (x : Arg) : SO.heap id ts h (.un op x) = h := rfl
@[simp] theorem heap_cvi (k : IntKind) (x : Arg) : SO.heap id ts h (.cvi k x) = h := rfl
@[simp] theorem heap_b2s (x : Arg) : SO.heap id ts h (.b2s x) = h := rfl
def tokGone (h : Hp) : AV → Hp | .row _ (some t) => upd h t none | _ => h
@[simp] theorem tokGone_row (h : Hp) (es : List (List AV)) (t : Nat) : tokGone h (.row es (some t)) = upd h t none := rfl
@[simp] theorem heap_marks (x : Arg) : SO.heap id ts h (.marks x) = tokGone h (x.ev ts) := by simp only [SO.heap]; cases x.ev ts <;> first | rfl | (rename_i es t; cases t <;> rfl)
def marksOk (h : Hp) : AV → Prop | .row es (some t) => es ≠ [] ∧ ∃ ty s, h t = some (.tail (some ty) s) | _ => False
@[simp] theorem marksOk_row (h : Hp) (es : List (List AV)) (t : Nat) : marksOk h (.row es (some t)) = (es ≠ [] ∧ ∃ ty s, h t = some (.tail (some ty) s)) := rfl
@[simp] theorem ok_marks (x : Arg) : SO.ok id ts h (.marks x) = marksOk h (x.ev ts) := by
  apply propext; simp only [SO.ok]
  cases x.ev ts <;> simp [marksOk]
  rename_i es t; cases t <;> simp [marksOk]
  exact ⟨by rintro ⟨_, _, ⟨rfl, rfl⟩, h1, h2⟩; exact ⟨h1, h2⟩, fun ⟨h1, h2⟩ => ⟨_, _, ⟨rfl, rfl⟩, h1, h2⟩⟩
@[simp] theorem heap_s2b (x : Arg) : SO.heap id ts h (.s2b x) = upd h id (some (.tail none 1)) := rfl
@[simp] theorem heap_fa (o : Nat) (x : Arg) : SO.heap id ts h (.fa o x) = h := rfl
@[simp] theorem heap_fld (o : Nat) (n : Option Nat) (x : Arg) : SO.heap id ts h (.fld o n x) = h := rfl
@[simp] theorem heap_ia (s : Nat) (x k : Arg) : SO.heap id ts h (.ia s x k) = h := rfl
@[simp] theorem heap_iaa (l s : Nat) (x k : Arg) : SO.heap id ts h (.iaa l s x k) = h := rfl
@[simp] theorem heap_ixs (x k : Arg) : SO.heap id ts h (.ixs x k) = h := rfl
@[simp] theorem heap_ixa (l s : Nat) (n : Option Nat) (x k : Arg) : SO.heap id ts h (.ixa l s n x k) = h := rfl
@[simp] theorem heap_ext (x : Arg) (k : Nat) : SO.heap id ts h (.ext x k) = h := rfl
@[simp] theorem heap_mkf (f : Fn) (a b : List Arg) : SO.heap id ts h (.mkf f a b) = h := rfl
@[simp] theorem heap_subs (x : Arg) (lo hi : Option Arg) : SO.heap id ts h (.subs x lo hi) = h := rfl
@[simp] theorem heap_sub (s : Nat) (x : Arg) (lo hi : Option Arg) : SO.heap id ts h (.sub s x lo hi) = h := rfl
@[simp] theorem heap_mki (t : TypeId) (x : Arg) : SO.heap id ts h (.mki t x) = h := rfl
@[simp] theorem heap_tas (t : TypeId) (ok : Bool) (x : Arg) : SO.heap id ts h (.tas t ok x) = h := rfl
@[simp] theorem heap_mks (ty : TypeId) (s b : Nat) (z : List AV) (l c : Arg) (bx : Bool) : SO.heap id ts h (.mks ty s b z l c bx) = upd h id (some (if bx = true then .box ty (List.replicate (l.ev ts).toInt.toNat z) else .tail (some ty) s)) := rfl
def mapOk (p : List (AV × AV) → Prop) (o : Option (List (AV × AV))) : Prop := match o with | some l => p l | none => False
@[simp] theorem mapOk_some (p : List (AV × AV) → Prop) (l : List (AV × AV)) : mapOk p (some l) = p l := rfl
@[simp] theorem mapAt_nilm : mapAt h .nilm = some [] := rfl
def mapIn : Option AObj → Option (List (AV × AV)) | some (.map kvs) => some kvs | _ => none
@[simp] theorem mapIn_map (kvs : List (AV × AV)) : mapIn (some (.map kvs)) = some kvs := rfl
@[simp] theorem mapAt_mp (i : Nat) : mapAt h (.mp i) = mapIn (h i) := by
  simp only [mapAt, mapIn]; cases h i with
  | none => rfl
  | some o => cases o <;> rfl
attribute [simp] ckOf
@[simp] theorem ok_mkm (r : Option Arg) : SO.ok id ts h (.mkm r) = boundOk ts r := rfl
@[simp] theorem val_mkm (r : Option Arg) : SO.val id ts h (.mkm r) = .mp id := rfl
@[simp] theorem heap_mkm (r : Option Arg) : SO.heap id ts h (.mkm r) = upd h id (some (.map [])) := rfl
@[simp] theorem ok_look (ck : CK) (z : AV) (ok : Bool) (m k : Arg) : SO.ok id ts h (.look ck z ok m k) = (ckOf ck (k.ev ts) ∧ mapOk (fun kvs => (mfind ck (k.ev ts) kvs).isSome = true) (mapAt h (m.ev ts))) := by
  apply propext; simp only [SO.ok, mapOk, Option.isSome_iff_exists]
  cases mapAt h (m.ev ts) <;> simp
@[simp] theorem val_look (ck : CK) (z : AV) (ok : Bool) (m k : Arg) : SO.val id ts h (.look ck z ok m k) = lookVal z ok ((mfind ck (k.ev ts) ((mapAt h (m.ev ts)).getD [])).getD none) := rfl
@[simp] theorem heap_look (ck : CK) (z : AV) (ok : Bool) (m k : Arg) : SO.heap id ts h (.look ck z ok m k) = h := rfl
@[simp] theorem ok_mlen (m : Arg) : SO.ok id ts h (.mlen m) = mapOk (fun _ => True) (mapAt h (m.ev ts)) := by
  apply propext; simp only [SO.ok, mapOk]
  cases mapAt h (m.ev ts) <;> simp
@[simp] theorem val_mlen (m : Arg) : SO.val id ts h (.mlen m) = .int .i64 (((mapAt h (m.ev ts)).getD []).length : Nat) := rfl
@[simp] theorem heap_mlen (m : Arg) : SO.heap id ts h (.mlen m) = h := rfl
def mputOk (h : Hp) (p : List (AV × AV) → Prop) : AV → Prop | .mp i => mapOk p (mapIn (h i)) | _ => False
@[simp] theorem mputOk_mp (p : List (AV × AV) → Prop) (i : Nat) : mputOk h p (.mp i) = mapOk p (mapIn (h i)) := rfl
@[simp] theorem ok_mput (ck : CK) (m k v : Arg) : SO.ok id ts h (.mput ck m k v) = (ckOf ck (k.ev ts) ∧ mputOk h (fun kvs => (mfind ck (k.ev ts) kvs).isSome = true) (m.ev ts)) := by
  apply propext; simp only [SO.ok, mputOk]
  cases m.ev ts <;> simp
  rename_i i
  intro _
  cases hi : h i with
  | none => simp [mapIn, mapOk]
  | some o => cases o <;> simp [mapIn, mapOk, Option.isSome_iff_exists]
@[simp] theorem val_mput (ck : CK) (m k v : Arg) : SO.val id ts h (.mput ck m k v) = .undef := rfl
def mapHeap (h : Hp) (p : List (AV × AV) → List (AV × AV)) : AV → Hp | .mp i => (match mapIn (h i) with | some kvs => upd h i (some (.map (p kvs))) | none => h) | _ => h
def mapStep (h : Hp) (i : Nat) (p : List (AV × AV) → List (AV × AV)) : Option (List (AV × AV)) → Hp | some kvs => upd h i (some (.map (p kvs))) | none => h
@[simp] theorem mapStep_some (i : Nat) (p : List (AV × AV) → List (AV × AV)) (kvs : List (AV × AV)) : mapStep h i p (some kvs) = upd h i (some (.map (p kvs))) := rfl
@[simp] theorem mapHeap_mp (i : Nat) (p : List (AV × AV) → List (AV × AV)) : mapHeap h p (.mp i) = mapStep h i p (mapIn (h i)) := by simp only [mapHeap, mapStep]
@[simp] theorem heap_mput (ck : CK) (m k v : Arg) : SO.heap id ts h (.mput ck m k v) = mapHeap h (mset ck (k.ev ts) (v.ev ts)) (m.ev ts) := by
  simp only [SO.heap, mapHeap]
  cases m.ev ts <;> try rfl
  rename_i i
  dsimp only
  cases h i with
  | none => rfl
  | some o => cases o <;> rfl
def sdOk : AV → Prop | .nils => True | .row es _ => es ≠ [] | _ => False
@[simp] theorem sdOk_nils : sdOk .nils = True := rfl
@[simp] theorem sdOk_row (es : List (List AV)) (t : Option Nat) : sdOk (.row es t) = (es ≠ []) := rfl
@[simp] theorem ok_sdata (x : Arg) : SO.ok id ts h (.sdata x) = sdOk (x.ev ts) := by apply propext; simp only [SO.ok, sdOk]; cases x.ev ts <;> simp
def sdVal : AV → AV | .nils => .nilp | .row es tok => .dp es tok | _ => .undef
@[simp] theorem sdVal_nils : sdVal .nils = .nilp := rfl
@[simp] theorem sdVal_row (es : List (List AV)) (t : Option Nat) : sdVal (.row es t) = .dp es t := rfl
@[simp] theorem val_sdata (x : Arg) : SO.val id ts h (.sdata x) = sdVal (x.ev ts) := by simp only [SO.val]; cases x.ev ts <;> rfl
@[simp] theorem heap_sdata (x : Arg) : SO.heap id ts h (.sdata x) = h := rfl
def cleanAt (e : TypeId) : Option AObj → Prop | some (.tail (some t) s) => t = e ∧ s = 1 | _ => False
@[simp] theorem cleanAt_tail (e t : TypeId) (s : Nat) : cleanAt e (some (.tail (some t) s)) = (t = e ∧ s = 1) := rfl
def usOk (h : Hp) (e : TypeId) : AV → AV → Prop | .nilp, n => n = .int .i64 0 | .dp es (some t), n => cleanAt e (h t) ∧ n = .int .i64 es.length ∧ (bytesOf es).isSome = true ∧ es.length ≤ 9223372036854775807 | _, _ => False
@[simp] theorem usOk_nilp (e : TypeId) (n : AV) : usOk h e .nilp n = (n = .int .i64 0) := rfl
@[simp] theorem usOk_dp (e : TypeId) (es : List (List AV)) (t : Nat) (n : AV) : usOk h e (.dp es (some t)) n = (cleanAt e (h t) ∧ n = .int .i64 es.length ∧ (bytesOf es).isSome = true ∧ es.length ≤ 9223372036854775807) := rfl
@[simp] theorem ok_ustr (e : TypeId) (x n : Arg) : SO.ok id ts h (.ustr e x n) = usOk h e (x.ev ts) (n.ev ts) := by
  apply propext; simp only [SO.ok]
  constructor
  · rintro (⟨h1, h2⟩ | ⟨es, t, l, h1, h2, h3, h4, h5⟩)
    · rw [h1]; exact h2
    · rw [h1]; exact ⟨by rw [h2]; exact ⟨rfl, rfl⟩, h3, by rw [h4]; rfl, h5⟩
  · intro hh
    cases hX : x.ev ts <;> (rw [hX] at hh) <;> try exact hh.elim
    · exact .inl ⟨rfl, hh⟩
    · rename_i es tok
      cases tok with
      | none => exact hh.elim
      | some t =>
        obtain ⟨h1, h2, h3, h4⟩ := hh
        obtain ⟨l, hl⟩ := Option.isSome_iff_exists.1 h3
        refine .inr ⟨es, t, l, rfl, ?_, h2, hl, h4⟩
        unfold cleanAt at h1
        split at h1
        · rename_i heq; rw [heq, h1.1, h1.2]
        · exact h1.elim
def usVal : AV → AV | .dp es _ => .str ((bytesOf es).getD []) | _ => .str []
@[simp] theorem usVal_nilp : usVal .nilp = .str [] := rfl
@[simp] theorem usVal_dp (es : List (List AV)) (t : Option Nat) : usVal (.dp es t) = .str ((bytesOf es).getD []) := rfl
@[simp] theorem val_ustr (e : TypeId) (x n : Arg) : SO.val id ts h (.ustr e x n) = usVal (x.ev ts) := by simp only [SO.val]; cases x.ev ts <;> rfl
@[simp] theorem heap_ustr (e : TypeId) (x n : Arg) : SO.heap id ts h (.ustr e x n) = h := rfl
def headAt (p : TypeId → List AV → Prop) : Option AObj → Prop | some (.box ty (e :: _)) => e ≠ [] ∧ p ty e | _ => False
@[simp] theorem headAt_box (p : TypeId → List AV → Prop) (ty : TypeId) (e : List AV) (r : List (List AV)) : headAt p (some (.box ty (e :: r))) = (e ≠ [] ∧ p ty e) := rfl
def cvOk (h : Hp) (p : TypeId → List AV → Prop) : AV → Prop | .nilp => True | .bp i j o => j = 0 ∧ o = 0 ∧ headAt p (h i) | _ => False
@[simp] theorem cvOk_nilp (p : TypeId → List AV → Prop) : cvOk h p .nilp = True := rfl
@[simp] theorem cvOk_bp (p : TypeId → List AV → Prop) (i j o : Nat) : cvOk h p (.bp i j o) = (j = 0 ∧ o = 0 ∧ headAt p (h i)) := rfl
theorem cvOk_iff {p : TypeId → List AV → Prop} {X : AV} : (X = .nilp ∨ ∃ id' ty es e, X = .bp id' 0 0 ∧ h id' = some (.box ty es) ∧ es[0]? = some e ∧ e ≠ [] ∧ p ty e) ↔ cvOk h p X := by
  constructor
  · rintro (rfl | ⟨id', ty, es, e, rfl, h1, h2, h3, h4⟩)
    · trivial
    · refine ⟨rfl, rfl, ?_⟩
      cases es with
      | nil => simp at h2
      | cons e0 r => simp at h2; subst h2; rw [h1]; exact ⟨h3, h4⟩
  · intro hh
    cases X <;> try exact hh.elim
    · exact .inl rfl
    · obtain ⟨rfl, rfl, hh⟩ := hh
      unfold headAt at hh
      split at hh
      · rename_i heq; exact .inr ⟨_, _, _, _, rfl, heq, rfl, hh.1, hh.2⟩
      · exact hh.elim
@[simp] theorem ok_cvpu (x : Arg) : SO.ok id ts h (.cvpu x) = cvOk h (fun _ _ => True) (x.ev ts) := by
  apply propext; rw [← cvOk_iff]; simp only [SO.ok, and_true]
@[simp] theorem ok_cvup (tys : List (TypeId × Nat)) (x : Arg) : SO.ok id ts h (.cvup tys x) = cvOk h (fun ty e => (ty, e.length) ∈ tys) (x.ev ts) := by
  apply propext; rw [← cvOk_iff]; simp only [SO.ok]
@[simp] theorem val_cvpu (x : Arg) : SO.val id ts h (.cvpu x) = x.ev ts := rfl
@[simp] theorem val_cvup (tys : List (TypeId × Nat)) (x : Arg) : SO.val id ts h (.cvup tys x) = x.ev ts := rfl
@[simp] theorem heap_cvpu (x : Arg) : SO.heap id ts h (.cvpu x) = h := rfl
@[simp] theorem heap_cvup (tys : List (TypeId × Nat)) (x : Arg) : SO.heap id ts h (.cvup tys x) = h := rfl
@[simp] theorem ok_idn (x : Arg) : SO.ok id ts h (.idn x) = True := rfl
@[simp] theorem val_idn (x : Arg) : SO.val id ts h (.idn x) = x.ev ts := rfl
@[simp] theorem heap_idn (x : Arg) : SO.heap id ts h (.idn x) = h := rfl
@[simp] theorem ok_same (x : Arg) : SO.ok id ts h (.same x) = isStr (x.ev ts) := by apply propext; simp only [SO.ok]; cases x.ev ts <;> simp [isStr]
@[simp] theorem heap_lens (x : Arg) : SO.heap id ts h (.lens x) = h := rfl
@[simp] theorem heap_len (x : Arg) : SO.heap id ts h (.len x) = h := rfl
@[simp] theorem heap_mx (x y : Arg) : SO.heap id ts h (.mx x y) = h := rfl
@[simp] theorem heap_mn (x y : Arg) : SO.heap id ts h (.mn x y) = h := rfl

/-! what an operation of a drawn region is checked for -/
@[simp] theorem FP.D_mk (f x : Nat) (l : List Nat) : FP.D n0 ⟨f, l⟩ x = (1 ≤ f ∧ x < n0 ∨ ∃ j ∈ l, x = n0 + j) := rfl
@[simp] theorem FP.W_mk (f x : Nat) (l : List Nat) : FP.W n0 ⟨f, l⟩ x = (f = 2 ∧ x < n0 ∨ ∃ j ∈ l, x = n0 + j) := rfl
def bpIn (D : Nat → Prop) : AV → Prop | .bp id _ _ => D id | _ => True
@[simp] theorem bpIn_bp (D : Nat → Prop) (a b c : Nat) : bpIn D (.bp a b c) = D a := rfl
@[simp] theorem bpIn_ep (D : Nat → Prop) (a : List AV) (c : Nat) : bpIn D (.ep a c) = True := rfl
@[simp] theorem chkS_nils (D : Nat → Prop) : chkS D .nils = True := rfl
@[simp] theorem chkS_row (D : Nat → Prop) (es : List (List AV)) (t : Option Nat) : chkS D (.row es t) = True := rfl
@[simp] theorem chkS_str (D : Nat → Prop) (l : List UInt8) : chkS D (.str l) = True := rfl
@[simp] theorem chkS_sl (D : Nat → Prop) (a b c : Nat) : chkS D (.sl a b c) = D a := rfl
@[simp] theorem chkS_accV (D : Nat → Prop) (l : List (List AV)) (t : Nat) : chkS D (accV l t) = True := by cases l <;> rfl
@[simp] theorem chkS_rowV (D : Nat → Prop) (l : List (List AV)) : chkS D (rowV l) = True := by cases l <;> rfl
def tokIn (D : Nat → Prop) : AV → Prop | .row _ (some t) => D t | _ => True
@[simp] theorem tokIn_row (D : Nat → Prop) (es : List (List AV)) (t : Nat) : tokIn D (.row es (some t)) = D t := rfl
@[simp] theorem tokIn_nils (D : Nat → Prop) : tokIn D .nils = True := rfl
@[simp] theorem chk_load (n : Option Nat) (x : Arg) : SO.chk n0 i fp ts (.load n x) = bpIn (fp.D n0) (x.ev ts) := by simp only [SO.chk]; cases x.ev ts <;> rfl
@[simp] theorem chk_ia (s : Nat) (x k : Arg) : SO.chk n0 i fp ts (.ia s x k) = chkS (fp.D n0) (x.ev ts) := rfl
@[simp] theorem chk_sub (s : Nat) (x : Arg) (lo hi : Option Arg) : SO.chk n0 i fp ts (.sub s x lo hi) = chkS (fp.D n0) (x.ev ts) := rfl
@[simp] theorem chk_b2s (x : Arg) : SO.chk n0 i fp ts (.b2s x) = chkS (fp.D n0) (x.ev ts) := rfl
@[simp] theorem chk_store (n : Nat) (a x : Arg) : SO.chk n0 i fp ts (.store n a x) = bpIn (fp.W n0) (a.ev ts) := by simp only [SO.chk]; cases a.ev ts <;> rfl
def dpIn (D : Nat → Prop) : AV → Prop | .dp _ (some t) => D t | _ => True
@[simp] theorem dpIn_nilp (D : Nat → Prop) : dpIn D .nilp = True := rfl
@[simp] theorem dpIn_dp (D : Nat → Prop) (es : List (List AV)) (t : Nat) : dpIn D (.dp es (some t)) = D t := rfl
@[simp] theorem bpIn_nilp (D : Nat → Prop) : bpIn D .nilp = True := rfl
@[simp] theorem chk_cvpu (x : Arg) : SO.chk n0 i fp ts (.cvpu x) = bpIn (fp.D n0) (x.ev ts) := by simp only [SO.chk]; cases x.ev ts <;> rfl
@[simp] theorem chk_cvup (tys : List (TypeId × Nat)) (x : Arg) : SO.chk n0 i fp ts (.cvup tys x) = bpIn (fp.D n0) (x.ev ts) := by simp only [SO.chk]; cases x.ev ts <;> rfl
@[simp] theorem chk_ustr (e : TypeId) (x n : Arg) : SO.chk n0 i fp ts (.ustr e x n) = dpIn (fp.D n0) (x.ev ts) := by
  simp only [SO.chk]; cases x.ev ts <;> rfl
@[simp] theorem chk_sdata (x : Arg) : SO.chk n0 i fp ts (.sdata x) = True := rfl
@[simp] theorem chk_idn (x : Arg) : SO.chk n0 i fp ts (.idn x) = True := rfl
@[simp] theorem chk_alloc (ty : TypeId) (z : List AV) : SO.chk n0 i fp ts (.alloc ty z) = fp.W n0 (n0 + i) := rfl
@[simp] theorem chk_box (ty : TypeId) (x : Arg) : SO.chk n0 i fp ts (.box ty x) = fp.W n0 (n0 + i) := rfl
@[simp] theorem chk_empt : SO.chk n0 i fp ts .empt = fp.W n0 (n0 + i) := rfl
@[simp] theorem chk_bslice (ty : TypeId) (s n : Nat) (z : List AV) (ps : List (Nat × Arg)) (bx : Bool) : SO.chk n0 i fp ts (.bslice ty s n z ps bx) = fp.W n0 (n0 + i) := rfl
@[simp] theorem chk_mks (ty : TypeId) (s b : Nat) (z : List AV) (l c : Arg) (bx : Bool) : SO.chk n0 i fp ts (.mks ty s b z l c bx) = fp.W n0 (n0 + i) := rfl
@[simp] theorem chk_mkm (r : Option Arg) : SO.chk n0 i fp ts (.mkm r) = fp.W n0 (n0 + i) := rfl
@[simp] theorem chk_look (ck : CK) (z : AV) (ok : Bool) (m k : Arg) : SO.chk n0 i fp ts (.look ck z ok m k) = chkM (fp.D n0) (m.ev ts) := rfl
@[simp] theorem chk_mlen (m : Arg) : SO.chk n0 i fp ts (.mlen m) = chkM (fp.D n0) (m.ev ts) := rfl
@[simp] theorem chk_mput (ck : CK) (m k v : Arg) : SO.chk n0 i fp ts (.mput ck m k v) = chkM (fp.W n0) (m.ev ts) := rfl
attribute [simp] chkM
@[simp] theorem chk_marks (x : Arg) : SO.chk n0 i fp ts (.marks x) = tokIn (fp.W n0) (x.ev ts) := by
  simp only [SO.chk]; cases x.ev ts <;> first | rfl | (rename_i es t; cases t <;> rfl)
@[simp] theorem chk_s2b (x : Arg) : SO.chk n0 i fp ts (.s2b x) = fp.W n0 (n0 + i) := rfl
@[simp] theorem chk_app (ty : TypeId) (s b : Nat) (x y : Arg) : SO.chk n0 i fp ts (.app ty s b x y) = (fp.W n0 (n0 + i) ∧ tokIn (fp.W n0) (x.ev ts) ∧ chkS (fp.D n0) (y.ev ts)) := by
  simp only [SO.chk]; congr 2
/-- a slice of what lies in W -/
def slIn (W : Nat → Prop) : AV → Prop | .sl t _ _ => W t | _ => True
@[simp] theorem slIn_nils (W : Nat → Prop) : slIn W .nils = True := rfl
@[simp] theorem slIn_sl (W : Nat → Prop) (t i n : Nat) : slIn W (.sl t i n) = W t := rfl
@[simp] theorem chk_grow (ty : TypeId) (s b : Nat) (x y : Arg) : SO.chk n0 i fp ts (.grow ty s b x y) = (fp.W n0 (n0 + i) ∧ slIn (fp.W n0) (x.ev ts) ∧ chkS (fp.D n0) (y.ev ts)) := by
  simp only [SO.chk]; congr 2
theorem chk_pure {s : SO} (hp : s.pure = true) : s.chk n0 i fp ts = True := by cases s <;> first | (simp [SO.pure] at hp; done) | rfl
@[simp] theorem chk_mv (x : Arg) : SO.chk n0 i fp ts (.mv x) = True := rfl
@[simp] theorem chk_pick (c a b : Arg) : SO.chk n0 i fp ts (.pick c a b) = True := rfl
@[simp] theorem chk_build (z : List AV) (ps : List (Nat × Nat × Arg)) : SO.chk n0 i fp ts (.build z ps) = True := rfl
@[simp] theorem chk_nilck (x : Arg) : SO.chk n0 i fp ts (.nilck x) = True := rfl
@[simp] theorem chk_bin (op : BinOp) (x y : Arg) : SO.chk n0 i fp ts (.bin op x y) = True := rfl
@[simp] theorem chk_eqs (q : EqK) (neg : Bool) (x y : Arg) : SO.chk n0 i fp ts (.eqs q neg x y) = True := rfl
@[simp] theorem chk_un (op : UnOp) (x : Arg) : SO.chk n0 i fp ts (.un op x) = True := rfl
@[simp] theorem chk_cvi (k : IntKind) (x : Arg) : SO.chk n0 i fp ts (.cvi k x) = True := rfl
@[simp] theorem chk_fa (o : Nat) (x : Arg) : SO.chk n0 i fp ts (.fa o x) = True := rfl
@[simp] theorem chk_fld (o : Nat) (n : Option Nat) (x : Arg) : SO.chk n0 i fp ts (.fld o n x) = True := rfl
@[simp] theorem chk_iaa (l s : Nat) (x k : Arg) : SO.chk n0 i fp ts (.iaa l s x k) = True := rfl
@[simp] theorem chk_ixs (x k : Arg) : SO.chk n0 i fp ts (.ixs x k) = True := rfl
@[simp] theorem chk_ixa (l s : Nat) (n : Option Nat) (x k : Arg) : SO.chk n0 i fp ts (.ixa l s n x k) = True := rfl
@[simp] theorem chk_ext (x : Arg) (k : Nat) : SO.chk n0 i fp ts (.ext x k) = True := rfl
@[simp] theorem chk_mkf (f : Fn) (a b : List Arg) : SO.chk n0 i fp ts (.mkf f a b) = True := rfl
@[simp] theorem chk_subs (x : Arg) (lo hi : Option Arg) : SO.chk n0 i fp ts (.subs x lo hi) = True := rfl
@[simp] theorem chk_mki (t : TypeId) (x : Arg) : SO.chk n0 i fp ts (.mki t x) = True := rfl
@[simp] theorem chk_tas (t : TypeId) (ok : Bool) (x : Arg) : SO.chk n0 i fp ts (.tas t ok x) = True := rfl
@[simp] theorem chk_lens (x : Arg) : SO.chk n0 i fp ts (.lens x) = True := rfl
@[simp] theorem chk_len (x : Arg) : SO.chk n0 i fp ts (.len x) = True := rfl
@[simp] theorem chk_mx (x y : Arg) : SO.chk n0 i fp ts (.mx x y) = True := rfl
@[simp] theorem chk_mn (x y : Arg) : SO.chk n0 i fp ts (.mn x y) = True := rfl
end
end

@[simp] theorem rv_tmp_ok (ts : List AV) (h : Hp) (t : Nat) : RV.ok ts h (.tmp t) = True := rfl
@[simp] theorem rv_cell_ok (ts : List AV) (h : Hp) (t : Nat) (n : Option Nat) : RV.ok ts h (.cell t n) = targetOk (target h (tmp ts t)) n := by
  apply propext; simp only [RV.ok, targetOk, tmp]; cases target h (ts.getD t .undef) with
  | none => simp
  | some p =>
    obtain ⟨a, b⟩ := p
    constructor
    · rintro ⟨cs, off, e, hh⟩; cases e; exact hh
    · intro hh; exact ⟨a, b, rfl, hh⟩
@[simp] theorem rv_tmp_val (ts : List AV) (h : Hp) (t : Nat) : RV.val ts h (.tmp t) = tmp ts t := rfl
@[simp] theorem rv_cell_val (ts : List AV) (h : Hp) (t : Nat) (n : Option Nat) : RV.val ts h (.cell t n) = targetVal (target h (tmp ts t)) n := rfl

theorem wrap_id {x : Int} (h1 : -9223372036854775808 ≤ x) (h2 : x ≤ 9223372036854775807) : IntKind.i64.wrap x = x := by rw [IntKind.wrap_i64]; omega
end Go.Proofs.YtgahmpfpnclefaaW.Abs
