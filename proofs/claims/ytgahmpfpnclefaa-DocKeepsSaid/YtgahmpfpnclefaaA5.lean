/- Light operations are what the model's operations do: arguments, and what touches no memory. -/
import Derived.Test.YtgahmpfpnclefaaA4
namespace Go.Proofs.YtgahmpfpnclefaaW.Abs
open Go.RowKit
set_option linter.unusedVariables false
set_option linter.unusedSimpArgs false

/-- what is known of a type -/
structure TI where
  d : TypeDesc
  size : Nat
  bytes : Nat
  zero : AV

def isAggD : TypeDesc → Bool
  | .struct _ | .array _ _ => true
  | _ => false

structure TIok (P : Program) (t : TypeId) (i : TI) : Prop where
  und : P.underlying t = some i.d
  info : ∃ j z, P.info? t = some j ∧ j.size = i.size ∧ j.bytes = i.bytes ∧ j.zero = some z ∧ ∀ E, Rep E i.zero z

def cAV0 : Value → Option AV
  | .int k n => some (.int k n)
  | .bool b => some (.bool b)
  | .string s => some (.str s.data.toList)
  | .pointer none => some .nilp
  | .slice none 0 0 => some .nils
  | .map none => some .nilm
  | .nilFunc => some .nilf
  | .nilIface => some .nili
  | _ => none

theorem cAV0_rep {v : Value} {x : AV} (h : cAV0 v = some x) (E : Env) : Rep E x v := by
  unfold cAV0 at h
  split at h <;> first | (cases h; done) | skip
  all_goals (cases h)
  · exact .int _ _
  · exact .bool _
  · exact .str _
  · exact .nilp
  · exact .nils
  · exact .nilm
  · exact .nilf
  · exact .nili

def cList : List Value → Option (List AV)
  | [] => some []
  | v :: r => match cAV0 v, cList r with
    | some x, some xs => some (x :: xs)
    | _, _ => none
theorem cList_rep {E : Env} : ∀ {vs : List Value} {xs : List AV}, cList vs = some xs → Reps E xs vs
  | [], xs, h => by cases h; exact .nil
  | v :: r, xs, h => by
    unfold cList at h
    split at h
    · rename_i x ys h1 h2
      cases h
      exact .cons (cAV0_rep h1 E) (cList_rep h2)
    · cases h
def cAV : Value → Option AV
  | .agg cs => (cList cs.toList).map .agg
  | .tuple vs => if vs.size = 0 then some .undef else none
  | .func (.func f) a b => if a.size = 0 ∧ b.size = 0 then some (.fn (.func f) [] []) else none
  | v => cAV0 v
theorem Rep.agg' {E : Env} {xs : List AV} {cs : Array Value} (h : Reps E xs cs.toList) : Rep E (.agg xs) (.agg cs) := .agg (by simpa using h.1) (fun i a v ha hv => h.2 i a v ha (by simpa using hv))
theorem Rep.tup' {E : Env} {xs : List AV} {cs : Array Value} (h : Reps E xs cs.toList) : Rep E (.tup xs) (.tuple cs) := .tup (by simpa using h.1) (fun i a v ha hv => h.2 i a v ha (by simpa using hv))
theorem Rep.fn' {E : Env} {f : Fn} {xs ys : List AV} {vs ws : Array Value} (h : Reps E xs vs.toList) (k : Reps E ys ws.toList) : Rep E (.fn f xs ys) (.func f vs ws) :=
  .fn (by simpa using h.1) (by simpa using k.1) (fun i a v ha hv => h.2 i a v ha (by simpa using hv)) (fun i a v ha hv => k.2 i a v ha (by simpa using hv))
theorem cAV_rep {v : Value} {x : AV} (h : cAV v = some x) (E : Env) : Rep E x v := by
  unfold cAV at h
  split at h
  · rename_i cs
    cases hc : cList cs.toList with
    | none => simp [hc] at h
    | some xs => simp [hc] at h; subst h; exact .agg' (cList_rep hc)
  · rename_i vs
    split at h
    · rename_i hz; cases h
      have : vs = #[] := by simpa using hz
      subst this; exact .undef
    · cases h
  · rename_i f a b
    split at h
    · rename_i hz; cases h
      have h1 : a = #[] := by simpa using hz.1
      have h2 : b = #[] := by simpa using hz.2
      subst h1; subst h2; exact .fn' .nil .nil
    · cases h
  · exact cAV0_rep h E

def compA : Operand → Option Arg
  | .tmp t => some (.t t)
  | .const v => (cAV v).map .k
  | .func f => some (.k (.fn (.func f) [] []))
  | .global _ => none

theorem compA_rep {E : Env} {ts : List AV} {a : Act} {x : Operand} {y : Arg} (ht : Reps E ts a.tmps.toList) (h : compA x = some y) : Rep E (y.ev ts) (a.eval x) := by
  cases x with
  | tmp t =>
    cases h
    show Rep E (ts.getD t .undef) (a.tmps.getD t undef)
    rcases Nat.lt_or_ge t ts.length with hl | hl
    · have h2 : t < a.tmps.toList.length := ht.1 ▸ hl
      have := ht.2 t ts[t] a.tmps.toList[t] (List.getElem?_eq_getElem hl) (List.getElem?_eq_getElem h2)
      have h3 : t < a.tmps.size := by simpa using h2
      simpa [List.getD_eq_getElem?_getD, List.getElem?_eq_getElem hl, Array.getD_eq_getD_getElem?, Array.getElem?_eq_getElem h3] using this
    · have h2 : a.tmps.size ≤ t := by have := ht.1; simp at this; omega
      simp [List.getD_eq_getElem?_getD, List.getElem?_eq_none hl, Array.getD_eq_getD_getElem?, Array.getElem?_eq_none h2]
      exact .undef
  | const v =>
    simp only [compA, Option.map_eq_some_iff] at h
    obtain ⟨x, hx, rfl⟩ := h
    exact cAV_rep hx E
  | func f => cases h; exact .fn' .nil .nil
  | global g => cases h

/-- an operation ended: what it yielded and what it did -/
def Res (P : Program) (W0 : World) (o : Oper) (a : Act) (E : Env) (U : Nat → Prop) (id : Nat) (w : World) (val : AV) (heap : Hp) : Prop :=
  ∃ nx v w' E', (execOp a.eval o).run P w = .ok nx w' ∧ (nx = .value v ∨ (nx = .skip ∧ v = undef)) ∧ Ext E E' ∧ (∀ i b, E'.ι i = some b → E.ι i = some b ∨ i = id) ∧ Rel W0 E' (fun i => U i ∨ i = id) heap w' ∧ Rep E' val v

section
variable {t : TypeId} {P : Program} {W0 : World} {o : Oper} {a : Act} {E : Env} {U : Nat → Prop} {id : Nat} {h : Hp} {w : World} {ts : List AV}

theorem Res.pure {v : Value} {x : AV} (r : Rel W0 E U h w) (he : (execOp a.eval o).run P w = .ok (.value v) w) (hx : Rep E x v) : Res P W0 o a E U id w x h :=
  ⟨_, v, w, E, he, .inl rfl, .refl E, fun _ _ e => .inl e, r.used fun _ => .inl, hx⟩

theorem Rep.bool_inv {b : Bool} {v : Value} (h : Rep E (.bool b) v) : v = .bool b := by cases h; rfl
theorem Rep.int_inv {k : IntKind} {n : Int} {v : Value} (h : Rep E (.int k n) v) : v = .int k n := by cases h; rfl
theorem Rep.str_inv {l : List UInt8} {v : Value} (h : Rep E (.str l) v) : v = .string (bytes l) := by cases h; rfl
theorem isInt_inv {x : AV} (h : x.isInt) : ∃ k, x = .int k x.toInt := by cases x <;> first | (simp [AV.isInt] at h; done) | exact ⟨_, rfl⟩

theorem mv_res {x : Operand} {y : Arg} (r : Rel W0 E U h w) (ht : Reps E ts a.tmps.toList) (hx : compA x = some y) (ho : o.op = .move x ∨ o.op = .assign x) : Res P W0 o a E U id w (y.ev ts) h := by
  refine .pure r ?_ (compA_rep ht hx)
  rcases ho with ho | ho <;> (unfold execOp; rw [ho]; rfl)

theorem pick_res {c x y : Operand} {c' x' y' : Arg} (r : Rel W0 E U h w) (ht : Reps E ts a.tmps.toList) (hc : compA c = some c') (hx : compA x = some x') (hy : compA y = some y') (ho : o.op = .pick c x y)
    (hok : SO.ok id ts h (.pick c' x' y')) : Res P W0 o a E U id w (SO.val id ts h (.pick c' x' y')) h := by
  obtain ⟨b, hb⟩ := hok
  have h1 := (hb ▸ compA_rep ht hc : Rep E (.bool b) _).bool_inv
  cases b with
  | true => exact .pure r (v := a.eval x) (by unfold execOp; rw [ho]; simp [h1, asBool]) (by simp only [SO.val, hb]; exact compA_rep ht hx)
  | false => exact .pure r (v := a.eval y) (by unfold execOp; rw [ho]; simp [h1, asBool]) (by simp only [SO.val, hb]; exact compA_rep ht hy)

theorem bytes_size (l : List UInt8) : (bytes l).size = l.length := rfl
theorem bytes_toList (l : List UInt8) : (bytes l).toList = l := ByteArray.toList_mk l
theorem bytes_append (x y : List UInt8) : bytes x ++ bytes y = bytes (x ++ y) := by
  apply ByteArray.ext
  simp [bytes]
theorem strLess_eq : ∀ (x y : List UInt8), Op.bytesLess x y = strLess x y
  | _, [] => by simp [Op.bytesLess, strLess]
  | [], _ :: _ => by simp [Op.bytesLess, strLess]
  | a :: x, b :: y => by simp [Op.bytesLess, strLess, strLess_eq x y]


theorem str_run {op : BinOp} {x y : List UInt8} (hok : binOk op (.str x) (.str y)) : ∃ v, (Op.stringOp op (bytes x) (bytes y)).run P w = .ok v w ∧ ∀ E, Rep E (binVal op (.str x) (.str y)) v := by
  unfold Op.stringOp
  simp only [bytes_toList, strLess_eq, bytes_size, bytes_append]
  cases op <;> simp only [binOk] at hok <;> simp only [binVal, strBin]
  case add =>
    have : ¬ ((x.length + y.length : Nat) : Int) > IntKind.i64.max := by
      have : IntKind.i64.max = 9223372036854775807 := by decide
      omega
    exact ⟨_, by rw [if_neg this]; rfl, fun E => .str _⟩
  all_goals exact ⟨_, rfl, fun E => .bool _⟩

theorem intBin_run {op : BinOp} {k : IntKind} {x y : Int} (hok : binOk op (.int k x) (.int k y)) (h1 : op ≠ .shl) (h2 : op ≠ .shr) : ∃ v, (binOp op t (.int k x) (.int k y)).run P w = .ok v w ∧ ∀ E, Rep E (binVal op (.int k x) (.int k y)) v := by
  cases op <;> first | (exact absurd rfl h1) | (exact absurd rfl h2) | skip
  case quo => 
    simp only [binOk] at hok
    exact ⟨_, by simp only [binOp, ne_eq, not_true_eq_false, ↓reduceIte, Op.intDiv, hok.2]; rfl, fun E => .int _ _⟩
  case rem => 
    simp only [binOk] at hok
    exact ⟨_, by simp only [binOp, ne_eq, not_true_eq_false, ↓reduceIte, Op.intDiv, hok.2]; rfl, fun E => .int _ _⟩
  all_goals (refine ⟨_, by simp only [binOp, ne_eq, not_true_eq_false, ↓reduceIte, Op.intArith, Op.intBits, Op.intCmp]; rfl, fun E => ?_⟩; simp only [binVal, intBin]; first | exact .int _ _ | exact .bool _)

theorem shift_run {op : BinOp} {k k' : IntKind} {x y : Int} (hok : 0 ≤ y) (h1 : op = .shl ∨ op = .shr) : ∃ v, (binOp op t (.int k x) (.int k' y)).run P w = .ok v w ∧ ∀ E, Rep E (binVal op (.int k x) (.int k' y)) v := by
  have hy : ¬ y < 0 := by omega
  rcases h1 with rfl | rfl
  · exact ⟨_, by simp only [binOp, Op.shift, hy, ↓reduceIte]; rfl, fun E => .int _ _⟩
  · exact ⟨_, by simp only [binOp, Op.shift, hy, ↓reduceIte]; rfl, fun E => .int _ _⟩

theorem eqGuard_none {op : BinOp} {t : TypeId} {x y : Operand} {u v : Value} (h1 : u ≠ .nilIface) (h2 : ∀ cs, u ≠ .agg cs) : (eqGuard op t x y u v).run P w = .ok () w := by
  unfold eqGuard
  cases op <;> first | rfl | (cases u <;> first | rfl | exact absurd rfl h1 | exact absurd rfl (h2 _))

theorem bin_res {op : BinOp} {t : TypeId} {t' : TypeId} {x y : Operand} {x' y' : Arg} (r : Rel W0 E U h w) (ht : Reps E ts a.tmps.toList) (hx : compA x = some x') (hy : compA y = some y') (ho : o.op = .binOp op t x y t')
    (hok : SO.ok id ts h (.bin op x' y')) : Res P W0 o a E U id w (SO.val id ts h (.bin op x' y')) h := by
  have rx := compA_rep ht hx
  have ry := compA_rep ht hy
  simp only [SO.ok] at hok
  simp only [SO.val]
  generalize x'.ev ts = X at hok rx ⊢
  generalize y'.ev ts = Y at hok ry ⊢
  have key : ∃ v, (binOp op t (a.eval x) (a.eval y)).run P w = .ok v w ∧ ∀ E, Rep E (binVal op X Y) v ∧ (eqGuard op t x y (a.eval x) (a.eval y)).run P w = .ok () w := by
    cases X <;> first | (cases Y <;> (first | (simp [binOk] at hok; done))) | skip
    case int k n =>
      cases Y <;> first | (simp [binOk] at hok; done) | skip
      case int k' m =>
        have e1 := rx.int_inv; have e2 := ry.int_inv
        rw [e1, e2]
        have g : (eqGuard op t x y (.int k n) (.int k' m)).run P w = .ok () w := eqGuard_none (by simp) (by simp)
        by_cases hs : op = .shl ∨ op = .shr
        · have h0 : 0 ≤ m := by rcases hs with rfl | rfl <;> simpa [binOk] using hok
          obtain ⟨v, hv, hr⟩ := shift_run (P := P) (w := w) (t := t) (k := k) (k' := k') (x := n) h0 hs
          exact ⟨v, hv, fun E => ⟨hr E, g⟩⟩
        · have hk : k = k' := by
            cases op <;> first | (exact absurd (Or.inl rfl) hs) | (exact absurd (Or.inr rfl) hs) | exact hok | exact hok.1
          subst hk
          obtain ⟨v, hv, hr⟩ := intBin_run (P := P) (w := w) (t := t) hok (fun e => hs (.inl e)) (fun e => hs (.inr e))
          exact ⟨v, hv, fun E => ⟨hr E, g⟩⟩
    case str l =>
      cases Y <;> first | (simp [binOk] at hok; done) | skip
      case str l' =>
        have e1 := rx.str_inv; have e2 := ry.str_inv
        rw [e1, e2]
        have g : (eqGuard op t x y (.string (bytes l)) (.string (bytes l'))).run P w = .ok () w := eqGuard_none (by simp) (by simp)
        obtain ⟨v, hv, hr⟩ := str_run (P := P) (w := w) hok
        refine ⟨v, ?_, fun E => ⟨hr E, g⟩⟩
        rw [← hv]
        cases op <;> first | (simp [binOk] at hok; done) | rfl
  obtain ⟨v, hv, hr⟩ := key
  exact .pure r (v := v) (by unfold execOp; rw [ho]; simp [(hr E).2, hv]) (hr E).1

theorem un_res {op : UnOp} {t : TypeId} {x : Operand} {x' : Arg} (r : Rel W0 E U h w) (ht : Reps E ts a.tmps.toList) (hx : compA x = some x') (ho : o.op = .unOp op t x)
    (hok : SO.ok id ts h (.un op x')) : Res P W0 o a E U id w (SO.val id ts h (.un op x')) h := by
  have rx := compA_rep ht hx
  simp only [SO.ok] at hok
  simp only [SO.val]
  generalize x'.ev ts = X at hok rx ⊢
  cases X <;> first | (exact absurd rfl hok) | skip
  case int k n =>
    have e := rx.int_inv
    cases op <;> first | (exact absurd rfl hok) | skip
    · exact .pure r (v := .int k (k.wrap (0 - n))) (by unfold execOp; rw [ho]; simp [e, Op.unary, Op.intArith]) (.int _ _)
    · exact .pure r (v := _) (by unfold execOp; rw [ho]; simp only [e, Op.unary, Op.intBits]; rfl) (.int _ _)
  case bool b =>
    have e := rx.bool_inv
    cases op <;> first | (exact absurd rfl hok) | skip
    exact .pure r (v := .bool (!b)) (by unfold execOp; rw [ho]; simp [e, Op.unary]) (.bool _)

theorem cvi_res {s d : TypeId} {k k0 : IntKind} {x : Operand} {x' : Arg} (r : Rel W0 E U h w) (ht : Reps E ts a.tmps.toList) (hx : compA x = some x') (ho : o.op = .convert s d x) (hs : P.underlying s = some (.int k0)) (hd : P.underlying d = some (.int k))
    (hok : SO.ok id ts h (.cvi k x')) : Res P W0 o a E U id w (SO.val id ts h (.cvi k x')) h := by
  have rx := compA_rep ht hx
  simp only [SO.ok] at hok
  simp only [SO.val]
  obtain ⟨k1, e1⟩ := isInt_inv hok
  generalize (x'.ev ts).toInt = n at e1 ⊢
  rw [e1] at rx
  have e := rx.int_inv
  refine .pure r (v := .int k (k.wrap n)) ?_ (.int _ _)
  unfold execOp; rw [ho]
  simp [e, convert, run_underlying hs, run_underlying hd, Conv.intToInt]

theorem same_res {s d : TypeId} {x : Operand} {x' : Arg} (r : Rel W0 E U h w) (ht : Reps E ts a.tmps.toList) (hx : compA x = some x') (ho : o.op = .convert s d x) (hs : P.underlying s = some .string) (hd : P.underlying d = some .string)
    (hok : ∃ l, x'.ev ts = .str l) : Res P W0 o a E U id w (SO.val id ts h (.same x')) h := by
  have rx := compA_rep ht hx
  obtain ⟨l, hl⟩ := hok
  rw [hl] at rx
  have e := rx.str_inv
  refine .pure r (v := .string (bytes l)) ?_ (by simp only [SO.val, hl]; exact .str _)
  unfold execOp; rw [ho]
  simp [e, convert, run_underlying hs, run_underlying hd]

theorem mki_res {t : TypeId} {x : Operand} {x' : Arg} {d : TypeDesc} (r : Rel W0 E U h w) (ht : Reps E ts a.tmps.toList) (hx : compA x = some x') (ho : o.op = .makeInterface t x) (hd : P.underlying t = some d) (hi : ∀ ms, d ≠ .interface ms) : Res P W0 o a E U id w (SO.val id ts h (.mki t x')) h := by
  refine .pure r (v := .iface t (a.eval x)) ?_ (.ifc (compA_rep ht hx))
  unfold execOp; rw [ho]
  cases d <;> first | (exact absurd rfl (hi _)) | simp [Instr.makeInterface, run_underlying hd]

theorem ext_res {x : Operand} {x' : Arg} {i : Nat} (r : Rel W0 E U h w) (ht : Reps E ts a.tmps.toList) (hx : compA x = some x') (ho : o.op = .extract x i)
    (hok : SO.ok id ts h (.ext x' i)) : Res P W0 o a E U id w (SO.val id ts h (.ext x' i)) h := by
  have rx := compA_rep ht hx
  obtain ⟨vs, hv, hi⟩ := hok
  rw [hv] at rx
  simp only [SO.val, hv]
  generalize hv0 : a.eval x = V at rx
  cases rx with
  | @tup _ us hs hh =>
    have hi' : i < us.size := by omega
    refine .pure r (v := us[i]) ?_ ?_
    · unfold execOp; rw [ho]; simp [hv0, Instr.extract, Array.getElem?_eq_getElem hi']
    · have := hh i vs[i] us[i] (List.getElem?_eq_getElem hi) (Array.getElem?_eq_getElem hi')
      simpa [List.getD_eq_getElem?_getD, List.getElem?_eq_getElem hi] using this

def compL : List Operand → Option (List Arg)
  | [] => some []
  | x :: r => match compA x, compL r with
    | some y, some ys => some (y :: ys)
    | _, _ => none
theorem compL_rep (ht : Reps E ts a.tmps.toList) : ∀ {xs : List Operand} {ys : List Arg}, compL xs = some ys → Reps E (ys.map (·.ev ts)) (xs.map a.eval)
  | [], ys, h => by cases h; exact .nil
  | x :: r, ys, h => by
    unfold compL at h
    split at h
    · rename_i y zs h1 h2; cases h
      exact .cons (compA_rep ht h1) (compL_rep ht h2)
    · cases h

theorem mkf_res {f : Fn} {first caps : Array Operand} {fs cs : List Arg} (r : Rel W0 E U h w) (ht : Reps E ts a.tmps.toList) (hf : compL first.toList = some fs) (hc : compL caps.toList = some cs) (ho : o.op = .makeFunc f first caps) :
    Res P W0 o a E U id w (SO.val id ts h (.mkf f fs cs)) h := by
  refine .pure r (v := .func f (first.map a.eval) (caps.map a.eval)) ?_ (.fn' (by simpa using compL_rep ht hf) (by simpa using compL_rep ht hc))
  unfold execOp; rw [ho]; rfl

theorem ixs_res {t : TypeId} {x i : Operand} {x' i' : Arg} (r : Rel W0 E U h w) (ht : Reps E ts a.tmps.toList) (hx : compA x = some x') (hi : compA i = some i') (ho : o.op = .index t x i) (hs : P.underlying t = some .string)
    (hok : SO.ok id ts h (.ixs x' i')) : Res P W0 o a E U id w (SO.val id ts h (.ixs x' i')) h := by
  have rx := compA_rep ht hx
  have ri := compA_rep ht hi
  obtain ⟨hn, h0, l, hl, hlt⟩ := hok
  obtain ⟨k, ek⟩ := isInt_inv hn
  simp only [SO.val, hl]
  generalize (i'.ev ts).toInt = n at ek h0 hlt ⊢
  rw [ek] at ri; rw [hl] at rx
  have e1 := ri.int_inv; have e2 := rx.str_inv
  have hlt' : n.toNat < l.length := by omega
  refine .pure r (v := .int .u8 (l.getD n.toNat 0).toNat) ?_ (.int _ _)
  unfold execOp; rw [ho]
  have hg : (bytes l)[n.toNat]? = some (l.getD n.toNat 0) := by
    rw [show l.getD n.toNat 0 = l[n.toNat] by simp [List.getD_eq_getElem?_getD, List.getElem?_eq_getElem hlt']]
    have : n.toNat < (bytes l).size := hlt'
    rw [getElem?_pos (bytes l) n.toNat this]; rfl
  simp [e1, e2, Instr.index, asIntOf, run_underlying hs, h0, hg]

theorem mxn_run {k k' : IntKind} {x y : Int} : (Builtin.max_ #[] t #[.int k x, .int k' y]).run P w = .ok (.int k (if y > x then y else x)) w ∧ (Builtin.min_ #[] t #[.int k x, .int k' y]).run P w = .ok (.int k (if y < x then y else x)) w := by
  constructor <;> rfl
end
end Go.Proofs.YtgahmpfpnclefaaW.Abs
