/- The model's operations as light ones. -/
import Derived.Test.YtgahmpfpnclefaaA12u
import Derived.Test.YtgahmpfpnclefaaA9b
namespace Go.Proofs.YtgahmpfpnclefaaW.Abs
open Go.RowKit
set_option linter.unusedVariables false
set_option linter.unusedSimpArgs false

/-- all that is known of a program's types -/
structure Ctx where
  τ : Tys
  pl : TypeId → Bool
  /-- the blocks' types at whose head a variable of a type lies -/
  lies : TypeId → List (TypeId × Nat)
  /-- functions without a body that hand back what they get -/
  same : FuncId → Bool

structure Ctx.Ok (C : Ctx) (P : Program) : Prop where
  tys : Tysok P C.τ
  plain : ∀ t, C.pl t = true → P.stoodInHeld t = false ∧ P.eqGuardType P.depth t = false
  mixed : P.follows .mixedOrders = true
  lie : ∀ u t n, (t, n) ∈ C.lies u → P.cellsOf t = n ∧ n ≠ 0 ∧ rowAt P (sameLayout P P.depth · u) P.depth t 1 0 1 = true
  sames : ∀ f, C.same f = true → ∀ (v : Value) (w : World), (callFunc f #[v]).run P w = .ok (.value v) w

def partN (i : TI) : Option Nat := if isAggD i.d then some i.size else none

def plsOf (τ : Tys) : List Field → Option (List (Nat × Nat))
  | [] => some []
  | f :: r => match τ f.type, plsOf τ r with
    | some i, some ps => some ((f.offset, i.size) :: ps)
    | _, _ => none

def eqK (C : Ctx) (t : TypeId) (x y : Operand) : Option EqK :=
  match C.τ t with
  | none => none
  | some i => match i.d with
    | .bool => some .bool
    | .pointer e => (C.τ e).map fun _ => .ptr
    | .slice _ => some .slice
    | .map _ _ => some .map
    | .func _ _ _ => some .func
    | .interface _ => some (.iface (isConstO x || isConstO y))
    | .struct _ | .array _ _ => match eqTy C.τ C.pl 20 t with
      | some ks => if ks.length = i.size ∧ C.pl t = true then some (.agg ks) else none
      | none => none
    | _ => none

/-- a key's kind -/
def ckD : TypeDesc → Option CK
  | .int _ => some .int
  | .bool => some .bool
  | .string => some .str
  | _ => none
theorem ckD_of {d : TypeDesc} {k : CK} (h : ckD d = some k) : CKof d k := by
  cases d <;> simp [ckD] at h <;> subst h <;> first | rfl | exact ⟨_, rfl⟩

def compCall (C : Ctx) (bx : Bool) (c : Call) : Option SO :=
  match c.callee with
  | .builtin .len => match c.args.toList, c.argTypes.toList with
    | [x], [t] => match compA x, C.τ t with
      | some y, some i => match i.d with
        | .string => some (.lens y)
        | .slice _ => some (.len y)
        | .map _ _ => some (.mlen y)
        | _ => none
      | _, _ => none
    | _, _ => none
  | .builtin .append => match c.args.toList, c.argTypes.toList with
    | [x, y], [t, t2] => match compA x, compA y, C.τ t, C.τ t2 with
      | some x', some y', some i, some i2 => match i.d, i2.d with
        | _, .int _ => none
        | .slice e, _ => match C.τ e with
          | some ei => if ei.zero.cells.length = ei.size then some (if bx = true then .grow e ei.size ei.bytes x' y' else .app e ei.size ei.bytes x' y') else none
          | none => none
        | _, _ => none
      | _, _, _, _ => none
    | _, _ => none
  | .builtin .max => match c.args.toList with
    | [x, y] => match compA x, compA y with
      | some x', some y' => some (.mx x' y')
      | _, _ => none
    | _ => none
  | .builtin .min => match c.args.toList with
    | [x, y] => match compA x, compA y with
      | some x', some y' => some (.mn x' y')
      | _, _ => none
    | _ => none
  | .builtin .unsafeSliceData => match c.args.toList with
    | [x] => (compA x).map .sdata
    | _ => none
  | .builtin .unsafeString => match c.args.toList, c.argTypes.toList with
    | [x, y], [tp, _] => match compA x, compA y, C.τ tp with
      | some x', some y', some i => match i.d with
        | .pointer e => match C.τ e with
          | some ei => if ei.size = 1 then some (.ustr e x' y') else none
          | none => none
        | _ => none
      | _, _, _ => none
    | _, _ => none
  | .value (.func f) => if C.same f = true then match c.args.toList with
    | [x] => (compA x).map .idn
    | _ => none
    else none
  | _ => none

def compPut (C : Ctx) (t : TypeId) (m k v : Operand) : Option SO := match C.τ t, compA m, compA k, compA v with
  | some i, some m', some k', some v' => match i.d with
    | .map kt _ => match C.τ kt with
      | some ki => (ckD ki.d).map fun ck => .mput ck m' k' v'
      | none => none
    | _ => none
  | _, _, _, _ => none

def compO (C : Ctx) (bx : Bool) (o : Oper) : Option SO :=
  match o.op with
  | .move x | .assign x => (compA x).map .mv
  | .pick c x y => match compA c, compA x, compA y with
    | some c', some x', some y' => some (.pick c' x' y')
    | _, _, _ => none
  | .alloc t => (C.τ t).map fun i => .alloc t i.zero.cells
  | .box t x => (compA x).map (.box t)
  | .build t ps => match C.τ t with
    | none => none
    | some i => match i.d with
      | .struct fs => match plsOf C.τ fs.toList with
        | some pls => (compB ps.toList (pls[·]?)).map (.build i.zero.cells)
        | none => none
      | .array _ e => match C.τ e with
        | some ei => (compB ps.toList (fun k => some (k * ei.size, ei.size))).map (.build i.zero.cells)
        | none => none
      | _ => none
  | .buildSlice t n ps => match C.τ t with
    | none => none
    | some i => match i.d with
      | .slice e => match C.τ e, compS ps.toList with
        | some ei, some qs => some (if bx = true ∧ n = 0 ∧ ps.toList = [] then .empt else .bslice e ei.size n ei.zero.cells qs bx)
        | _, _ => none
      | _ => none
  | .load t x => match C.τ t, compA x with
    | some i, some y => some (.load (partN i) y)
    | _, _ => none
  | .store t p x => match C.τ t, compA p, compA x with
    | some i, some p', some x' => some (.store i.size p' x')
    | _, _, _ => none
  | .nilCheck x => (compA x).map .nilck
  | .binOp op t x y _ => match compA x, compA y with
    | some x', some y' => match op with
      | .eql => match C.τ t with
        | none => none
        | some i => match i.d with
          | .int _ | .string => some (.bin .eql x' y')
          | _ => (eqK C t x y).map fun q => .eqs q false x' y'
      | .neq => match C.τ t with
        | none => none
        | some i => match i.d with
          | .int _ | .string => some (.bin .neq x' y')
          | _ => (eqK C t x y).map fun q => .eqs q true x' y'
      | op => some (.bin op x' y')
    | _, _ => none
  | .unOp op _ x => (compA x).map (.un op)
  | .convert s d x => match C.τ s, C.τ d, compA x with
    | some i, some j, some y => match i.d, j.d with
      | .int _, .int k => some (.cvi k y)
      | .slice e, .string => match C.τ e with
        | some ei => match ei.d with
          | .int .u8 => some (.b2s y)
          | _ => none
        | none => none
      | .string, .slice e => match C.τ e with
        | some ei => match ei.d with
          | .int .u8 => some (.s2b y)
          | _ => none
        | none => none
      | .pointer u, .unsafePointer => match C.τ u with
        | some ui => if ui.size ≠ 0 then some (.cvpu y) else none
        | none => none
      | .unsafePointer, .pointer u => match C.τ u with
        | some _ => some (.cvup (C.lies u) y)
        | none => none
      | .string, .string => some (.same y)
      | .slice e, .slice _ => if s = d then match C.τ e with
        | some ei => match ei.d with
          | .int .u8 => some (.marks y)
          | _ => none
        | none => none else none
      | _, _ => none
    | _, _, _ => none
  | .makeInterface t x => match C.τ t, compA x with
    | some i, some y => match i.d with
      | .interface _ => none
      | _ => some (.mki t y)
    | _, _ => none
  | .makeFunc f a b => match compL a.toList, compL b.toList with
    | some a', some b' => some (.mkf f a' b')
    | _, _ => none
  | .makeSlice t l c => match C.τ t, compA l, compA c with
    | some i, some l', some c' => match i.d with
      | .slice e => (C.τ e).map fun ei => .mks e ei.size ei.bytes ei.zero.cells l' c' bx
      | _ => none
    | _, _, _ => none
  | .slice t x lo hi none => match C.τ t, compA x, compM lo, compM hi with
    | some i, some x', some lo', some hi' => match i.d with
      | .string => some (.subs x' lo' hi')
      | .slice e => (C.τ e).map fun ei => .sub ei.size x' lo' hi'
      | _ => none
    | _, _, _, _ => none
  | .fieldAddr t x k => match C.τ t, compA x with
    | some i, some y => match i.d with
      | .struct fs => match fs[k]? with
        | some f => match C.τ f.type with
          | some fi => if fi.size ≠ 0 then some (.fa f.offset y) else none
          | none => none
        | none => none
      | _ => none
    | _, _ => none
  | .field t x k => match C.τ t, compA x with
    | some i, some y => match i.d with
      | .struct fs => match fs[k]? with
        | some f => (C.τ f.type).map fun fi => .fld f.offset (partN fi) y
        | none => none
      | _ => none
    | _, _ => none
  | .indexAddr t x ix => match C.τ t, compA x, compA ix with
    | some i, some x', some k => match i.d with
      | .slice e => (C.τ e).map fun ei => .ia ei.size x' k
      | .array n e => (C.τ e).map fun ei => .iaa n ei.size x' k
      | _ => none
    | _, _, _ => none
  | .index t x ix => match C.τ t, compA x, compA ix with
    | some i, some x', some k => match i.d with
      | .string => some (.ixs x' k)
      | .array n e => (C.τ e).map fun ei => .ixa n ei.size (partN ei) x' k
      | _ => none
    | _, _, _ => none
  | .extract x i => (compA x).map (.ext · i)
  | .typeAssert x _ t ok => match C.τ t, compA x with
    | some i, some y => match i.d with
      | .interface _ => none
      | _ => some (.tas t ok y)
    | _, _ => none
  | .call c => compCall C bx c
  | .makeMap t r => match C.τ t, compM r with
    | some i, some r' => match i.d with
      | .map _ _ => some (.mkm r')
      | _ => none
    | _, _ => none
  | .lookup t m k ok => match C.τ t, compA m, compA k with
    | some i, some m', some k' => match i.d with
      | .map kt et => match C.τ kt, C.τ et with
        | some ki, some ei => (ckD ki.d).map fun ck => .look ck ei.zero ok m' k'
        | _, _ => none
      | _ => none
    | _, _, _ => none
  | .mapUpdate t m k v => compPut C t m k v
  | .insert t m k v => compPut C t m k v
  | _ => none

section
variable {P : Program} {W0 : World} {C : Ctx} {o : Oper} {a : Act} {E : Env} {U : Nat → Prop} {id : Nat} {h : Hp} {w : World} {ts : List AV} {bx : Bool}

theorem plsOf_run (hτ : Tysok P C.τ) : ∀ {fs : List Field} {pls : List (Nat × Nat)}, plsOf C.τ fs = some pls → (fs.mapM (m := Sem) fun f => do pure (f.offset, ← sizeOf f.type)).run P w = .ok pls w
  | [], pls, h => by cases h; simp
  | f :: r, pls, h => by
    unfold plsOf at h
    split at h
    · rename_i i ps h1 h2
      cases h
      obtain ⟨j, z, hj, hsz, _⟩ := (hτ.ok _ _ h1).info
      have ih := plsOf_run hτ h2
      simp only [List.mapM_cons, Sem.run_bind, sizeOf, typeInfo, run_program, Result.andThen_ok, hj, Sem.run_pure, hsz]
      simp only [sizeOf, typeInfo, run_program, Sem.run_bind, Result.andThen_ok] at ih
      rw [ih]; rfl
    · cases h

theorem eqK_fits (hC : C.Ok P) {t : TypeId} {x y : Operand} {q : EqK} (h : eqK C t x y = some q) : EqFits P C.τ t x y q := by
  unfold eqK at h
  split at h
  · cases h
  · rename_i i hi
    have hti := hC.tys.ok _ _ hi
    have hu := hti.und
    split at h
    · rename_i hd; cases h; rw [hd] at hu; exact hu
    · rename_i e hd; rw [hd] at hu; simp only [Option.map_eq_some_iff] at h; obtain ⟨i2, h2, rfl⟩ := h; obtain ⟨j, z, hj, _⟩ := (hC.tys.ok _ _ h2).info; exact ⟨_, j, hu, hj⟩
    · rename_i e hd; cases h; rw [hd] at hu; exact ⟨_, hu⟩
    · rename_i e hd; cases h; rw [hd] at hu; exact ⟨_, _, hu⟩
    · rename_i e hd; cases h; rw [hd] at hu; exact ⟨_, _, _, hu⟩
    · rename_i e hd; cases h; rw [hd] at hu; exact ⟨⟨_, hu⟩, fun hh => by simpa using hh⟩
    · rename_i fs hd
      split at h
      · rename_i ks hk
        split at h
        · rename_i hh; cases h
          obtain ⟨hE, _⟩ := eqTy_ok hC.tys C.pl (fun t ht => (hC.plain t ht).1) 20 t ks i hk hi hh.1
          exact ⟨i, hti, by rw [hd]; rfl, hh.1, fun E w as bs vs us v u b h1 h2 h3 h4 h5 h6 h7 d hdd => hE E w as bs vs us v u b h1 h2 h3 h4 h5 h6 h7 d (by omega), (hC.plain t hh.2).2⟩
        · cases h
      · cases h
    · rename_i n e hd
      split at h
      · rename_i ks hk
        split at h
        · rename_i hh; cases h
          obtain ⟨hE, _⟩ := eqTy_ok hC.tys C.pl (fun t ht => (hC.plain t ht).1) 20 t ks i hk hi hh.1
          exact ⟨i, hti, by rw [hd]; rfl, hh.1, fun E w as bs vs us v u b h1 h2 h3 h4 h5 h6 h7 d hdd => hE E w as bs vs us v u b h1 h2 h3 h4 h5 h6 h7 d (by omega), (hC.plain t hh.2).2⟩
        · cases h
      · cases h
    · cases h

theorem toList_one {α : Type} {x : α} {xs : Array α} (h : xs.toList = [x]) : xs = #[x] := by cases xs; simp at h; subst h; rfl
theorem toList_two {α : Type} {x y : α} {xs : Array α} (h : xs.toList = [x, y]) : xs = #[x, y] := by cases xs; simp at h; subst h; rfl

theorem compCall_res (hC : C.Ok P) {bx : Bool} {c : Call} {s : SO} (hc : compCall C bx c = some s) (ho : o.op = .call c) (r : Rel W0 E U h w) (hid : ¬ U id) (ht : Reps E ts a.tmps.toList) (hok : s.ok id ts h) : Res P W0 o a E U id w (s.val id ts h) (s.heap id ts h) := by
  unfold compCall at hc
  split at hc
  · rename_i hcal
    split at hc
    · rename_i x t hx ht'
      split at hc
      · rename_i y i hy hi
        have hu := (hC.tys.ok _ _ hi).und
        split at hc
        · rename_i hd; cases hc; rw [hd] at hu; exact lens_res r ht hy ho hcal (toList_one hx) (toList_one ht') hu hok
        · rename_i e hd; cases hc; rw [hd] at hu; exact len_res r ht hy ho hcal (toList_one hx) (toList_one ht') hu hok
        · rename_i e e2 hd; cases hc; rw [hd] at hu; exact mlen_res r ht hy ho hcal (toList_one hx) (toList_one ht') hu hok
        · cases hc
      · cases hc
    · cases hc
  · rename_i hcal
    split at hc
    · rename_i x y t t2 hx ht'
      split at hc
      · rename_i x' y' i i2 hx' hy' hi hi2
        have hu := (hC.tys.ok _ _ hi).und
        have hu2 := (hC.tys.ok _ _ hi2).und
        split at hc
        · cases hc
        · rename_i e d hd hne
          split at hc
          · rename_i ei hei
            split at hc
            · rename_i hz; rw [hd] at hu
              cases bx with
              | true => cases hc; exact grow_res r hid ht hx' hy' ho hcal (toList_two hx) (toList_two ht') hu hu2 (fun k hk => hne k (by rw [hk])) (hC.tys.ok _ _ hei) hz hok
              | false => cases hc; exact app_res r hid ht hx' hy' ho hcal (toList_two hx) (toList_two ht') hu hu2 (fun k hk => hne k (by rw [hk])) (hC.tys.ok _ _ hei) hz hok
            · cases hc
          · cases hc
        · cases hc
      · cases hc
    · cases hc
  · rename_i hcal
    split at hc
    · rename_i x y hx
      split at hc
      · rename_i x' y' hx' hy'; cases hc; exact mx_res r ht hx' hy' ho hcal (toList_two hx) hok
      · cases hc
    · cases hc
  · rename_i hcal
    split at hc
    · rename_i x y hx
      split at hc
      · rename_i x' y' hx' hy'; cases hc; exact mn_res r ht hx' hy' ho hcal (toList_two hx) hok
      · cases hc
    · cases hc
  · rename_i hcal
    split at hc
    · rename_i x hx
      simp only [Option.map_eq_some_iff] at hc
      obtain ⟨y, hy, rfl⟩ := hc
      exact sdata_res r ht hy ho hcal (toList_one hx) hok
    · cases hc
  · rename_i hcal
    split at hc
    · rename_i x y tp tn hx ht'
      split at hc
      · rename_i x' y' i hx' hy' hi
        have hu := (hC.tys.ok _ _ hi).und
        split at hc
        · rename_i e hd
          rw [hd] at hu
          split at hc
          · rename_i ei hei
            split at hc
            · rename_i h1
              cases hc
              obtain ⟨j, z, hj, hsz, _⟩ := (hC.tys.ok _ _ hei).info
              exact ustr_res r ht hx' hy' ho hcal (toList_two hx) (toList_two ht') hu (by simp [Program.cellsOf, hj, hsz, h1]) hok
            · cases hc
          · cases hc
        · cases hc
      · cases hc
    · cases hc
  · rename_i f hcal
    split at hc
    · rename_i hsame
      split at hc
      · rename_i x hx
        simp only [Option.map_eq_some_iff] at hc
        obtain ⟨y, hy, rfl⟩ := hc
        have rx := compA_rep ht hy
        refine .pure r (v := a.eval x) ?_ rx
        unfold execOp; rw [ho]
        have := hC.sames f hsame (a.eval x) w
        simp [resolve, hcal, toList_one hx, Act.eval, Deferred.ofValue, invoke] at this ⊢
        exact this
      · cases hc
    · cases hc
  · cases hc

theorem compPut_res (hC : C.Ok P) {t : TypeId} {m k v : Operand} {s : SO} (hc : compPut C t m k v = some s) (ho : o.op = .mapUpdate t m k v ∨ o.op = .insert t m k v) (r : Rel W0 E U h w) (ht : Reps E ts a.tmps.toList) (hok : s.ok id ts h) : Res P W0 o a E U id w (s.val id ts h) (s.heap id ts h) := by
  unfold compPut at hc
  split at hc
  · rename_i i m' k' v' hi hm hk hv
    have hu := (hC.tys.ok _ _ hi).und
    split at hc
    · rename_i kt et hd
      split at hc
      · rename_i ki hki
        simp only [Option.map_eq_some_iff] at hc
        obtain ⟨ck, hck, rfl⟩ := hc
        rw [hd] at hu
        exact mput_res r ht hm hk hv ho hu (hC.tys.ok _ _ hki).und (ckD_of hck) hok
      · cases hc
    · cases hc
  · cases hc

theorem compO_res (hC : C.Ok P) {s : SO} (hc : compO C bx o = some s) (r : Rel W0 E U h w) (hid : ¬ U id) (ht : Reps E ts a.tmps.toList) (hok : s.ok id ts h) : Res P W0 o a E U id w (s.val id ts h) (s.heap id ts h) := by
  unfold compO at hc
  split at hc
  · rename_i x ho
    simp only [Option.map_eq_some_iff] at hc
    obtain ⟨y, hy, rfl⟩ := hc
    exact mv_res r ht hy (.inl ho)
  · rename_i x ho
    simp only [Option.map_eq_some_iff] at hc
    obtain ⟨y, hy, rfl⟩ := hc
    exact mv_res r ht hy (.inr ho)
  · rename_i c x y ho
    split at hc
    · rename_i c' x' y' h1 h2 h3; cases hc; exact pick_res r ht h1 h2 h3 ho hok
    · cases hc
  · rename_i t ho
    simp only [Option.map_eq_some_iff] at hc
    obtain ⟨i, hi, rfl⟩ := hc
    exact alloc_res r hid ho (hC.tys.ok _ _ hi) hok
  · rename_i t x ho
    simp only [Option.map_eq_some_iff] at hc
    obtain ⟨y, hy, rfl⟩ := hc
    exact box_res r hid ht hy ho hok
  · rename_i t ps ho
    split at hc
    · cases hc
    · rename_i i hi
      split at hc
      · rename_i fs hd
        split at hc
        · rename_i pls hpls
          simp only [Option.map_eq_some_iff] at hc
          obtain ⟨qs, hqs, rfl⟩ := hc
          refine build_res r ht ho (hC.tys.ok _ _ hi) (pls[·]?) (.inl ⟨fs, hd, pls.toArray, ?_, by funext k; simp⟩) hqs hok
          rw [Array.mapM_eq_mapM_toList, Sem.run_map, plsOf_run hC.tys hpls]
          rfl
        · cases hc
      · rename_i n e hd
        split at hc
        · rename_i ei hei
          simp only [Option.map_eq_some_iff] at hc
          obtain ⟨qs, hqs, rfl⟩ := hc
          exact build_res r ht ho (hC.tys.ok _ _ hi) _ (.inr ⟨n, e, hd, ei, hC.tys.ok _ _ hei, rfl⟩) hqs hok
        · cases hc
      · cases hc
  · rename_i t n ps ho
    split at hc
    · cases hc
    · rename_i i hi
      have hu := (hC.tys.ok _ _ hi).und
      split at hc
      · rename_i e hd
        rw [hd] at hu
        split at hc
        · rename_i ei qs hei hqs
          split at hc
          · rename_i he
            obtain ⟨_, rfl, hps⟩ := he
            cases hc
            have hps' : ps = #[] := by simpa using hps
            subst hps'
            exact empt_res r hid ho hu (hC.tys.ok _ _ hei)
          · cases hc
            exact bslice_res r hid ht ho hu (hC.tys.ok _ _ hei) hqs hok
        · cases hc
      · cases hc
  · rename_i t x ho
    split at hc
    · rename_i i y hi hy; cases hc
      exact load_res r ht hy ho (hC.tys.ok _ _ hi) rfl hok
    · cases hc
  · rename_i t p x ho
    split at hc
    · rename_i i p' x' hi hp hx; cases hc
      exact store_res r ht hp hx ho (hC.tys.ok _ _ hi) hok
    · cases hc
  · rename_i x ho
    simp only [Option.map_eq_some_iff] at hc
    obtain ⟨y, hy, rfl⟩ := hc
    exact nilck_res r ht hy ho hok
  · rename_i op t x y t' ho
    split at hc
    · rename_i x' y' hx hy
      split at hc
      · split at hc
        · cases hc
        · rename_i i hi
          split at hc
          · cases hc; exact bin_res r ht hx hy ho hok
          · cases hc; exact bin_res r ht hx hy ho hok
          · simp only [Option.map_eq_some_iff] at hc
            obtain ⟨q, hq, rfl⟩ := hc
            exact eqs_res (.inl ⟨rfl, rfl⟩) r ht hx hy ho (eqK_fits hC hq) hok
      · split at hc
        · cases hc
        · rename_i i hi
          split at hc
          · cases hc; exact bin_res r ht hx hy ho hok
          · cases hc; exact bin_res r ht hx hy ho hok
          · simp only [Option.map_eq_some_iff] at hc
            obtain ⟨q, hq, rfl⟩ := hc
            exact eqs_res (.inr ⟨rfl, rfl⟩) r ht hx hy ho (eqK_fits hC hq) hok
      · cases hc; exact bin_res r ht hx hy ho hok
    · cases hc
  · rename_i op t x ho
    simp only [Option.map_eq_some_iff] at hc
    obtain ⟨y, hy, rfl⟩ := hc
    exact un_res r ht hy ho hok
  · rename_i s d x ho
    split at hc
    · rename_i i j y hi hj hy
      have hs := (hC.tys.ok _ _ hi).und
      have hd := (hC.tys.ok _ _ hj).und
      split at hc
      · rename_i k1 k2 h1 h2; cases hc; rw [h1] at hs; rw [h2] at hd; exact cvi_res r ht hy ho hs hd hok
      · rename_i e h1 h2
        split at hc
        · rename_i ei hei
          have he := (hC.tys.ok _ _ hei).und
          split at hc
          · rename_i h3; cases hc; rw [h1] at hs; rw [h2] at hd; rw [h3] at he; exact b2s_res r ht hy ho hs he hd hok
          · cases hc
        · cases hc
      · rename_i e h1 h2
        split at hc
        · rename_i ei hei
          have he := (hC.tys.ok _ _ hei).und
          split at hc
          · rename_i h3; cases hc; rw [h1] at hs; rw [h2] at hd; rw [h3] at he; exact s2b_res r hid ht hy ho hs hd he hok
          · cases hc
        · cases hc
      · rename_i u h1 h2
        rw [h1] at hs; rw [h2] at hd
        split at hc
        · rename_i ui hui
          split at hc
          · rename_i hz
            cases hc
            obtain ⟨j, z, hj, hsz, _⟩ := (hC.tys.ok _ _ hui).info
            exact cvpu_res r ht hy ho hs hd hj (by rw [hsz]; exact hz) hok
          · cases hc
        · cases hc
      · rename_i u h1 h2
        rw [h1] at hs; rw [h2] at hd
        split at hc
        · rename_i ui hui
          cases hc
          obtain ⟨j, z, hj, hsz, _⟩ := (hC.tys.ok _ _ hui).info
          exact cvup_res r ht hy ho hs hd hj (fun t n hm => hC.lie u t n hm) hok
        · cases hc
      · rename_i h1 h2
        cases hc
        rw [h1] at hs; rw [h2] at hd
        exact same_res r ht hy ho hs hd hok
      · rename_i e e2 h1 h2
        split at hc
        · rename_i hsd
          split at hc
          · rename_i ei hei
            have he := (hC.tys.ok _ _ hei).und
            split at hc
            · rename_i h3; cases hc; rw [h1] at hs; rw [h3] at he; subst hsd; exact marks_res r ht hy ho hs he hok
            · cases hc
          · cases hc
        · cases hc
      · cases hc
    · cases hc
  · rename_i t x ho
    split at hc
    · rename_i i y hi hy
      split at hc
      · cases hc
      · rename_i hne; cases hc
        exact mki_res r ht hy ho (hC.tys.ok _ _ hi).und (fun ms hm => hne ms hm)
    · cases hc
  · rename_i f x y ho
    split at hc
    · rename_i x' y' hx hy; cases hc; exact mkf_res r ht hx hy ho
    · cases hc
  · rename_i t l c ho
    split at hc
    · rename_i i l' c' hi hl hcc
      have hu := (hC.tys.ok _ _ hi).und
      split at hc
      · rename_i e hd
        rw [hd] at hu
        simp only [Option.map_eq_some_iff] at hc
        obtain ⟨ei, hei, rfl⟩ := hc
        exact mks_res r hid ht hl hcc ho hu (hC.tys.ok _ _ hei) hok
      · cases hc
    · cases hc
  · rename_i t x lo hi' ho
    split at hc
    · rename_i i x' lo' hi'' hi hx hlo hhi
      have hu := (hC.tys.ok _ _ hi).und
      split at hc
      · rename_i hd; cases hc; rw [hd] at hu; exact subs_res r ht hx hlo hhi ho hu hok
      · rename_i e hd
        rw [hd] at hu
        simp only [Option.map_eq_some_iff] at hc
        obtain ⟨ei, hei, rfl⟩ := hc
        exact sub_res r ht hx hlo hhi ho hu (hC.tys.ok _ _ hei) hok
      · cases hc
    · cases hc
  · rename_i t x k ho
    split at hc
    · rename_i i y hi hy
      have hu := (hC.tys.ok _ _ hi).und
      split at hc
      · rename_i fs hd
        rw [hd] at hu
        split at hc
        · rename_i f hf
          split at hc
          · rename_i fi hfi
            split at hc
            · rename_i hz; cases hc; exact fa_res r ht hy ho hu hf (hC.tys.ok _ _ hfi) hz hok
            · cases hc
          · cases hc
        · cases hc
      · cases hc
    · cases hc
  · rename_i t x k ho
    split at hc
    · rename_i i y hi hy
      have hu := (hC.tys.ok _ _ hi).und
      split at hc
      · rename_i fs hd
        rw [hd] at hu
        split at hc
        · rename_i f hf
          simp only [Option.map_eq_some_iff] at hc
          obtain ⟨fi, hfi, rfl⟩ := hc
          exact fld_res r ht hy ho hu hf (hC.tys.ok _ _ hfi) rfl hok
        · cases hc
      · cases hc
    · cases hc
  · rename_i t x ix ho
    split at hc
    · rename_i i x' k hi hx hk
      have hu := (hC.tys.ok _ _ hi).und
      split at hc
      · rename_i e hd
        rw [hd] at hu
        simp only [Option.map_eq_some_iff] at hc
        obtain ⟨ei, hei, rfl⟩ := hc
        exact ia_res r ht hx hk ho hu (hC.tys.ok _ _ hei) hok
      · rename_i n e hd
        rw [hd] at hu
        simp only [Option.map_eq_some_iff] at hc
        obtain ⟨ei, hei, rfl⟩ := hc
        exact iaa_res r ht hx hk ho hu (hC.tys.ok _ _ hei) hok
      · cases hc
    · cases hc
  · rename_i t x ix ho
    split at hc
    · rename_i i x' k hi hx hk
      have hu := (hC.tys.ok _ _ hi).und
      split at hc
      · rename_i hd; cases hc; rw [hd] at hu; exact ixs_res r ht hx hk ho hu hok
      · rename_i n e hd
        rw [hd] at hu
        simp only [Option.map_eq_some_iff] at hc
        obtain ⟨ei, hei, rfl⟩ := hc
        exact ixa_res r ht hx hk ho hu (hC.tys.ok _ _ hei) rfl hok
      · cases hc
    · cases hc
  · rename_i x i ho
    simp only [Option.map_eq_some_iff] at hc
    obtain ⟨y, hy, rfl⟩ := hc
    exact ext_res r ht hy ho hok
  · rename_i x t0 t ok ho
    split at hc
    · rename_i i y hi hy
      split at hc
      · cases hc
      · rename_i hne; cases hc
        exact tas_res r ht hy ho (hC.tys.ok _ _ hi).und (fun ms hm => hne ms hm) hok
    · cases hc
  · rename_i c ho; exact compCall_res hC hc ho r hid ht hok
  · rename_i t r0 ho
    split at hc
    · rename_i i r' hi hr
      split at hc
      · rename_i kt et hd; cases hc
        have hu := (hC.tys.ok _ _ hi).und
        rw [hd] at hu
        exact mkm_res r hid ht hr ho hu hok
      · cases hc
    · cases hc
  · rename_i t m k ok ho
    split at hc
    · rename_i i m' k' hi hm hk
      have hu := (hC.tys.ok _ _ hi).und
      split at hc
      · rename_i kt et hd
        rw [hd] at hu
        split at hc
        · rename_i ki ei hki hei
          simp only [Option.map_eq_some_iff] at hc
          obtain ⟨ck, hck, rfl⟩ := hc
          exact look_res r ht hm hk ho hu (hC.tys.ok _ _ hki).und (ckD_of hck) (hC.tys.ok _ _ hei) hok
        · cases hc
      · cases hc
    · cases hc
  · rename_i t m k v ho; exact compPut_res hC hc (.inl ho) r ht hok
  · rename_i t m k v ho; exact compPut_res hC hc (.inr ho) r ht hok
  · cases hc
end
end Go.Proofs.YtgahmpfpnclefaaW.Abs
