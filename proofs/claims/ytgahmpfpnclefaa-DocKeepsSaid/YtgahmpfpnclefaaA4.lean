/- Light operations: what they ask, what they yield, what they do to the heap. -/
import Derived.Test.YtgahmpfpnclefaaA3
namespace Go.Proofs.YtgahmpfpnclefaaW.Abs
open Go.RowKit
set_option linter.unusedVariables false
set_option linter.unusedSimpArgs false

inductive Arg where
  | t (n : Nat)
  | k (v : AV)

def Arg.ev (ts : List AV) : Arg → AV
  | .t n => ts.getD n .undef
  | .k v => v

abbrev Hp := Nat → Option AObj

/-- what a comparison by == is about -/
inductive CK where | int | bool | str
inductive EqK where
  | bool | ptr | slice | map | func
  | iface (c : Bool)
  | agg (ks : List CK)

/-- a light operation without a call -/
inductive SO where
  | mv (x : Arg)
  | pick (c a b : Arg)
  | alloc (ty : TypeId) (z : List AV)
  | box (ty : TypeId) (x : Arg)
  | build (z : List AV) (ps : List (Nat × Nat × Arg))
  | bslice (ty : TypeId) (s n : Nat) (z : List AV) (ps : List (Nat × Arg)) (bx : Bool)
  | empt
  | load (n : Option Nat) (x : Arg)
  | store (n : Nat) (a x : Arg)
  | nilck (x : Arg)
  | bin (op : BinOp) (x y : Arg)
  | eqs (q : EqK) (neg : Bool) (x y : Arg)
  | un (op : UnOp) (x : Arg)
  | cvi (k : IntKind) (x : Arg)
  | same (x : Arg)
  | b2s (x : Arg)
  | s2b (x : Arg)
  | marks (x : Arg)
  | fa (off : Nat) (x : Arg)
  | fld (off : Nat) (n : Option Nat) (x : Arg)
  | ia (s : Nat) (x i : Arg)
  | iaa (len s : Nat) (x i : Arg)
  | ixs (x i : Arg)
  | ixa (len s : Nat) (n : Option Nat) (x i : Arg)
  | ext (x : Arg) (i : Nat)
  | mkf (f : Fn) (first caps : List Arg)
  | subs (x : Arg) (lo hi : Option Arg)
  | sub (s : Nat) (x : Arg) (lo hi : Option Arg)
  | mki (t : TypeId) (x : Arg)
  | tas (t : TypeId) (ok : Bool) (x : Arg)
  | mks (ty : TypeId) (s bytes : Nat) (z : List AV) (len cap : Arg) (bx : Bool)
  | lens (x : Arg)
  | len (x : Arg)
  | app (ty : TypeId) (s bytes : Nat) (x y : Arg)
  | grow (ty : TypeId) (s bytes : Nat) (x y : Arg)
  | mx (x y : Arg)
  | mn (x y : Arg)
  | copy (s : Nat) (x y : Arg)
  | mkm (r : Option Arg)
  | look (ck : CK) (z : AV) (ok : Bool) (m k : Arg)
  | mput (ck : CK) (m k v : Arg)
  | mlen (x : Arg)
  | sdata (x : Arg)
  | ustr (e : TypeId) (x n : Arg)
  | cvpu (x : Arg)
  | cvup (tys : List (TypeId × Nat)) (x : Arg)
  | idn (x : Arg)

/-- the comparisons and arithmetic of two integers -/
def intBin (op : BinOp) (k : IntKind) (x y : Int) : AV :=
  match op with
  | .add => .int k (k.wrap (x + y))
  | .sub => .int k (k.wrap (x - y))
  | .mul => .int k (k.wrap (x * y))
  | .quo => .int k (k.wrap (x.tdiv y))
  | .rem => .int k (x.tmod y)
  | .and => .int k (k.wrap ((BitVec.ofInt k.bits x &&& BitVec.ofInt k.bits y).toNat : Int))
  | .or => .int k (k.wrap ((BitVec.ofInt k.bits x ||| BitVec.ofInt k.bits y).toNat : Int))
  | .xor => .int k (k.wrap ((BitVec.ofInt k.bits x ^^^ BitVec.ofInt k.bits y).toNat : Int))
  | .andNot => .int k (k.wrap ((BitVec.ofInt k.bits x &&& ~~~(BitVec.ofInt k.bits y)).toNat : Int))
  | .eql => .bool (x == y)
  | .neq => .bool (x != y)
  | .lss => .bool (decide (x < y))
  | .leq => .bool (decide (x ≤ y))
  | .gtr => .bool (decide (x > y))
  | .geq => .bool (decide (x ≥ y))
  | .shl | .shr => .undef

def strLess : List UInt8 → List UInt8 → Bool
  | _, [] => false
  | [], _ :: _ => true
  | a :: x, b :: y => a < b || (a == b && strLess x y)

def strBin (op : BinOp) (x y : List UInt8) : AV :=
  match op with
  | .add => .str (x ++ y)
  | .eql => .bool (x == y)
  | .neq => .bool (x != y)
  | .lss => .bool (strLess x y)
  | .leq => .bool (strLess x y || x == y)
  | .gtr => .bool (!(strLess x y || x == y))
  | .geq => .bool (!(strLess x y))
  | _ => .undef

def binVal (op : BinOp) : AV → AV → AV
  | .int k x, .int k' y =>
    match op with
    | .shl => .int k (k.wrap (x * 2 ^ (min y.toNat k.bits)))
    | .shr => .int k (x.fdiv (2 ^ (min y.toNat k.bits)))
    | _ => intBin op k x y
  | .str x, .str y => strBin op x y
  | _, _ => .undef

def binOk (op : BinOp) : AV → AV → Prop
  | .int k x, .int k' y =>
    match op with
    | .shl | .shr => 0 ≤ y
    | .quo | .rem => k = k' ∧ y ≠ 0
    | _ => k = k'
  | .str x, .str y =>
    match op with
    | .add => x.length + y.length ≤ 9223372036854775807
    | .eql | .neq | .lss | .leq | .gtr | .geq => True
    | _ => False
  | _, _ => False

/-- equality of two values of one type, where it is told by the values alone -/
def eqCell : CK → AV → AV → Option Bool
  | .int, .int k x, .int k' y => if k = k' then some (x == y) else none
  | .bool, .bool x, .bool y => some (x == y)
  | .str, .str x, .str y => some (x == y)
  | _, _, _ => none
def eqCells : List CK → List AV → List AV → Option Bool
  | [], [], [] => some true
  | k :: ks, a :: as, b :: bs => match eqCell k a b with
    | some true => eqCells ks as bs
    | some false => some false
    | none => none
  | _, _, _ => none
def eqVal : EqK → AV → AV → Option Bool
  | .bool, .bool x, .bool y => some (x == y)
  | .agg ks, .agg as, .agg bs => if as.length = ks.length ∧ bs.length = ks.length then eqCells ks as bs else none
  | .ptr, .nilp, .nilp => some true
  | .ptr, .nilp, .bp _ _ _ | .ptr, .bp _ _ _, .nilp | .ptr, .nilp, .ep _ _ | .ptr, .ep _ _, .nilp => some false
  | .ptr, .bp a i o, .bp a' i' o' => if a = a' ∧ i = i' ∧ o = o' then some true else none
  | .slice, .nils, .nils => some true
  | .slice, .nils, .row _ _ | .slice, .row _ _, .nils | .slice, .nils, .sl _ _ _ | .slice, .sl _ _ _, .nils => some false
  | .map, .nilm, .nilm => some true
  | .map, .nilm, .mp _ | .map, .mp _, .nilm => some false
  | .func, .nilf, .nilf => some true
  | .func, .nilf, .fn _ _ _ | .func, .fn _ _ _, .nilf => some false
  | .iface true, .nili, .nili => some true
  | .iface _, .nili, .ifc _ _ | .iface _, .ifc _ _, .nili => some false
  | _, _, _ => none

def unVal (op : UnOp) : AV → AV
  | .int k x => match op with
    | .neg => .int k (k.wrap (0 - x))
    | .xor => .int k (k.wrap ((BitVec.ofInt k.bits (if k.signed then -1 else k.max) ^^^ BitVec.ofInt k.bits x).toNat : Int))
    | _ => .undef
  | .bool b => match op with
    | .not => .bool (!b)
    | _ => .undef
  | _ => .undef

def AV.toInt : AV → Int
  | .int _ n => n
  | _ => 0
def AV.isInt : AV → Prop
  | .int _ _ => True
  | _ => False

/-- the parts of a struct laid into its cells -/
def fillA (ts : List AV) : List AV → List (Nat × Nat × Arg) → List AV
  | z, [] => z
  | z, (off, n, x) :: r => fillA ts (z.take off ++ (x.ev ts).cells ++ z.drop (off + (x.ev ts).cells.length)) r
def fillOk (ts : List AV) (len : Nat) : List (Nat × Nat × Arg) → Prop
  | [] => True
  | (off, n, x) :: r => ((x.ev ts).cells.length = n ∧ off + n ≤ len) ∧ fillOk ts len r
/-- the elements of a slice literal -/
def fillS (ts : List AV) : List (List AV) → List (Nat × Arg) → List (List AV)
  | es, [] => es
  | es, (i, x) :: r => fillS ts (es.set i (x.ev ts).cells) r
def fillSOk (ts : List AV) (s n : Nat) : List (Nat × Arg) → Prop
  | [] => True
  | (i, x) :: r => ((x.ev ts).cells.length = s ∧ i < n ∧ (x.ev ts).cells.all AV.one = true) ∧ fillSOk ts s n r

def partOf (cs : List AV) (off : Nat) : Option Nat → AV
  | none => cs.getD off .undef
  | some n => .agg ((cs.drop off).take n)
def partOk (cs : List AV) (off : Nat) : Option Nat → Prop
  | none => off < cs.length
  | some n => off + n ≤ cs.length

/-- what lies where a pointer points: the cells of the element, and the place -/
def target (h : Hp) : AV → Option (List AV × Nat)
  | .bp id i off => match h id with
    | some (.box _ es) => (es[i]?).map (·, off)
    | some (.froz es) => (es[i]?).map (·, off)
    | _ => none
  | .ep cells off => some (cells, off)
  | _ => none

/-- the elements that a slice reads -/
def elems (h : Hp) : AV → Option (List (List AV))
  | .nils => some []
  | .row es _ => some es
  | .sl id st n => match h id with
    | some (.box _ es) => if st + n ≤ es.length then some ((es.drop st).take n) else none
    | some (.froz es) => if st + n ≤ es.length then some ((es.drop st).take n) else none
    | _ => none
  | _ => none

def lenOf : AV → Option Nat
  | .row es _ => some es.length
  | .nils => some 0
  | .sl _ _ n => some n
  | _ => none

def bound (ts : List AV) (d : Int) : Option Arg → Int
  | none => d
  | some a => (a.ev ts).toInt
def boundOk (ts : List AV) : Option Arg → Prop
  | none => True
  | some a => (a.ev ts).isInt

def ind (l : List UInt8) : List (List AV) := l.map fun b => [.int .u8 b.toNat]
/-- the bytes that cells hold -/
def bytesOf : List (List AV) → Option (List UInt8)
  | [] => some []
  | [.int .u8 n] :: r => if 0 ≤ n ∧ n < 256 then (bytesOf r).map (UInt8.ofNat n.toNat :: ·) else none
  | _ => none
def srcElems (h : Hp) : AV → Option (List (List AV))
  | .str l => some (ind l)
  | x => elems h x

/-- a row that grows: what is known of its block; a new block is of the type, and clean -/
def tailTy (ty : TypeId) : Option AObj → Option TypeId
  | some (.tail (some ty') _) => if ty' = ty then some ty else none
  | _ => none

def appVal (id : Nat) (es ns : List (List AV)) : AV := .row (es ++ ns) (some id)

/-- a map's entry, by its key -/
def mfind (ck : CK) (k : AV) : List (AV × AV) → Option (Option (Nat × AV))
  | [] => some none
  | (a, v) :: r => match eqCell ck k a with
    | some true => some (some (0, v))
    | some false => (mfind ck k r).map (·.map fun (j, u) => (j + 1, u))
    | none => none
def mset (ck : CK) (k v : AV) (kvs : List (AV × AV)) : List (AV × AV) := match mfind ck k kvs with
  | some (some (j, _)) => kvs.set j (k, v)
  | _ => kvs ++ [(k, v)]
def lookVal (z : AV) (ok : Bool) (r : Option (Nat × AV)) : AV := match r with
  | some (_, v) => if ok then .tup [v, .bool true] else v
  | none => if ok then .tup [z, .bool false] else z
def ckOf : CK → AV → Prop
  | .int, .int _ _ => True
  | .bool, .bool _ => True
  | .str, .str _ => True
  | _, _ => False
/-- what a map value holds -/
def mapAt (h : Hp) : AV → Option (List (AV × AV))
  | .nilm => some []
  | .mp id => match h id with
    | some (.map kvs) => some kvs
    | _ => none
  | _ => none

def SO.ok (id : Nat) (ts : List AV) (h : Hp) : SO → Prop
  | .mv _ => True
  | .pick c _ _ => ∃ b, c.ev ts = .bool b
  | .alloc _ z => z.all AV.one = true
  | .box _ x => (x.ev ts).cells.all AV.one = true
  | .build z ps => fillOk ts z.length ps
  | .bslice _ s n z ps _ => fillSOk ts s n ps ∧ z.length = s ∧ z.all AV.one = true ∧ n * s ≤ 16777216
  | .empt => True
  | .load n x => ∃ cs off, target h (x.ev ts) = some (cs, off) ∧ partOk cs off n
  | .store n a x => ∃ id' i off ty es e, a.ev ts = .bp id' i off ∧ h id' = some (.box ty es) ∧ es[i]? = some e ∧ (x.ev ts).cells.length = n ∧ off + n ≤ e.length ∧ (x.ev ts).cells.all AV.one = true
  | .nilck x => match x.ev ts with | .bp _ _ _ | .ep _ _ => True | .fn (.func _) _ _ => True | _ => False
  | .bin op x y => binOk op (x.ev ts) (y.ev ts)
  | .eqs q _ x y => ∃ b, eqVal q (x.ev ts) (y.ev ts) = some b
  | .un op x => unVal op (x.ev ts) ≠ .undef
  | .cvi _ x => (x.ev ts).isInt
  | .same x => ∃ l, x.ev ts = .str l
  | .b2s x => ∃ es l, elems h (x.ev ts) = some es ∧ bytesOf es = some l
  | .s2b x => ∃ l, x.ev ts = .str l
  | .marks x => ∃ es t ty s, x.ev ts = .row es (some t) ∧ es ≠ [] ∧ h t = some (.tail (some ty) s)
  | .fa _ x => match x.ev ts with | .bp _ _ _ | .ep _ _ => True | _ => False
  | .fld off n x => ∃ cs, x.ev ts = .agg cs ∧ partOk cs off n
  | .ia s x i => (i.ev ts).isInt ∧ 0 ≤ (i.ev ts).toInt ∧ ∃ es e, elems h (x.ev ts) = some es ∧ es[(i.ev ts).toInt.toNat]? = some e ∧ e.length = s
  | .iaa ln s x i => (i.ev ts).isInt ∧ 0 ≤ (i.ev ts).toInt ∧ (i.ev ts).toInt < ln ∧ match x.ev ts with | .bp _ _ _ | .ep _ _ => True | _ => False
  | .ixs x i => (i.ev ts).isInt ∧ 0 ≤ (i.ev ts).toInt ∧ ∃ l, x.ev ts = .str l ∧ (i.ev ts).toInt < l.length
  | .ixa ln s n x i => (i.ev ts).isInt ∧ 0 ≤ (i.ev ts).toInt ∧ (i.ev ts).toInt < ln ∧ ∃ cs, x.ev ts = .agg cs ∧ partOk cs ((i.ev ts).toInt.toNat * s) n
  | .ext x i => ∃ vs, x.ev ts = .tup vs ∧ i < vs.length
  | .mkf _ _ _ => True
  | .subs x lo hi => boundOk ts lo ∧ boundOk ts hi ∧ ∃ l, x.ev ts = .str l ∧ 0 ≤ bound ts 0 lo ∧ bound ts 0 lo ≤ bound ts l.length hi ∧ bound ts l.length hi ≤ l.length
  | .sub s x lo hi => boundOk ts lo ∧ boundOk ts hi ∧ ∃ n es, lenOf (x.ev ts) = some n ∧ elems h (x.ev ts) = some es ∧ 0 ≤ bound ts 0 lo ∧ bound ts 0 lo ≤ bound ts n hi ∧ bound ts n hi ≤ n ∧ (∀ e, e ∈ es → e.length = s)
  | .mki _ _ => True
  | .tas t ok x => ∃ v, x.ev ts = .ifc t v
  | .mks _ s bytes z ln cap _ => z.length = s ∧ z.all AV.one = true ∧ (ln.ev ts).isInt ∧ (cap.ev ts).isInt ∧ 0 ≤ (ln.ev ts).toInt ∧ (ln.ev ts).toInt ≤ (cap.ev ts).toInt ∧ (cap.ev ts).toInt * bytes ≤ 140737488355328 ∧ (cap.ev ts).toInt ≤ 9223372036854775807
  | .lens x => ∃ l, x.ev ts = .str l
  | .len x => ∃ n, lenOf (x.ev ts) = some n
  | .app ty s bytes x y => ∃ es ns, (x.ev ts = .nils ∧ es = [] ∨ ∃ t ty', x.ev ts = .row es (some t) ∧ h t = some (.tail ty' s)) ∧ srcElems h (y.ev ts) = some ns ∧ (∀ e, e ∈ ns → e.length = s) ∧
      (es.length + ns.length) * bytes ≤ 140737488355328 ∧ es.length + ns.length ≤ 4611686018427387904
  | .grow ty s bytes x y => ∃ es ns, (x.ev ts = .nils ∧ es = [] ∨ (∃ t n ty' es0, x.ev ts = .sl t 0 n ∧ h t = some (.box ty' es0) ∧ n ≤ es0.length ∧ es = es0.take n ∧ (∀ e, e ∈ es0 → e.length = s) ∧ es0 ≠ [] ∧ ty' = ty) ∨ ∃ t, x.ev ts = .sl t 0 0 ∧ h t = some .nocap ∧ es = [] ∧ srcElems h (y.ev ts) ≠ some []) ∧ srcElems h (y.ev ts) = some ns ∧ (∀ e, e ∈ ns → e.length = s) ∧
      (es.length + ns.length) * bytes ≤ 140737488355328 ∧ es.length + ns.length ≤ 4611686018427387904
  | .mx x y | .mn x y => (x.ev ts).isInt ∧ (y.ev ts).isInt
  | .mkm r => boundOk ts r
  | .look ck _ _ m k => ckOf ck (k.ev ts) ∧ ∃ kvs r, mapAt h (m.ev ts) = some kvs ∧ mfind ck (k.ev ts) kvs = some r
  | .mput ck m k _ => ckOf ck (k.ev ts) ∧ ∃ id' kvs r, m.ev ts = .mp id' ∧ h id' = some (.map kvs) ∧ mfind ck (k.ev ts) kvs = some r
  | .mlen x => ∃ kvs, mapAt h (x.ev ts) = some kvs
  | .sdata x => x.ev ts = .nils ∨ ∃ es tok, x.ev ts = .row es tok ∧ es ≠ []
  | .ustr e x n => (x.ev ts = .nilp ∧ n.ev ts = .int .i64 0) ∨ ∃ es t l, x.ev ts = .dp es (some t) ∧ h t = some (.tail (some e) 1) ∧ n.ev ts = .int .i64 es.length ∧ bytesOf es = some l ∧ es.length ≤ 9223372036854775807
  | .cvpu x => x.ev ts = .nilp ∨ ∃ id' ty es e, x.ev ts = .bp id' 0 0 ∧ h id' = some (.box ty es) ∧ es[0]? = some e ∧ e ≠ []
  | .cvup tys x => x.ev ts = .nilp ∨ ∃ id' ty es e, x.ev ts = .bp id' 0 0 ∧ h id' = some (.box ty es) ∧ es[0]? = some e ∧ e ≠ [] ∧ (ty, e.length) ∈ tys
  | .idn _ => True
  | _ => False

def SO.val (id : Nat) (ts : List AV) (h : Hp) : SO → AV
  | .mv x => x.ev ts
  | .pick c a b => match c.ev ts with | .bool true => a.ev ts | _ => b.ev ts
  | .alloc _ _ => .bp id 0 0
  | .box _ _ => .bp id 0 0
  | .build z ps => .agg (fillA ts z ps)
  | .bslice _ s n z ps bx => if bx then .sl id 0 n else .row (fillS ts (List.replicate n z) ps) (some id)
  | .empt => .sl id 0 0
  | .load n x => match target h (x.ev ts) with | some (cs, off) => partOf cs off n | none => .undef
  | .store _ _ _ => .undef
  | .nilck x => x.ev ts
  | .bin op x y => binVal op (x.ev ts) (y.ev ts)
  | .eqs q neg x y => .bool ((eqVal q (x.ev ts) (y.ev ts)).getD false != neg)
  | .un op x => unVal op (x.ev ts)
  | .cvi k x => .int k (k.wrap (x.ev ts).toInt)
  | .same x => x.ev ts
  | .b2s x => .str ((bytesOf ((elems h (x.ev ts)).getD [])).getD [])
  | .s2b x => match x.ev ts with | .str l => .row (ind l) (some id) | _ => .undef
  | .marks x => match x.ev ts with | .row es _ => .row es none | _ => .undef
  | .fa off x => match x.ev ts with | .bp i j o => .bp i j (o + off) | .ep c o => .ep c (o + off) | _ => .undef
  | .fld off n x => match x.ev ts with | .agg cs => partOf cs off n | _ => .undef
  | .ia s x i => match x.ev ts with
    | .sl id' st _ => .bp id' (st + (i.ev ts).toInt.toNat) 0
    | .row es _ => .ep (es.getD (i.ev ts).toInt.toNat []) 0
    | _ => .undef
  | .iaa _ s x i => match x.ev ts with | .bp a j o => .bp a j (o + (i.ev ts).toInt.toNat * s) | .ep c o => .ep c (o + (i.ev ts).toInt.toNat * s) | _ => .undef
  | .ixs x i => match x.ev ts with | .str l => .int .u8 (l.getD (i.ev ts).toInt.toNat 0).toNat | _ => .undef
  | .ixa _ s n x i => match x.ev ts with | .agg cs => partOf cs ((i.ev ts).toInt.toNat * s) n | _ => .undef
  | .ext x i => match x.ev ts with | .tup vs => vs.getD i .undef | _ => .undef
  | .mkf f a c => .fn f (a.map (·.ev ts)) (c.map (·.ev ts))
  | .subs x lo hi => match x.ev ts with | .str l => .str ((l.take (bound ts l.length hi).toNat).drop (bound ts 0 lo).toNat) | _ => .undef
  | .sub _ x lo hi => match x.ev ts with
    | .row es tok => .row ((es.take (bound ts es.length hi).toNat).drop (bound ts 0 lo).toNat) (if (bound ts es.length hi).toNat = es.length then tok else none)
    | .sl i st n => .sl i (st + (bound ts 0 lo).toNat) ((bound ts n hi).toNat - (bound ts 0 lo).toNat)
    | x => x
  | .mki t x => .ifc t (x.ev ts)
  | .tas _ ok x => match x.ev ts with | .ifc _ v => if ok then .tup [v, .bool true] else v | _ => .undef
  | .mks _ s _ z ln _ bx => if bx then .sl id 0 (ln.ev ts).toInt.toNat else .row (List.replicate (ln.ev ts).toInt.toNat z) (some id)
  | .lens x => match x.ev ts with | .str l => .int .i64 (l.length : Nat) | _ => .undef
  | .len x => .int .i64 ((lenOf (x.ev ts)).getD 0 : Nat)
  | .app _ s _ x y => match x.ev ts, (srcElems h (y.ev ts)).getD [] with
    | .row es _, ns => .row (es ++ ns) (some id)
    | _, [] => .nils
    | _, ns => .row ns (some id)
  | .grow _ _ _ x y => match x.ev ts, (srcElems h (y.ev ts)).getD [] with
    | .sl _ _ n, ns => .sl id 0 (n + ns.length)
    | _, [] => .nils
    | _, ns => .sl id 0 ns.length
  | .mx x y => match x.ev ts, y.ev ts with | .int k a, .int _ b => .int k (if b > a then b else a) | _, _ => .undef
  | .mn x y => match x.ev ts, y.ev ts with | .int k a, .int _ b => .int k (if b < a then b else a) | _, _ => .undef
  | .mkm _ => .mp id
  | .look ck z ok m k => lookVal z ok ((mfind ck (k.ev ts) ((mapAt h (m.ev ts)).getD [])).getD none)
  | .mlen x => .int .i64 (((mapAt h (x.ev ts)).getD []).length : Nat)
  | .sdata x => match x.ev ts with | .nils => .nilp | .row es tok => .dp es tok | _ => .undef
  | .ustr _ x _ => match x.ev ts with | .dp es _ => .str ((bytesOf es).getD []) | _ => .str []
  | .cvpu x | .cvup _ x | .idn x => x.ev ts
  | _ => .undef

def SO.heap (id : Nat) (ts : List AV) (h : Hp) : SO → Hp
  | .alloc ty z => upd h id (some (.box ty [z]))
  | .box ty x => upd h id (some (.box ty [(x.ev ts).cells]))
  | .bslice ty s n z ps bx => upd h id (some (if bx then .box ty (fillS ts (List.replicate n z) ps) else .tail (some ty) s))
  | .empt => upd h id (some .nocap)
  | .store n a x => match a.ev ts with
    | .bp id' i off => match h id' with
      | some (.box ty es) => upd h id' (some (.box ty (setAt es i off (x.ev ts).cells)))
      | _ => h
    | _ => h
  | .s2b x => upd h id (some (.tail none 1))
  | .marks x => match x.ev ts with | .row _ (some t) => upd h t none | _ => h
  | .mks ty s _ z ln _ bx => upd h id (some (if bx then .box ty (List.replicate (ln.ev ts).toInt.toNat z) else .tail (some ty) s))
  | .app ty s _ x y => match x.ev ts, (srcElems h (y.ev ts)).getD [] with
    | .row _ (some t), _ => upd (upd h t none) id (some (.tail (tailTy ty (h t)) s))
    | _, [] => h
    | _, _ => upd h id (some (.tail (some ty) s))
  | .grow ty _ _ x y => match x.ev ts, (srcElems h (y.ev ts)).getD [] with
    | .sl t _ n, ns => match h t with
      | some (.box _ es) => upd (upd h t none) id (some (.box ty (es.take n ++ ns)))
      | some .nocap => upd (upd h t none) id (some (.box ty ns))
      | _ => h
    | _, [] => h
    | _, ns => upd h id (some (.box ty ns))
  | .mkm _ => upd h id (some (.map []))
  | .mput ck m k v => match m.ev ts with
    | .mp id' => match h id' with
      | some (.map kvs) => upd h id' (some (.map (mset ck (k.ev ts) (v.ev ts) kvs)))
      | _ => h
    | _ => h
  | _ => h

end Go.Proofs.YtgahmpfpnclefaaW.Abs
