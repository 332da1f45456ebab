/- A comparison by == as a light operation. -/
import Derived.LaidEqlPtr
import Derived.Test.YtgahmpfpnclefaaA11
namespace Go.Proofs.YtgahmpfpnclefaaW.Abs
open Go.RowKit
set_option linter.unusedVariables false
set_option linter.unusedSimpArgs false

section
variable {P : Program} {W0 : World} {o : Oper} {a : Act} {E : Env} {U : Nat → Prop} {id : Nat} {h : Hp} {w : World} {ts : List AV}

def isConstO : Operand → Bool
  | .const _ => true
  | _ => false

/-- the comparison's kind fits the type -/
def EqFits (P : Program) (τ : Tys) (ty : TypeId) (x y : Operand) : EqK → Prop
  | .bool => P.underlying ty = some .bool
  | .ptr => ∃ e j, P.underlying ty = some (.pointer e) ∧ P.info? e = some j
  | .slice => ∃ e, P.underlying ty = some (.slice e)
  | .map => ∃ k e, P.underlying ty = some (.map k e)
  | .func => ∃ p q v, P.underlying ty = some (.func p q v)
  | .iface c => (∃ ms, P.underlying ty = some (.interface ms)) ∧ (c = true → isConstO x = true ∨ isConstO y = true)
  | .agg ks => ∃ i, TIok P ty i ∧ isAggD i.d = true ∧ ks.length = i.size ∧ EqOf P i ty ks 10000 ∧ P.eqGuardType P.depth ty = false

theorem eqs_run {x y : Operand} {op : BinOp} {neg : Bool} (hop : op = .eql ∧ neg = false ∨ op = .neq ∧ neg = true) {ty : TypeId} {u v : Value} {b : Bool} (hg : (eqGuard op ty x y u v).run P w = .ok () w)
    (hb : binOp .eql ty u v = (do pure (.bool (← Op.equal ty u v))) ∧ binOp .neq ty u v = (do pure (.bool (!(← Op.equal ty u v))))) (hr : (Op.equal ty u v).run P w = .ok b w) :
    (do eqGuard op ty x y u v; binOp op ty u v : Sem Value).run P w = .ok (.bool (b != neg)) w := by
  rcases hop with ⟨rfl, rfl⟩ | ⟨rfl, rfl⟩
  · simp [hg, hb.1, hr]
  · simp [hg, hb.2, hr]

theorem eq_ptr {ty e : TypeId} (hu : P.underlying ty = some (.pointer e)) (d : Nat) (p : Option Addr) (A : Addr) : (Op.equalIn (d + 1) ty (.pointer none) (.pointer p)).run P w = .ok p.isNone w ∧ (Op.equalIn (d + 1) ty (.pointer (some A)) (.pointer none)).run P w = .ok false w := by
  constructor <;> simp [Op.equalIn, run_underlying hu]
theorem eq_ptr_same {ty e : TypeId} {j : TypeInfo} (hu : P.underlying ty = some (.pointer e)) (hj : P.info? e = some j) (d : Nat) (A : Addr) : (Op.equalIn (d + 1) ty (.pointer (some A)) (.pointer (some A))).run P w = .ok true w := by
  simp [Op.equalIn, run_underlying hu, sizeOf, typeInfo, hj, run_sameAddr_same]
theorem eq_slice {ty e : TypeId} (hu : P.underlying ty = some (.slice e)) (d : Nat) (p : Option Addr) (A : Addr) (l c l' c' : Nat) : (Op.equalIn (d + 1) ty (.slice none l' c') (.slice p l c)).run P w = .ok p.isNone w ∧ (Op.equalIn (d + 1) ty (.slice (some A) l c) (.slice none l' c')).run P w = .ok false w := by
  constructor <;> simp [Op.equalIn, run_underlying hu]
theorem eq_map {ty k e : TypeId} (hu : P.underlying ty = some (.map k e)) (d : Nat) (p : Option Nat) (A : Nat) : (Op.equalIn (d + 1) ty (.map none) (.map p)).run P w = .ok p.isNone w ∧ (Op.equalIn (d + 1) ty (.map (some A)) (.map none)).run P w = .ok false w := by
  constructor <;> simp [Op.equalIn, run_underlying hu]
theorem eq_func {ty : TypeId} {p q : Array TypeId} {s : Bool} (hu : P.underlying ty = some (.func p q s)) (d : Nat) (f : Fn) (x y : Array Value) : (Op.equalIn (d + 1) ty .nilFunc .nilFunc).run P w = .ok true w ∧ (Op.equalIn (d + 1) ty .nilFunc (.func f x y)).run P w = .ok false w ∧ (Op.equalIn (d + 1) ty (.func f x y) .nilFunc).run P w = .ok false w := by
  refine ⟨?_, ?_, ?_⟩ <;> simp [Op.equalIn, run_underlying hu]
theorem eq_iface {ty : TypeId} {ms : Array (String × TypeId)} (hu : P.underlying ty = some (.interface ms)) (d : Nat) (t : TypeId) (x : Value) : (Op.equalIn (d + 1) ty .nilIface .nilIface).run P w = .ok true w ∧ (Op.equalIn (d + 1) ty .nilIface (.iface t x)).run P w = .ok false w ∧ (Op.equalIn (d + 1) ty (.iface t x) .nilIface).run P w = .ok false w := by
  refine ⟨?_, ?_, ?_⟩ <;> simp [Op.equalIn, run_underlying hu]

theorem eqs_res {op : BinOp} {neg : Bool} (hop : op = .eql ∧ neg = false ∨ op = .neq ∧ neg = true) {τ : Tys} {ty t' : TypeId} {q : EqK} {x y : Operand} {x' y' : Arg} (r : Rel W0 E U h w) (ht : Reps E ts a.tmps.toList) (hx : compA x = some x') (hy : compA y = some y') (ho : o.op = .binOp op ty x y t') (hq : EqFits P τ ty x y q)
    (hok : SO.ok id ts h (.eqs q neg x' y')) : Res P W0 o a E U id w (SO.val id ts h (.eqs q neg x' y')) h := by
  have rx := compA_rep ht hx
  have ry := compA_rep ht hy
  obtain ⟨b, hb⟩ := hok
  simp only [SO.val, hb, Option.getD_some]
  generalize x'.ev ts = X at hb rx
  generalize y'.ev ts = Y at hb ry
  have fin : (do eqGuard op ty x y (a.eval x) (a.eval y); binOp op ty (a.eval x) (a.eval y) : Sem Value).run P w = .ok (.bool (b != neg)) w → Res P W0 o a E U id w (.bool (b != neg)) h := by
    intro hrun
    refine .pure r (v := .bool (b != neg)) ?_ (.bool _)
    unfold execOp; rw [ho]
    simp only [Sem.run_bind] at hrun ⊢
    rw [hrun]; rfl
  refine fin ?_
  generalize a.eval x = u at rx
  generalize a.eval y = v at ry
  have g1 : ∀ {u v : Value}, u ≠ .nilIface → (∀ cs, u ≠ .agg cs) → (eqGuard op ty x y u v).run P w = .ok () w := fun h1 h2 => eqGuard_none h1 h2
  cases q with
  | bool =>
    cases X <;> simp only [eqVal] at hb <;> try (cases hb; done)
    cases Y <;> simp only [eqVal] at hb <;> try (cases hb; done)
    cases hb
    rw [rx.bool_inv, ry.bool_inv]
    refine eqs_run hop (g1 (by simp) (by simp)) ⟨rfl, rfl⟩ ?_
    exact run_equalIn_bool' w 9999 ty _ _ hq
  | ptr =>
    obtain ⟨e, ji, hu, hji⟩ := hq
    cases X <;> simp only [eqVal] at hb <;> try (cases hb; done)
    all_goals (cases Y <;> simp only [eqVal] at hb <;> try (cases hb; done))
    case bp.bp =>
      split at hb
      · rename_i hh
        obtain ⟨rfl, rfl, rfl⟩ := hh
        cases hb
        cases rx with
        | bp h1 => cases ry with
          | bp h2 =>
            rw [h1] at h2; cases h2
            refine eqs_run hop (g1 (by simp) (by simp)) ⟨rfl, rfl⟩ ?_
            exact eq_ptr_same hu hji 9999 _
      · cases hb
    all_goals (cases hb; cases rx; cases ry; refine eqs_run hop (g1 (by simp) (by simp)) ⟨rfl, rfl⟩ ?_; first | exact (eq_ptr hu 9999 _ default).1 | exact (eq_ptr hu 9999 none _).2)
  | slice =>
    obtain ⟨e, hu⟩ := hq
    cases X <;> simp only [eqVal] at hb <;> try (cases hb; done)
    all_goals (cases Y <;> simp only [eqVal] at hb <;> try (cases hb; done))
    all_goals (cases hb; cases rx; cases ry; refine eqs_run hop (g1 (by simp) (by simp)) ⟨rfl, rfl⟩ ?_; first | exact (eq_slice hu 9999 _ default _ _ _ _).1 | exact (eq_slice hu 9999 none _ _ _ _ _).2)
  | map =>
    obtain ⟨k, e, hu⟩ := hq
    cases X <;> simp only [eqVal] at hb <;> try (cases hb; done)
    all_goals (cases Y <;> simp only [eqVal] at hb <;> try (cases hb; done))
    all_goals (cases hb; cases rx; cases ry; refine eqs_run hop (g1 (by simp) (by simp)) ⟨rfl, rfl⟩ ?_; first | exact (eq_map hu 9999 _ 0).1 | exact (eq_map hu 9999 none _).2)
  | func =>
    obtain ⟨p, q, s, hu⟩ := hq
    cases X <;> simp only [eqVal] at hb <;> try (cases hb; done)
    all_goals (cases Y <;> simp only [eqVal] at hb <;> try (cases hb; done))
    all_goals (cases hb; cases rx; cases ry; refine eqs_run hop (g1 (by simp) (by simp)) ⟨rfl, rfl⟩ ?_; first | exact (eq_func hu 9999 default #[] #[]).1 | exact (eq_func hu 9999 _ _ _).2.1 | exact (eq_func hu 9999 _ _ _).2.2)
  | iface c =>
    obtain ⟨⟨ms, hu⟩, hc⟩ := hq
    cases X <;> cases c <;> simp only [eqVal] at hb <;> try (cases hb; done)
    all_goals (cases Y <;> simp only [eqVal] at hb <;> try (cases hb; done))
    all_goals (cases hb; cases rx; cases ry; refine eqs_run hop ?_ ⟨rfl, rfl⟩ ?_)
    all_goals first
      | exact (eq_iface hu 9999 0 .nilIface).1 | exact (eq_iface hu 9999 _ _).2.1 | exact (eq_iface hu 9999 _ _).2.2
      | (rcases hop with ⟨rfl, _⟩ | ⟨rfl, _⟩ <;> simp [eqGuard]; done)
      | skip
    all_goals (have hcc := hc rfl; rcases hop with ⟨rfl, _⟩ | ⟨rfl, _⟩ <;> (cases x <;> cases y <;> simp [isConstO] at hcc <;> simp [eqGuard]))
  | agg ks =>
    obtain ⟨i, hi, hag, hks, hE, hgd⟩ := hq
    cases X <;> simp only [eqVal] at hb <;> try (cases hb; done)
    cases Y <;> simp only [eqVal] at hb <;> try (cases hb; done)
    rename_i as bs
    split at hb
    case isFalse => cases hb
    rename_i hll
    obtain ⟨l1, l2⟩ := hll
    cases rx with
    | @agg _ vs hs hh =>
      cases ry with
      | @agg _ us hs' hh' =>
        refine eqs_run hop (run_eqGuard_agg w op ty x y vs us hgd) ⟨rfl, rfl⟩ ?_
        exact hE E w as bs vs us _ _ b ⟨by simpa using hs, fun i a v ha hv => hh i a v ha (by simpa using hv)⟩ ⟨by simpa using hs', fun i a v ha hv => hh' i a v ha (by simpa using hv)⟩ l1 l2 (by simp [ofCells, hag]) (by simp [ofCells, hag]) hb 10000 (by omega)
end
end Go.Proofs.YtgahmpfpnclefaaW.Abs
