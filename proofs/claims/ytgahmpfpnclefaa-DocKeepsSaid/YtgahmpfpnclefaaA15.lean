/- The model's code does what its light code does; functions and loops. -/
import Derived.Test.YtgahmpfpnclefaaA14c
import Derived.Scope
namespace Go.Proofs.YtgahmpfpnclefaaW.Abs
open Go.RowKit
set_option linter.unusedVariables false
set_option linter.unusedSimpArgs false

section
variable {P : Program} {W0 : World} {C : Ctx} {hs : Hints}

theorem ev_sound (hC : C.Ok P) : ∀ (c : Code) (s : S), comp C hs c = some s → ∀ (K : Kt) (E : Env) (ts : List AV) (σ : Heap) (a : Act) (w : World), Rel W0 E (fun i => i < σ.next) σ.obj w → Reps E ts a.tmps.toList → a.defers = [] →
    ev P W0 C hs s K ts σ → c.wp P (conc W0 E σ.next K) a w := by
  have post0 : ∀ (K : Kt) (E : Env) (ts : List AV) (σ : Heap) (a : Act) (w : World) (x : Ex) (e : Exit), ExR E x e → Rel W0 E (fun i => i < σ.next) σ.obj w → Reps E ts a.tmps.toList → a.defers = [] → K x ts σ → conc W0 E σ.next K e a w :=
    fun K E ts σ a w x e hxe r ht hd h => ⟨E, σ, .refl E, fun _ _ e => .inl e, Nat.le_refl _, r, hd, ts, x, ht, hxe, h⟩
  intro c
  induction c with
  | skip => intro s hc K E ts σ a w r ht hd h; cases hc; exact wp_skip (post0 K E ts σ a w .normal .normal trivial r ht hd h)
  | label l => intro s hc K E ts σ a w r ht hd h; cases hc; exact wp_label (post0 K E ts σ a w .normal .normal trivial r ht hd h)
  | region id ops draw =>
    intro s hc K E ts σ a w r ht hd h
    cases draw with
    | true => exact compD_sound hC hc r ht hd h
    | false =>
      simp only [comp, Option.map_eq_some_iff] at hc
      obtain ⟨l, hl, rfl⟩ := hc
      simp only [ev] at h
      refine wp_region (evOps_sound hC (n0 := σ.next) (n := ops.size) (E0 := E) (n1 := σ.next) (Nat.le_refl _) (List.range ops.size) l hl List.nodup_range (fun i hi => by simpa using hi) E ts ⟨σ.next + ops.size, σ.obj⟩ a w (.refl E) (fun _ _ e => .inl e) (Nat.le_refl _) ?_ ht hd h)
      exact r.used fun i hi => ⟨Nat.lt_of_lt_of_le hi (Nat.le_add_right _ _), fun q _ he => by have h0 : i < σ.next := hi; omega⟩
  | seq c1 c2 ih1 ih2 =>
    intro s hc K E ts σ a w r ht hd h
    simp only [comp] at hc
    split at hc
    · rename_i x y h1 h2
      cases hc
      refine wp_seq (wp_mono (ih1 x h1 _ E ts σ a w r ht hd h) fun e a' w' hq => ?_)
      obtain ⟨E', σ', x1, x2, x3, x4, hd', ts', ex, ht', hex, hk⟩ := hq
      cases ex with
      | normal =>
        cases e <;> first | (exact hex.elim) | skip
        exact wp_mono (ih2 y h2 K E' ts' σ' a' w' x4 ht' hd' hk) fun e a w hh => conc_trans hh x1 x2 x3
      | exit i => cases e <;> first | (exact hex.elim) | exact ⟨E', σ', x1, x2, x3, x4, hd', ts', .exit i, ht', hex, hk⟩
      | ret => cases e <;> first | (exact hex.elim) | exact ⟨E', σ', x1, x2, x3, x4, hd', ts', .ret, ht', hex, hk⟩
      | panic v => cases e <;> first | (exact hex.elim) | exact ⟨E', σ', x1, x2, x3, x4, hd', ts', .panic v, ht', hex, hk⟩
    · cases hc
  | cond c x y ih1 ih2 =>
    intro s hc K E ts σ a w r ht hd h
    simp only [comp] at hc
    split at hc
    · rename_i c' x' y' h0 h1 h2
      cases hc
      have rc := compA_rep ht h0
      simp only [ev] at h
      generalize c'.ev ts = B at h rc
      split at h
      · rename_i b
        have hb := rc.bool_inv
        cases b with
        | true => exact wp_cond_true hb (ih1 x' h1 K E ts σ a w r ht hd h)
        | false => exact wp_cond_false hb (ih2 y' h2 K E ts σ a w r ht hd h)
      · exact h.elim
    · cases hc
  | block id c ih =>
    intro s hc K E ts σ a w r ht hd h
    simp only [comp, Option.map_eq_some_iff] at hc
    obtain ⟨x, hx, rfl⟩ := hc
    refine wp_block (wp_mono (ih x hx _ E ts σ a w r ht hd h) fun e a' w' hq => ?_)
    obtain ⟨E', σ', x1, x2, x3, x4, hd', ts', ex, ht', hex, hk⟩ := hq
    cases ex with
    | normal => cases e <;> first | (exact hex.elim) | exact ⟨E', σ', x1, x2, x3, x4, hd', ts', .normal, ht', hex, hk⟩
    | exit i =>
      cases e <;> first | (exact hex.elim) | skip
      rename_i j
      have hij : i = j := hex
      subst hij
      dsimp only at hk
      show if i = id then conc W0 E σ.next K .normal a' w' else conc W0 E σ.next K (.exit i) a' w'
      by_cases hi : i = id
      · rw [if_pos hi] at hk ⊢
        exact ⟨E', σ', x1, x2, x3, x4, hd', ts', .normal, ht', trivial, hk⟩
      · rw [if_neg hi] at hk ⊢
        exact ⟨E', σ', x1, x2, x3, x4, hd', ts', .exit i, ht', rfl, hk⟩
    | ret => cases e <;> first | (exact hex.elim) | exact ⟨E', σ', x1, x2, x3, x4, hd', ts', .ret, ht', hex, hk⟩
    | panic v => cases e <;> first | (exact hex.elim) | exact ⟨E', σ', x1, x2, x3, x4, hd', ts', .panic v, ht', hex, hk⟩
  | loop c ih =>
    intro s hc K E ts σ a w r ht hd h
    simp only [comp, Option.map_eq_some_iff] at hc
    obtain ⟨x, hx, rfl⟩ := hc
    exact loopFrom_wp (h c hx E a w r ht hd)
  | exit id => intro s hc K E ts σ a w r ht hd h; cases hc; exact wp_exit (post0 K E ts σ a w (.exit id) (.exit id) rfl r ht hd h)
  | ret => intro s hc K E ts σ a w r ht hd h; cases hc; exact wp_ret (post0 K E ts σ a w .ret .ret trivial r ht hd h)
  | scope c ih =>
    intro s hc K E ts σ a w r ht hd h
    refine wp_scope_straight (wp_mono (ih s hc K E ts σ a w r ht hd h) fun e a' w' hq => ?_)
    cases e <;> first | exact hq | skip
    obtain ⟨E', σ', x1, x2, x3, x4, hd', ts', ex, ht', hex, hk⟩ := hq
    cases ex <;> exact hex.elim
  | refuse m => intro s hc K E ts σ a w r ht hd h; cases hc; exact h.elim
  | _ => intro s hc; cases hc

/-- a round of a loop -/
theorem aloop (hC : C.Ok P) {s : S} {K : Kt} {ts : List AV} {σ : Heap}
    (h : ev P W0 C hs s (fun e ts σ => match e with | .normal => ALoop P W0 C hs s K ts σ | e => K e ts σ) ts σ) : ALoop P W0 C hs s K ts σ := by
  intro c hc E a w r ht hd
  refine loopFrom_round (wp_mono (ev_sound hC c s hc _ E ts σ a w r ht hd h) fun e a' w' hq => ?_)
  obtain ⟨E', σ', x1, x2, x3, x4, hd', ts', ex, ht', hex, hk⟩ := hq
  cases ex with
  | normal =>
    cases e <;> first | (exact hex.elim) | skip
    exact loopFrom_mono (hk c hc E' a' w' x4 ht' hd') fun e a w hh => conc_trans hh x1 x2 x3
  | exit i => cases e <;> first | (exact hex.elim) | exact ⟨E', σ', x1, x2, x3, x4, hd', ts', .exit i, ht', hex, hk⟩
  | ret => cases e <;> first | (exact hex.elim) | exact ⟨E', σ', x1, x2, x3, x4, hd', ts', .ret, ht', hex, hk⟩
  | panic v => cases e <;> first | (exact hex.elim) | exact ⟨E', σ', x1, x2, x3, x4, hd', ts', .panic v, ht', hex, hk⟩

/-! results -/
inductive RV where
  | tmp (t : Nat)
  | cell (t : Nat) (n : Option Nat)

def RV.ok (ts : List AV) (h : Hp) : RV → Prop
  | .tmp _ => True
  | .cell t n => ∃ cs off, target h (ts.getD t .undef) = some (cs, off) ∧ partOk cs off n
def RV.val (ts : List AV) (h : Hp) : RV → AV
  | .tmp t => ts.getD t .undef
  | .cell t n => match target h (ts.getD t .undef) with | some (cs, off) => partOf cs off n | none => .undef

def compRV (C : Ctx) : ResultVar → Option RV
  | .tmp t => some (.tmp t)
  | .cell t ty => (C.τ ty).map fun i => .cell t (partN i)
def compRVs (C : Ctx) : List ResultVar → Option (List RV)
  | [] => some []
  | x :: r => match compRV C x, compRVs C r with
    | some y, some ys => some (y :: ys)
    | _, _ => none
def resVal (ts : List AV) (h : Hp) : List RV → AV
  | [x] => x.val ts h
  | xs => .tup (xs.map (·.val ts h))
def resOk (ts : List AV) (h : Hp) : List RV → Prop
  | [] => True
  | x :: r => x.ok ts h ∧ resOk ts h r

def resF (tmps : Array Value) : ResultVar → Sem Value
  | .tmp t => pure (tmps.getD t undef)
  | .cell a t => do loadVar t (← asAddr (tmps.getD a undef))
theorem results_eq (fn : Func) (tmps : Array Value) : results fn tmps = (do
    let vs ← fn.results.mapM (resF tmps)
    pure (if h : vs.size = 1 then vs[0] else .tuple vs)) := by
  unfold results
  congr 1

theorem results_run (hC : C.Ok P) {E : Env} {U : Nat → Prop} {h : Hp} {w : World} {ts : List AV} {tmps : Array Value} (r : Rel W0 E U h w) (ht : Reps E ts tmps.toList) : ∀ {xs : List ResultVar} {ys : List RV}, compRVs C xs = some ys → resOk ts h ys →
    ∃ vs, (xs.mapM (m := Sem) (resF tmps)).run P w = .ok vs w ∧ Reps E (ys.map (·.val ts h)) vs
  | [], ys, hc, _ => by cases hc; exact ⟨[], by simp, .nil⟩
  | x :: xs, ys, hc, hok => by
    unfold compRVs at hc
    split at hc
    · rename_i y zs h1 h2
      cases hc
      obtain ⟨hk, hks⟩ := hok
      obtain ⟨vs, e1, e2⟩ := results_run hC r ht h2 hks
      have hone : ∃ v, (resF tmps x).run P w = .ok v w ∧ Rep E (y.val ts h) v := by
        have hget : ∀ t, Rep E (ts.getD t .undef) (tmps.getD t undef) := fun t => compA_rep (a := ⟨tmps, []⟩) (x := .tmp t) (y := .t t) ht rfl
        cases x with
        | tmp t => cases h1; exact ⟨_, rfl, hget t⟩
        | cell t ty =>
          simp only [compRV, Option.map_eq_some_iff] at h1
          obtain ⟨i, hi, rfl⟩ := h1
          obtain ⟨cs, off, htar, hp⟩ := hk
          obtain ⟨blk, o', hv, hcell⟩ := target_cells r (hget t) htar
          obtain ⟨v, q1, q2⟩ := loadVar_run (P := P) (hC.tys.ok _ _ hi) rfl hp hcell
          refine ⟨v, ?_, by simp only [RV.val, htar]; exact q2⟩
          simp [resF, hv, asAddr, q1]
      obtain ⟨v, f1, f2⟩ := hone
      refine ⟨v :: vs, ?_, .cons f2 e2⟩
      simp only [List.mapM_cons, Sem.run_bind, f1, Result.andThen_ok, e1]
      rfl
    · cases hc

/-- one call more of a function whose code is known; hc: its light code. At its end the heap may be forgotten in part -/
theorem acalls (hC : C.Ok P) {f : FuncId} {fn : Func} {c : Code} {s : S} {rs : List RV} {args : List AV} {σ : Heap} {R : AOut → Heap → Prop}
    (hf : P.funcs[f]? = some fn) (hb : fn.body = some c) (hE : Enters P f) (hc : comp C hs c = some s) (hr : compRVs C fn.results.toList = some rs)
    (h : (∀ i, σ.next ≤ i → σ.obj i = none) → ev P W0 C hs s (fun e ts σ' => match e with
      | .normal | .ret => resOk ts σ'.obj rs ∧ R (.ret (resVal ts σ'.obj rs)) σ'
      | .panic v => R (.pan v) σ'
      | .exit _ => False) (args ++ List.replicate (fn.ntmps - args.length) .undef) σ) : ACalls P W0 f args σ R := by
  refine ⟨hE, fun E w vs r hvs => ?_⟩
  have hfresh : ∀ i, σ.next ≤ i → σ.obj i = none := fun i hi => r.fresh (id := i) (by omega)
  have hlen : args.length = vs.size := by simpa using hvs.1
  have ht : Reps E (args ++ List.replicate (fn.ntmps - args.length) .undef) (vs ++ Array.replicate (fn.ntmps - vs.size) undef).toList := by
    rw [hlen]
    simp only [Array.toList_append, Array.toList_replicate]
    exact hvs.append ⟨by simp, fun i a v ha hv => by
      rw [List.getElem?_replicate] at ha hv
      by_cases hi : i < fn.ntmps - vs.size
      · rw [if_pos hi] at ha hv; cases ha; cases hv; exact .undef
      · rw [if_neg hi] at ha; cases ha⟩
  refine calls_of_wp hf hb (wp_mono (ev_sound hC c s hc _ E _ σ ⟨_, []⟩ w r ht rfl (h hfresh)) fun e a w' hq => ?_)
  obtain ⟨E', σ', x1, x2, x3, x4, hd', ts', ex, ht', hex, hk⟩ := hq
  have fin : resOk ts' σ'.obj rs ∧ R (.ret (resVal ts' σ'.obj rs)) σ' → a.defers = [] ∧ ∃ v, (results fn a.tmps).run P w' = .ok v w' ∧ Post W0 E σ.next (fun E' σ' => ∃ out, OutR E' out (.returned v) ∧ R out σ') w' := by
    rintro ⟨k1, k2⟩
    refine ⟨hd', ?_⟩
    obtain ⟨vs', e1, e2⟩ := results_run hC x4 ht' hr k1
    refine ⟨if h : vs'.toArray.size = 1 then vs'.toArray[0] else .tuple vs'.toArray, ?_, E', σ', x1, x2, x3, x4, _, ?_, k2⟩
    · rw [results_eq, Array.mapM_eq_mapM_toList]
      simp only [Sem.run_bind, Sem.run_map, e1, Result.andThen_ok, Sem.run_pure]
    · show Rep E' (resVal ts' σ'.obj rs) _
      match rs, e2 with
      | [], e2 =>
        have : vs' = [] := by apply List.eq_nil_of_length_eq_zero; have := e2.1; simpa using this.symm
        subst this
        exact .tup' .nil
      | [x], e2 =>
        have hl : vs'.length = 1 := by have := e2.1; simpa using this.symm
        match vs', hl with
        | [v], _ => exact e2.2 0 _ _ rfl rfl
      | x :: y :: rest, e2 =>
        have hl : vs'.length ≠ 1 := by have := e2.1; simp at this; omega
        rw [dif_neg (by simpa using hl)]
        exact .tup' (by simpa using e2)
  cases ex with
  | normal => cases e <;> first | (exact hex.elim) | exact fin hk
  | ret => cases e <;> first | (exact hex.elim) | exact fin hk
  | exit i => exact hk.elim
  | panic v =>
    cases e <;> first | (exact hex.elim) | skip
    obtain ⟨u, rfl, hu⟩ := hex
    exact ⟨hd', E', σ', x1, x2, x3, x4, .pan v, ⟨u, rfl, hu⟩, hk⟩

/-- at a call's end part of the heap may be forgotten -/
theorem ACalls.drop {f : FuncId} {args : List AV} {σ : Heap} {R : AOut → Heap → Prop} (h : ACalls P W0 f args σ fun o σ' => ∃ obj, (∀ i x, obj i = some x → σ'.obj i = some x) ∧ R o ⟨σ'.next, obj⟩) : ACalls P W0 f args σ R :=
  ⟨h.1, fun E w vs r hv => (h.2 E w vs r hv).mono fun e w' hp => by
    obtain ⟨E', σ', x1, x2, x3, x4, out, ho, obj, hobj, hR⟩ := hp
    exact ⟨E', ⟨σ'.next, obj⟩, x1, x2, x3, x4.drop hobj, out, ho, hR⟩⟩
end
end Go.Proofs.YtgahmpfpnclefaaW.Abs
