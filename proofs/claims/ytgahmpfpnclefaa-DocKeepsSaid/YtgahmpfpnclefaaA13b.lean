/- Regions whose order is drawn: the operations in one order of their own, each local to what it reads and writes. -/
import Derived.Test.YtgahmpfpnclefaaA13
import Derived.Orders
namespace Go.Proofs.YtgahmpfpnclefaaW.Abs
open Go.RowKit
set_option linter.unusedVariables false
set_option linter.unusedSimpArgs false

/-- what an operation touches: old objects (0: none, 1: read, 2: written), and those that the region's own operations lay -/
structure FP where
  old : Nat
  news : List Nat

def FP.D (n0 : Nat) (f : FP) (x : Nat) : Prop := 1 ≤ f.old ∧ x < n0 ∨ ∃ j ∈ f.news, x = n0 + j
def FP.W (n0 : Nat) (f : FP) (x : Nat) : Prop := f.old = 2 ∧ x < n0 ∨ ∃ j ∈ f.news, x = n0 + j
theorem FP.wd {n0 : Nat} {f : FP} {x : Nat} (h : f.W n0 x) : f.D n0 x := by
  rcases h with ⟨h1, h2⟩ | h
  · exact .inl ⟨by omega, h2⟩
  · exact .inr h

def chkS (D : Nat → Prop) : AV → Prop
  | .sl id _ _ => D id
  | _ => True

def chkM (D : Nat → Prop) : AV → Prop
  | .mp id => D id
  | _ => True
theorem mapAt_eq {D : Nat → Prop} {h h' : Hp} {X : AV} (hc : chkM D X) (hh : ∀ x, D x → h x = h' x) : mapAt h X = mapAt h' X := by
  cases X <;> simp only [mapAt]
  rw [hh _ hc]

/-- an operation keeps to what it is said to touch -/
def SO.chk (n0 i : Nat) (f : FP) (ts : List AV) : SO → Prop
  | .load _ x => match x.ev ts with | .bp id _ _ => f.D n0 id | _ => True
  | .ia _ x _ | .sub _ x _ _ | .b2s x => chkS (f.D n0) (x.ev ts)
  | .store _ a _ => match a.ev ts with | .bp id _ _ => f.W n0 id | _ => True
  | .alloc _ _ | .box _ _ | .bslice _ _ _ _ _ _ | .mks _ _ _ _ _ _ _ | .s2b _ => f.W n0 (n0 + i)
  | .mkm _ | .empt => f.W n0 (n0 + i)
  | .look _ _ _ m _ | .mlen m => chkM (f.D n0) (m.ev ts)
  | .cvpu x | .cvup _ x => match x.ev ts with | .bp id _ _ => f.D n0 id | _ => True
  | .ustr _ x _ => match x.ev ts with | .dp _ (some t) => f.D n0 t | _ => True
  | .marks x => match x.ev ts with | .row _ (some t) => f.W n0 t | _ => True
  | .mput _ m _ _ => chkM (f.W n0) (m.ev ts)
  | .app _ _ _ x y => f.W n0 (n0 + i) ∧ (match x.ev ts with | .row _ (some t) => f.W n0 t | _ => True) ∧ chkS (f.D n0) (y.ev ts)
  | .grow _ _ _ x y => f.W n0 (n0 + i) ∧ (match x.ev ts with | .sl t _ _ => f.W n0 t | _ => True) ∧ chkS (f.D n0) (y.ev ts)
  | _ => True

structure Local (s : SO) (id : Nat) (ts : List AV) (D W : Nat → Prop) : Prop where
  ok : ∀ h h' : Hp, (∀ x, D x → h x = h' x) → s.ok id ts h → s.ok id ts h'
  val : ∀ h h' : Hp, (∀ x, D x → h x = h' x) → s.val id ts h = s.val id ts h'
  heap : ∀ h h' : Hp, (∀ x, D x → h x = h' x) → ∀ x, W x → s.heap id ts h x = s.heap id ts h' x
  frame : ∀ (h : Hp) x, ¬ W x → s.heap id ts h x = h x

theorem target_eq {h h' : Hp} {X : AV} (hx : ∀ id i o, X = .bp id i o → h id = h' id) : target h X = target h' X := by
  cases X <;> simp only [target]
  rename_i id i o
  rw [hx id i o rfl]
theorem elems_eq {h h' : Hp} {X : AV} (hx : ∀ id i o, X = .sl id i o → h id = h' id) : elems h X = elems h' X := by
  cases X <;> simp only [elems]
  rename_i id i o
  rw [hx id i o rfl]
theorem srcElems_eq {h h' : Hp} {X : AV} (hx : ∀ id i o, X = .sl id i o → h id = h' id) : srcElems h X = srcElems h' X := by
  cases X <;> simp only [srcElems] <;> exact elems_eq hx
theorem chkS_eq {D : Nat → Prop} {h h' : Hp} {X : AV} (hc : chkS D X) (hh : ∀ x, D x → h x = h' x) : ∀ id i o, X = .sl id i o → h id = h' id := by
  rintro id i o rfl; exact hh id hc

/-- operations that touch no memory -/
def SO.pure : SO → Bool
  | .mv _ | .pick _ _ _ | .build _ _ | .nilck _ | .bin _ _ _ | .eqs _ _ _ _ | .un _ _ | .cvi _ _ | .same _ | .fa _ _ | .fld _ _ _ | .iaa _ _ _ _ | .ixs _ _ | .ixa _ _ _ _ _ | .ext _ _ | .mkf _ _ _ | .subs _ _ _ | .mki _ _ | .tas _ _ _ | .lens _ | .len _ | .mx _ _ | .mn _ _ | .sdata _ | .idn _ => true
  | _ => false

theorem pure_ok {s : SO} (hp : s.pure = true) (id id' : Nat) (ts : List AV) (h h' : Hp) : s.ok id ts h = s.ok id' ts h' ∧ s.val id ts h = s.val id' ts h' ∧ s.heap id ts h = h := by
  cases s <;> first | (simp [SO.pure] at hp; done) | exact ⟨rfl, rfl, rfl⟩

theorem upd_get (h : Hp) (id x : Nat) (o : Option AObj) : upd h id o x = if x = id then o else h x := rfl

theorem local_of {s : SO} {n0 i : Nat} {f : FP} {ts : List AV} (hc : s.chk n0 i f ts) : Local s (n0 + i) ts (f.D n0) (f.W n0) := by
  by_cases hp : s.pure = true
  · have := fun h h' => pure_ok hp (n0 + i) (n0 + i) ts h h'
    exact ⟨fun h h' _ hk => (this h h').1 ▸ hk, fun h h' _ => (this h h').2.1, fun h h' hh x hx => by rw [(this h h').2.2, (this h' h).2.2]; exact hh x (FP.wd hx), fun h x _ => by rw [(this h h).2.2]⟩
  have newcase : (∀ h h' : Hp, s.ok (n0 + i) ts h = s.ok (n0 + i) ts h') → (∀ h h' : Hp, s.val (n0 + i) ts h = s.val (n0 + i) ts h') → (∃ o, ∀ h : Hp, s.heap (n0 + i) ts h = upd h (n0 + i) o) → f.W n0 (n0 + i) → Local s (n0 + i) ts (f.D n0) (f.W n0) := by
    rintro h1 h2 ⟨o, h3⟩ hw
    refine ⟨fun h h' _ hk => h1 h h' ▸ hk, fun h h' _ => h2 h h', fun h h' hh x hx => ?_, fun h x hx => ?_⟩
    · rw [h3, h3, upd_get, upd_get]; split; rfl; exact hh x (FP.wd hx)
    · rw [h3, upd_get, if_neg (fun e => hx (by rw [e]; exact hw))]
  have readcase : (∀ h h' : Hp, (∀ x, f.D n0 x → h x = h' x) → (s.ok (n0 + i) ts h ↔ s.ok (n0 + i) ts h') ∧ s.val (n0 + i) ts h = s.val (n0 + i) ts h') → (∀ h : Hp, s.heap (n0 + i) ts h = h) → Local s (n0 + i) ts (f.D n0) (f.W n0) := by
    intro h1 h2
    exact ⟨fun h h' hh hk => (h1 h h' hh).1.1 hk, fun h h' hh => (h1 h h' hh).2, fun h h' hh x hx => by rw [h2, h2]; exact hh x (FP.wd hx), fun h x _ => by rw [h2]⟩
  cases s <;> first | (exact absurd rfl hp) | skip
  case alloc ty z => exact newcase (fun _ _ => rfl) (fun _ _ => rfl) ⟨_, fun _ => rfl⟩ hc
  case box ty x => exact newcase (fun _ _ => rfl) (fun _ _ => rfl) ⟨_, fun _ => rfl⟩ hc
  case bslice ty s n z ps bx => exact newcase (fun _ _ => rfl) (fun _ _ => rfl) ⟨_, fun _ => rfl⟩ hc
  case mks ty s b z l c bx => exact newcase (fun _ _ => rfl) (fun _ _ => rfl) ⟨_, fun _ => rfl⟩ hc
  case s2b x => exact newcase (fun _ _ => rfl) (fun _ _ => rfl) ⟨_, fun _ => rfl⟩ hc
  case marks x =>
    simp only [SO.chk] at hc
    refine ⟨fun h h' hh hk => ?_, fun _ _ _ => rfl, fun h h' hh z hz => ?_, fun h z hz => ?_⟩
    · obtain ⟨es, t, ty, s, hX, hn, he⟩ := hk
      rw [hX] at hc
      exact ⟨es, t, ty, s, hX, hn, by rw [← hh _ (FP.wd hc)]; exact he⟩
    · simp only [SO.heap]
      cases hX : x.ev ts <;> try exact hh z (FP.wd hz)
      rename_i es t
      cases t with
      | none => exact hh z (FP.wd hz)
      | some t => simp only [upd_get]; split; rfl; exact hh z (FP.wd hz)
    · simp only [SO.heap]
      cases hX : x.ev ts <;> try rfl
      rename_i es t
      cases t with
      | none => rfl
      | some t =>
        rw [hX] at hc
        simp only [upd_get]
        rw [if_neg (fun e => hz (by rw [e]; exact hc))]
  case empt => exact newcase (fun _ _ => rfl) (fun _ _ => rfl) ⟨_, fun _ => rfl⟩ hc
  case mkm r => exact newcase (fun _ _ => rfl) (fun _ _ => rfl) ⟨_, fun _ => rfl⟩ hc
  case look ck z ok m k =>
    refine readcase (fun h h' hh => ?_) (fun _ => rfl)
    have := mapAt_eq (h := h) (h' := h') hc hh
    exact ⟨by simp only [SO.ok, this], by simp only [SO.val, this]⟩
  case mlen m =>
    refine readcase (fun h h' hh => ?_) (fun _ => rfl)
    have := mapAt_eq (h := h) (h' := h') hc hh
    exact ⟨by simp only [SO.ok, this], by simp only [SO.val, this]⟩
  case cvpu x =>
    refine readcase (fun h h' hh => ?_) (fun _ => rfl)
    simp only [SO.chk] at hc
    refine ⟨?_, rfl⟩
    simp only [SO.ok]
    constructor
    · rintro (hX | ⟨id', ty, es, e, hX, hb, q⟩)
      · exact .inl hX
      · rw [hX] at hc; exact .inr ⟨id', ty, es, e, hX, by rw [← hh _ hc]; exact hb, q⟩
    · rintro (hX | ⟨id', ty, es, e, hX, hb, q⟩)
      · exact .inl hX
      · rw [hX] at hc; exact .inr ⟨id', ty, es, e, hX, by rw [hh _ hc]; exact hb, q⟩
  case cvup tys x =>
    refine readcase (fun h h' hh => ?_) (fun _ => rfl)
    simp only [SO.chk] at hc
    refine ⟨?_, rfl⟩
    simp only [SO.ok]
    constructor
    · rintro (hX | ⟨id', ty, es, e, hX, hb, q⟩)
      · exact .inl hX
      · rw [hX] at hc; exact .inr ⟨id', ty, es, e, hX, by rw [← hh _ hc]; exact hb, q⟩
    · rintro (hX | ⟨id', ty, es, e, hX, hb, q⟩)
      · exact .inl hX
      · rw [hX] at hc; exact .inr ⟨id', ty, es, e, hX, by rw [hh _ hc]; exact hb, q⟩
  case ustr e x n =>
    refine readcase (fun h h' hh => ?_) (fun _ => rfl)
    simp only [SO.chk] at hc
    refine ⟨?_, rfl⟩
    simp only [SO.ok]
    constructor
    · rintro (hX | ⟨es, t, l, hX, hb, q⟩)
      · exact .inl hX
      · rw [hX] at hc; exact .inr ⟨es, t, l, hX, by rw [← hh _ hc]; exact hb, q⟩
    · rintro (hX | ⟨es, t, l, hX, hb, q⟩)
      · exact .inl hX
      · rw [hX] at hc; exact .inr ⟨es, t, l, hX, by rw [hh _ hc]; exact hb, q⟩
  case mput ck m k v =>
    simp only [SO.chk] at hc
    cases hpe : m.ev ts with
    | mp id' =>
      rw [hpe] at hc
      refine ⟨fun h h' hh hk => ?_, fun _ _ _ => rfl, fun h h' hh y hy => ?_, fun h y hy => ?_⟩
      · obtain ⟨a0, a1, a2, a3, b1, b2, b3⟩ := hk
        rw [hpe] at b1; cases b1
        exact ⟨a0, _, a2, a3, hpe, by rw [← hh _ (FP.wd hc)]; exact b2, b3⟩
      · simp only [SO.heap, hpe, hh id' (FP.wd hc)]
        cases h' id' with
        | none => exact hh y (FP.wd hy)
        | some o => cases o <;> first | exact hh y (FP.wd hy) | (simp only [upd_get]; split; rfl; exact hh y (FP.wd hy))
      · simp only [SO.heap, hpe]
        cases h id' with
        | none => rfl
        | some o => cases o <;> first | rfl | (simp only [upd_get]; rw [if_neg (fun e => hy (by rw [e]; exact hc))])
    | _ =>
      refine ⟨fun h h' hh hk => ?_, fun _ _ _ => rfl, fun h h' hh y hy => ?_, fun h y hy => ?_⟩
      · obtain ⟨a0, a1, a2, a3, b1, b2, b3⟩ := hk
        rw [hpe] at b1; cases b1
      · simp only [SO.heap, hpe]; exact hh y (FP.wd hy)
      · simp only [SO.heap, hpe]
  case load n x =>
    refine readcase (fun h h' hh => ?_) (fun _ => rfl)
    have := target_eq (h := h) (h' := h') (X := x.ev ts) (fun id a b e => hh id (by simp only [SO.chk, e] at hc; exact hc))
    exact ⟨by simp only [SO.ok, this], by simp only [SO.val, this]⟩
  case ia s x k =>
    refine readcase (fun h h' hh => ?_) (fun _ => rfl)
    have := elems_eq (h := h) (h' := h') (X := x.ev ts) (chkS_eq hc hh)
    exact ⟨by simp only [SO.ok, this], by simp only [SO.val, this]⟩
  case sub s x lo hi =>
    refine readcase (fun h h' hh => ?_) (fun _ => rfl)
    have := elems_eq (h := h) (h' := h') (X := x.ev ts) (chkS_eq hc hh)
    exact ⟨by simp only [SO.ok, this], by simp only [SO.val, this]⟩
  case b2s x =>
    refine readcase (fun h h' hh => ?_) (fun _ => rfl)
    have := elems_eq (h := h) (h' := h') (X := x.ev ts) (chkS_eq hc hh)
    exact ⟨by simp only [SO.ok, this], by simp only [SO.val, this]⟩
  case store n p x =>
    simp only [SO.chk] at hc
    cases hpe : p.ev ts with
    | bp id' k off =>
      rw [hpe] at hc
      refine ⟨fun h h' hh hk => ?_, fun _ _ _ => rfl, fun h h' hh y hy => ?_, fun h y hy => ?_⟩
      · obtain ⟨a1, a2, a3, a4, a5, a6, b1, b2⟩ := hk
        rw [hpe] at b1; cases b1
        exact ⟨_, _, _, a4, a5, a6, hpe, by rw [← hh _ (FP.wd hc)]; exact b2.1, b2.2⟩
      · simp only [SO.heap, hpe, hh id' (FP.wd hc)]
        cases h' id' with
        | none => exact hh y (FP.wd hy)
        | some o => cases o <;> first | exact hh y (FP.wd hy) | (simp only [upd_get]; split; rfl; exact hh y (FP.wd hy))
      · simp only [SO.heap, hpe]
        cases h id' with
        | none => rfl
        | some o => cases o <;> first | rfl | (simp only [upd_get]; rw [if_neg (fun e => hy (by rw [e]; exact hc))])
    | _ =>
      refine ⟨fun h h' hh hk => ?_, fun _ _ _ => rfl, fun h h' hh y hy => ?_, fun h y hy => ?_⟩
      · obtain ⟨a1, a2, a3, a4, a5, a6, b1, b2⟩ := hk
        rw [hpe] at b1; cases b1
      · simp only [SO.heap, hpe]; exact hh y (FP.wd hy)
      · simp only [SO.heap, hpe]
  case app ty s b x y =>
    obtain ⟨hw, hx, hy⟩ := hc
    have hsrc := fun (h h' : Hp) hh => srcElems_eq (h := h) (h' := h') (X := y.ev ts) (chkS_eq hy hh)
    refine ⟨fun h h' hh hk => ?_, fun h h' hh => ?_, fun h h' hh z hz => ?_, fun h z hz => ?_⟩
    · obtain ⟨es, ns, h1, h2, h3⟩ := hk
      refine ⟨es, ns, ?_, by rw [← hsrc h h' hh]; exact h2, h3⟩
      rcases h1 with h1 | ⟨t, ty', h1, h4⟩
      · exact .inl h1
      · rw [h1] at hx
        exact .inr ⟨t, ty', h1, by rw [← hh t (FP.wd hx)]; exact h4⟩
    · simp only [SO.val, hsrc h h' hh]
    · have e1 := hsrc h h' hh
      have gen : ∀ o1 : Option AObj, ∀ t, upd (upd h t none) (n0 + i) o1 z = upd (upd h' t none) (n0 + i) o1 z := fun o1 t => by
        simp only [upd_get]; split; rfl; split; rfl; exact hh z (FP.wd hz)
      have gen1 : ∀ o1 : Option AObj, upd h (n0 + i) o1 z = upd h' (n0 + i) o1 z := fun o1 => by
        simp only [upd_get]; split; rfl; exact hh z (FP.wd hz)
      simp only [SO.heap, e1]
      generalize x.ev ts = X at hx
      generalize (srcElems h' (y.ev ts)).getD [] = ns
      cases X with
      | row es tok =>
        cases tok with
        | none => cases ns with
          | nil => exact hh z (FP.wd hz)
          | cons _ _ => exact gen1 _
        | some t =>
          have e2 := hh t (FP.wd hx)
          cases ns <;> (dsimp only; rw [e2]; exact gen _ _)
      | _ => cases ns with
        | nil => exact hh z (FP.wd hz)
        | cons _ _ => exact gen1 _
    · have hne : z ≠ n0 + i := fun e => hz (by rw [e]; exact hw)
      simp only [SO.heap]
      generalize x.ev ts = X at hx
      generalize (srcElems h (y.ev ts)).getD [] = ns
      cases X with
      | row es tok =>
        cases tok with
        | none => cases ns <;> first | rfl | (simp [upd_get, hne])
        | some t =>
          have hnt : z ≠ t := fun e => hz (by rw [e]; exact hx)
          cases ns <;> simp [upd_get, hne, hnt]
      | _ => cases ns <;> first | rfl | (simp [upd_get, hne])
  case grow ty s b x y =>
    obtain ⟨hw, hx, hy⟩ := hc
    have hsrc := fun (h h' : Hp) hh => srcElems_eq (h := h) (h' := h') (X := y.ev ts) (chkS_eq hy hh)
    refine ⟨fun h h' hh hk => ?_, fun h h' hh => ?_, fun h h' hh z hz => ?_, fun h z hz => ?_⟩
    · obtain ⟨es, ns, h1, h2, h3⟩ := hk
      refine ⟨es, ns, ?_, by rw [← hsrc h h' hh]; exact h2, h3⟩
      rcases h1 with h1 | ⟨t, n, ty', es0, h1, h4, h5⟩ | ⟨t, h1, h4, h5, h6⟩
      · exact .inl h1
      · rw [h1] at hx
        exact .inr (.inl ⟨t, n, ty', es0, h1, by rw [← hh t (FP.wd hx)]; exact h4, h5⟩)
      · rw [h1] at hx
        exact .inr (.inr ⟨t, h1, by rw [← hh t (FP.wd hx)]; exact h4, h5, by rw [← hsrc h h' hh]; exact h6⟩)
    · simp only [SO.val, hsrc h h' hh]
    · have e1 := hsrc h h' hh
      have gen : ∀ o1 : Option AObj, ∀ t, upd (upd h t none) (n0 + i) o1 z = upd (upd h' t none) (n0 + i) o1 z := fun o1 t => by
        simp only [upd_get]; split; rfl; split; rfl; exact hh z (FP.wd hz)
      have gen1 : ∀ o1 : Option AObj, upd h (n0 + i) o1 z = upd h' (n0 + i) o1 z := fun o1 => by
        simp only [upd_get]; split; rfl; exact hh z (FP.wd hz)
      simp only [SO.heap, e1]
      generalize x.ev ts = X at hx
      generalize (srcElems h' (y.ev ts)).getD [] = ns
      cases X with
      | sl t k n =>
        have e2 := hh t (FP.wd hx)
        dsimp only; rw [e2]
        cases h' t with
        | none => exact hh z (FP.wd hz)
        | some ob => cases ob with
          | box ty2 es => exact gen _ _
          | nocap => exact gen _ _
          | _ => exact hh z (FP.wd hz)
      | _ => cases ns with
        | nil => exact hh z (FP.wd hz)
        | cons _ _ => exact gen1 _
    · have hne : z ≠ n0 + i := fun e => hz (by rw [e]; exact hw)
      simp only [SO.heap]
      generalize x.ev ts = X at hx
      generalize (srcElems h (y.ev ts)).getD [] = ns
      cases X with
      | sl t k n =>
        have hnt : z ≠ t := fun e => hz (by rw [e]; exact hx)
        dsimp only
        cases h t with
        | none => rfl
        | some ob => cases ob with
          | box ty2 es => simp [upd_get, hne, hnt]
          | nocap => simp [upd_get, hne, hnt]
          | _ => rfl
      | _ => cases ns <;> first | rfl | (simp [upd_get, hne])
  all_goals exact ⟨fun _ _ _ hk => hk.elim, fun _ _ _ => rfl, fun h h' hh x hx => hh x (FP.wd hx), fun _ _ _ => rfl⟩

/-- the operands of an operation -/
def SO.args : SO → List Arg
  | .mv x | .box _ x | .load _ x | .nilck x | .un _ x | .cvi _ x | .same x | .b2s x | .s2b x | .marks x | .fa _ x | .fld _ _ x | .ext x _ | .mki _ x | .tas _ _ x | .lens x | .len x | .sdata x | .cvpu x | .cvup _ x | .idn x => [x]
  | .ustr _ x n => [x, n]
  | .pick c a b => [c, a, b]
  | .alloc _ _ | .empt => []
  | .build _ ps => ps.map (·.2.2)
  | .bslice _ _ _ _ ps _ => ps.map (·.2)
  | .store _ a x | .bin _ a x | .eqs _ _ a x | .ia _ a x | .iaa _ _ a x | .ixs a x | .ixa _ _ _ a x | .app _ _ _ a x | .grow _ _ _ a x | .mx a x | .mn a x | .copy _ a x => [a, x]
  | .mkf _ a b => a ++ b
  | .subs x lo hi | .sub _ x lo hi => x :: (lo.toList ++ hi.toList)
  | .mks _ _ _ _ l c _ => [l, c]
  | .mkm r => r.toList
  | .look _ _ _ m k => [m, k]
  | .mput _ m k v => [m, k, v]
  | .mlen m => [m]

theorem fillA_congr {ts ts' : List AV} : ∀ (ps : List (Nat × Nat × Arg)) (z : List AV), (∀ x ∈ ps.map (·.2.2), x.ev ts = x.ev ts') → fillA ts z ps = fillA ts' z ps
  | [], _, _ => rfl
  | (off, n, x) :: r, z, h => by
    have hx := h x (by simp)
    simp only [fillA, hx]
    exact fillA_congr r _ (fun y hy => h y (by simp at hy ⊢; exact .inr hy))
theorem fillOk_congr {ts ts' : List AV} {len : Nat} : ∀ (ps : List (Nat × Nat × Arg)), (∀ x ∈ ps.map (·.2.2), x.ev ts = x.ev ts') → fillOk ts len ps = fillOk ts' len ps
  | [], _ => rfl
  | (off, n, x) :: r, h => by
    have hx := h x (by simp)
    simp only [fillOk, hx, fillOk_congr r (fun y hy => h y (by simp at hy ⊢; exact .inr hy))]
theorem fillS_congr {ts ts' : List AV} : ∀ (ps : List (Nat × Arg)) (z : List (List AV)), (∀ x ∈ ps.map (·.2), x.ev ts = x.ev ts') → fillS ts z ps = fillS ts' z ps
  | [], _, _ => rfl
  | (off, x) :: r, z, h => by
    have hx := h x (by simp)
    simp only [fillS, hx]
    exact fillS_congr r _ (fun y hy => h y (by simp at hy ⊢; exact .inr hy))
theorem fillSOk_congr {ts ts' : List AV} {s n : Nat} : ∀ (ps : List (Nat × Arg)), (∀ x ∈ ps.map (·.2), x.ev ts = x.ev ts') → fillSOk ts s n ps = fillSOk ts' s n ps
  | [], _ => rfl
  | (off, x) :: r, h => by
    have hx := h x (by simp)
    simp only [fillSOk, hx, fillSOk_congr r (fun y hy => h y (by simp at hy ⊢; exact .inr hy))]
theorem evl_congr {ts ts' : List AV} {l : List Arg} (h : ∀ x ∈ l, x.ev ts = x.ev ts') : l.map (·.ev ts) = l.map (·.ev ts') := List.map_congr_left h
theorem bound_congr {ts ts' : List AV} {d : Int} {a : Option Arg} (h : ∀ x ∈ a.toList, x.ev ts = x.ev ts') : bound ts d a = bound ts' d a ∧ boundOk ts a = boundOk ts' a := by
  cases a with
  | none => exact ⟨rfl, rfl⟩
  | some x => have := h x (by simp); simp [bound, boundOk, this]

theorem so_congr {s : SO} {ts ts' : List AV} (h : ∀ x ∈ s.args, x.ev ts = x.ev ts') (id : Nat) (hp : Hp) (n0 i : Nat) (f : FP) :
    s.ok id ts hp = s.ok id ts' hp ∧ s.val id ts hp = s.val id ts' hp ∧ s.heap id ts hp = s.heap id ts' hp ∧ s.chk n0 i f ts = s.chk n0 i f ts' := by
  cases s
  case build z ps => exact ⟨fillOk_congr ps h, by simp only [SO.val, fillA_congr ps z h], rfl, rfl⟩
  case bslice ty s n z ps bx => exact ⟨by simp only [SO.ok, fillSOk_congr ps h], by simp only [SO.val, fillS_congr ps _ h], by simp only [SO.heap, fillS_congr ps _ h], rfl⟩
  case mkf f a b => exact ⟨rfl, by simp only [SO.val, evl_congr (fun x hx => h x (List.mem_append_left _ hx)), evl_congr (fun x hx => h x (List.mem_append_right _ hx))], rfl, rfl⟩
  case subs x lo hi =>
    have hx := h x (by simp [SO.args])
    have b1 := fun d => bound_congr (d := d) (a := lo) (fun y hy => h y (by simp only [SO.args]; exact List.mem_cons_of_mem _ (List.mem_append_left _ hy)))
    have b2 := fun d => bound_congr (d := d) (a := hi) (fun y hy => h y (by simp only [SO.args]; exact List.mem_cons_of_mem _ (List.mem_append_right _ hy)))
    exact ⟨by simp only [SO.ok, hx, (b1 0).2, (b2 0).2, fun d => (b1 d).1, fun d => (b2 d).1], by simp only [SO.val, hx, fun d => (b1 d).1, fun d => (b2 d).1], rfl, rfl⟩
  case sub s x lo hi =>
    have hx := h x (by simp [SO.args])
    have b1 := fun d => bound_congr (d := d) (a := lo) (fun y hy => h y (by simp only [SO.args]; exact List.mem_cons_of_mem _ (List.mem_append_left _ hy)))
    have b2 := fun d => bound_congr (d := d) (a := hi) (fun y hy => h y (by simp only [SO.args]; exact List.mem_cons_of_mem _ (List.mem_append_right _ hy)))
    exact ⟨by simp only [SO.ok, hx, (b1 0).2, (b2 0).2, fun d => (b1 d).1, fun d => (b2 d).1], by simp only [SO.val, hx, fun d => (b1 d).1, fun d => (b2 d).1], rfl, by simp only [SO.chk, hx]⟩
  case mkm r =>
    have b1 := fun d => bound_congr (d := d) (a := r) (fun y hy => h y hy)
    exact ⟨by simp only [SO.ok, (b1 0).2], rfl, rfl, rfl⟩
  all_goals (simp only [SO.args, List.mem_cons, List.not_mem_nil, or_false, forall_eq_or_imp, forall_eq, false_implies, implies_true] at h)
  all_goals (simp only [SO.ok, SO.val, SO.heap, SO.chk, h, and_self])
end Go.Proofs.YtgahmpfpnclefaaW.Abs
