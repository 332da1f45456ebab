/- A region whose order is drawn does what its operations do in their own order. -/
import Derived.Test.YtgahmpfpnclefaaA14
namespace Go.Proofs.YtgahmpfpnclefaaW.Abs
open Go.RowKit
set_option linter.unusedVariables false
set_option linter.unusedSimpArgs false

section
variable {P : Program} {W0 : World}

theorem ACalls.mono {f : FuncId} {args : List AV} {σ : Heap} {R R' : AOut → Heap → Prop} (h : ACalls P W0 f args σ R) (hr : ∀ o σ', σ.next ≤ σ'.next → R o σ' → R' o σ') : ACalls P W0 f args σ R' :=
  ⟨h.1, fun E w vs r hv => (h.2 E w vs r hv).mono fun e w' hp => hp.mono fun E' σ' _ hn ⟨out, h1, h2⟩ => ⟨out, h1, hr _ _ hn h2⟩⟩

theorem ACalls.weak {f : FuncId} {args : List AV} {m m' : Nat} {h : Hp} {R : AOut → Heap → Prop} (hc : ACalls P W0 f args ⟨m', h⟩ R) (hm : m' ≤ m) : True := trivial

/-- what a calm operation comes to -/
def StepR (P : Program) (W0 : World) (n0 : Nat) (o : LOp) (fp : FP) (ts : List AV) (h : Hp) (v : AV) (h' : Hp) : Prop :=
  let run := match o.op with
    | .s s => s.ok (n0 + o.i) ts h ∧ s.chk n0 o.i fp ts ∧ v = s.val (n0 + o.i) ts h ∧ h' = s.heap (n0 + o.i) ts h
    | .call f args => PCall P W0 f (args.map (·.ev ts)) v ∧ h' = h
    | .callv f args => match f.ev ts with
      | .fn (.func g) first caps => PCall P W0 g (first ++ args.map (·.ev ts) ++ caps) v ∧ h' = h
      | _ => False
    | _ => False
  match o.g with
  | none => run
  | some (g, want) => match guardV (ts.getD g .undef) want with
    | .bool b => if b = want then run else v = .undef ∧ h' = h
    | _ => False

def notImp (o : LOp) : Prop := (∀ f l, o.op ≠ .icall f l) ∧ ∀ x, o.op ≠ .panic x

theorem evDG_step {n0 m : Nat} {o : LOp} {fp : FP} (hn : notImp o) {K : List AV → Hp → Prop} {ts : List AV} {h : Hp} : evDG P W0 n0 m o fp K ts h ↔ ∃ v h', StepR P W0 n0 o fp ts h v h' ∧ K (setD ts o.dst v) h' := by
  have run : evDOp P W0 n0 m o fp K ts h ↔ ∃ v h', (match o.op with
    | .s s => s.ok (n0 + o.i) ts h ∧ s.chk n0 o.i fp ts ∧ v = s.val (n0 + o.i) ts h ∧ h' = s.heap (n0 + o.i) ts h
    | .call f args => PCall P W0 f (args.map (·.ev ts)) v ∧ h' = h
    | .callv f args => match f.ev ts with
      | .fn (.func g) first caps => PCall P W0 g (first ++ args.map (·.ev ts) ++ caps) v ∧ h' = h
      | _ => False
    | _ => False) ∧ K (setD ts o.dst v) h' := by
    unfold evDOp
    cases hop : o.op with
    | s s =>
      dsimp only
      constructor
      · rintro ⟨h1, h2, h3⟩; exact ⟨_, _, ⟨h1, h2, rfl, rfl⟩, h3⟩
      · rintro ⟨v, h', ⟨h1, h2, rfl, rfl⟩, h3⟩; exact ⟨h1, h2, h3⟩
    | call f l =>
      dsimp only
      constructor
      · rintro ⟨r, h1, h2⟩; exact ⟨r, h, ⟨h1, rfl⟩, h2⟩
      · rintro ⟨r, h', ⟨h1, rfl⟩, h2⟩; exact ⟨r, h1, h2⟩
    | callv f l =>
      dsimp only
      generalize f.ev ts = F
      cases F <;> try exact ⟨False.elim, fun ⟨_, _, hh, _⟩ => hh.elim⟩
      rename_i fn a b
      cases fn <;> try exact ⟨False.elim, fun ⟨_, _, hh, _⟩ => hh.elim⟩
      constructor
      · rintro ⟨r, h1, h2⟩; exact ⟨r, h, ⟨h1, rfl⟩, h2⟩
      · rintro ⟨r, h', ⟨h1, rfl⟩, h2⟩; exact ⟨r, h1, h2⟩
    | icall f l => exact absurd hop (hn.1 f l)
    | panic x => exact absurd hop (hn.2 x)
  unfold evDG StepR
  cases hg : o.g with
  | none => exact run
  | some gw =>
    obtain ⟨g, want⟩ := gw
    dsimp only
    generalize guardV (ts.getD g .undef) want = G
    cases G <;> try (constructor <;> (first | exact False.elim | (rintro ⟨_, _, hh, _⟩; exact hh.elim)))
    rename_i b
    dsimp only
    by_cases hb : b = want
    · simp only [if_pos hb]; exact run
    · simp only [if_neg hb]
      constructor
      · intro hk; exact ⟨.undef, h, ⟨rfl, rfl⟩, hk⟩
      · rintro ⟨v, h', ⟨rfl, rfl⟩, hk⟩; exact hk

theorem ev_set {ts : List AV} {d : Nat} {v : AV} {x : Arg} (h : d ∉ x.reads) : x.ev (ts.set d v) = x.ev ts := by
  cases x with
  | k v => rfl
  | t n =>
    have hne : d ≠ n := fun e => h (by simp [Arg.reads, e])
    simp [Arg.ev, List.getD_eq_getElem?_getD, List.getElem?_set_ne hne]

theorem reads_args {o : LOp} {d : Nat} (h : d ∉ o.reads) : (∀ x ∈ o.op.args, d ∉ x.reads) ∧ ∀ g w, o.g = some (g, w) → g ≠ d := by
  simp only [LOp.reads, List.mem_append, List.mem_flatMap, Option.mem_toList, not_or, not_exists, not_and] at h
  refine ⟨fun x hx hd => h.1 x hx hd, fun g w hg e => ?_⟩
  apply h.2
  simp [hg, e]

theorem stepR_set {n0 : Nat} {o : LOp} {fp : FP} {ts : List AV} {h : Hp} {v : AV} {h' : Hp} {d : Nat} {u : AV} (hd : d ∉ o.reads) : StepR P W0 n0 o fp (ts.set d u) h v h' ↔ StepR P W0 n0 o fp ts h v h' := by
  obtain ⟨h1, h2⟩ := reads_args hd
  have hev : ∀ x ∈ o.op.args, x.ev (ts.set d u) = x.ev ts := fun x hx => ev_set (h1 x hx)
  unfold StepR
  have hg : ∀ g w, o.g = some (g, w) → (ts.set d u).getD g .undef = ts.getD g .undef := fun g w e => by
    have := h2 g w e
    simp [List.getD_eq_getElem?_getD, List.getElem?_set_ne (Ne.symm this)]
  cases hgo : o.g with
  | none =>
    dsimp only
    cases hop : o.op with
    | s s =>
      rw [hop] at hev
      obtain ⟨e1, e2, e3, e4⟩ := so_congr (s := s) hev (n0 + o.i) h n0 o.i fp
      dsimp only; rw [e1, e2, e3, e4]
    | call f l => rw [hop] at hev; dsimp only; rw [evl_congr (l := l) hev]
    | callv f l =>
      rw [hop] at hev; dsimp only
      rw [hev f (by simp [LO.args]), evl_congr (l := l) (fun x hx => hev x (by simp [LO.args, hx]))]
    | panic x => exact Iff.rfl
    | icall f l => exact Iff.rfl
  | some gw =>
    obtain ⟨g, w⟩ := gw
    dsimp only
    rw [hg g w hgo]
    cases guardV (ts.getD g .undef) w <;> try exact Iff.rfl
    dsimp only
    split
    · cases hop : o.op with
      | s s =>
        rw [hop] at hev
        obtain ⟨e1, e2, e3, e4⟩ := so_congr (s := s) hev (n0 + o.i) h n0 o.i fp
        dsimp only; rw [e1, e2, e3, e4]
      | call f l => rw [hop] at hev; dsimp only; rw [evl_congr (l := l) hev]
      | callv f l =>
        rw [hop] at hev; dsimp only
        rw [hev f (by simp [LO.args]), evl_congr (l := l) (fun x hx => hev x (by simp [LO.args, hx]))]
      | panic x => exact Iff.rfl
      | icall f l => exact Iff.rfl
    · exact Iff.rfl

theorem stepR_setD {n0 : Nat} {o : LOp} {fp : FP} {ts : List AV} {h : Hp} {v : AV} {h' : Hp} {d : Option Nat} {u : AV} (hd : ∀ x, d = some x → x ∉ o.reads) : StepR P W0 n0 o fp (setD ts d u) h v h' ↔ StepR P W0 n0 o fp ts h v h' := by
  cases d with
  | none => exact Iff.rfl
  | some x => exact stepR_set (hd x rfl)

/-- the same at a heap that agrees where it looks -/
theorem stepR_local {n0 : Nat} {o : LOp} {fp : FP} {ts : List AV} {h : Hp} {v : AV} {h' : Hp} (hs : StepR P W0 n0 o fp ts h v h') : (∀ x, ¬ fp.W n0 x → h' x = h x) ∧
    ∀ k : Hp, (∀ x, fp.D n0 x → h x = k x) → ∃ k', StepR P W0 n0 o fp ts k v k' ∧ (∀ x, fp.W n0 x → k' x = h' x) ∧ ∀ x, ¬ fp.W n0 x → k' x = k x := by
  have same : h' = h → (∀ k : Hp, StepR P W0 n0 o fp ts k v k) → (∀ x, ¬ fp.W n0 x → h' x = h x) ∧ ∀ k : Hp, (∀ x, fp.D n0 x → h x = k x) → ∃ k', StepR P W0 n0 o fp ts k v k' ∧ (∀ x, fp.W n0 x → k' x = h' x) ∧ ∀ x, ¬ fp.W n0 x → k' x = k x := by
    rintro rfl hk
    exact ⟨fun _ _ => rfl, fun k hh => ⟨k, hk k, fun x hx => (hh x (FP.wd hx)).symm, fun _ _ => rfl⟩⟩
  have simple : ∀ s, o.op = .s s → (s.ok (n0 + o.i) ts h ∧ s.chk n0 o.i fp ts ∧ v = s.val (n0 + o.i) ts h ∧ h' = s.heap (n0 + o.i) ts h) → (∀ k k', (s.ok (n0 + o.i) ts k ∧ s.chk n0 o.i fp ts ∧ v = s.val (n0 + o.i) ts k ∧ k' = s.heap (n0 + o.i) ts k) → StepR P W0 n0 o fp ts k v k') →
      (∀ x, ¬ fp.W n0 x → h' x = h x) ∧ ∀ k : Hp, (∀ x, fp.D n0 x → h x = k x) → ∃ k', StepR P W0 n0 o fp ts k v k' ∧ (∀ x, fp.W n0 x → k' x = h' x) ∧ ∀ x, ¬ fp.W n0 x → k' x = k x := by
    rintro s hop ⟨h1, h2, rfl, rfl⟩ hst
    have L := local_of h2
    refine ⟨fun x hx => L.frame h x hx, fun k hh => ⟨s.heap (n0 + o.i) ts k, hst k _ ⟨L.ok h k hh h1, h2, L.val h k hh, rfl⟩, fun x hx => (L.heap h k hh x hx).symm, fun x hx => L.frame k x hx⟩⟩
  unfold StepR at hs
  cases hgo : o.g with
  | none =>
    rw [hgo] at hs
    dsimp only at hs
    cases hop : o.op with
    | s s => rw [hop] at hs; exact simple s hop hs (fun k k' hk => by unfold StepR; rw [hgo, hop]; exact hk)
    | call f l => rw [hop] at hs; exact same hs.2 (fun k => by unfold StepR; rw [hgo, hop]; exact ⟨hs.1, rfl⟩)
    | callv f l =>
      rw [hop] at hs
      dsimp only at hs
      refine same (by split at hs; (· exact hs.2); exact hs.elim) (fun k => ?_)
      unfold StepR; rw [hgo, hop]
      dsimp only
      split at hs
      · exact ⟨hs.1, rfl⟩
      · exact hs.elim
    | panic x => rw [hop] at hs; exact hs.elim
    | icall f l => rw [hop] at hs; exact hs.elim
  | some gw =>
    obtain ⟨g, w⟩ := gw
    rw [hgo] at hs
    dsimp only at hs
    cases hG : guardV (ts.getD g .undef) w <;> (rw [hG] at hs) <;> try exact hs.elim
    rename_i b
    dsimp only at hs
    by_cases hb : b = w
    · rw [if_pos hb] at hs
      cases hop : o.op with
      | s s => rw [hop] at hs; exact simple s hop hs (fun k k' hk => by unfold StepR; rw [hgo, hop]; dsimp only; rw [hG]; dsimp only; rw [if_pos hb]; exact hk)
      | call f l => rw [hop] at hs; exact same hs.2 (fun k => by unfold StepR; rw [hgo, hop]; dsimp only; rw [hG]; dsimp only; rw [if_pos hb]; exact ⟨hs.1, rfl⟩)
      | callv f l =>
        rw [hop] at hs
        dsimp only at hs
        refine same (by split at hs; (· exact hs.2); exact hs.elim) (fun k => ?_)
        unfold StepR; rw [hgo, hop]
        dsimp only; rw [hG]; dsimp only; rw [if_pos hb]
        split at hs
        · exact ⟨hs.1, rfl⟩
        · exact hs.elim
      | panic x => rw [hop] at hs; exact hs.elim
      | icall f l => rw [hop] at hs; exact hs.elim
    · rw [if_neg hb] at hs
      obtain ⟨rfl, rfl⟩ := hs
      exact same rfl (fun k => by unfold StepR; rw [hgo]; dsimp only; rw [hG]; dsimp only; rw [if_neg hb]; exact ⟨rfl, rfl⟩)

/-- a calm operation leaves any heap as it is -/
theorem stepR_calm {n0 : Nat} {o : LOp} {fp : FP} {ts : List AV} {h : Hp} {v : AV} {h' : Hp} (hc : o.op.calm = true) (hs : StepR P W0 n0 o fp ts h v h') : h' = h ∧ ∀ k : Hp, StepR P W0 n0 o fp ts k v k := by
  have simple : ∀ s, o.op = .s s → s.pure = true := fun s hop => by rw [hop] at hc; exact hc
  unfold StepR at hs ⊢
  cases hgo : o.g with
  | none =>
    rw [hgo] at hs
    dsimp only at hs ⊢
    cases hop : o.op with
    | s s =>
      rw [hop] at hs; dsimp only at hs ⊢
      have := fun k k' => pure_ok (simple s hop) (n0 + o.i) (n0 + o.i) ts k k'
      exact ⟨by rw [hs.2.2.2, (this h h).2.2], fun k => ⟨by rw [← (this h k).1]; exact hs.1, hs.2.1, by rw [← (this h k).2.1]; exact hs.2.2.1, by rw [(this k k).2.2]⟩⟩
    | call f l => rw [hop] at hs; exact ⟨hs.2, fun k => ⟨hs.1, by first | rfl | trivial⟩⟩
    | callv f l =>
      rw [hop] at hs; dsimp only at hs ⊢
      split at hs
      · exact ⟨hs.2, fun k => ⟨hs.1, by first | rfl | trivial⟩⟩
      · exact hs.elim
    | panic x => rw [hop] at hs; exact hs.elim
    | icall f l => rw [hop] at hs; exact hs.elim
  | some gw =>
    obtain ⟨g, w⟩ := gw
    rw [hgo] at hs
    dsimp only at hs ⊢
    cases hG : guardV (ts.getD g .undef) w <;> (rw [hG] at hs) <;> try exact hs.elim
    rename_i b
    dsimp only at hs ⊢
    by_cases hb : b = w
    · rw [if_pos hb] at hs
      simp only [if_pos hb]
      cases hop : o.op with
      | s s =>
        rw [hop] at hs; dsimp only at hs ⊢
        have := fun k k' => pure_ok (simple s hop) (n0 + o.i) (n0 + o.i) ts k k'
        exact ⟨by rw [hs.2.2.2, (this h h).2.2], fun k => ⟨by rw [← (this h k).1]; exact hs.1, hs.2.1, by rw [← (this h k).2.1]; exact hs.2.2.1, by rw [(this k k).2.2]⟩⟩
      | call f l => rw [hop] at hs; exact ⟨hs.2, fun k => ⟨hs.1, by first | rfl | trivial⟩⟩
      | callv f l =>
        rw [hop] at hs; dsimp only at hs ⊢
        split at hs
        · exact ⟨hs.2, fun k => ⟨hs.1, by first | rfl | trivial⟩⟩
        · exact hs.elim
      | panic x => rw [hop] at hs; exact hs.elim
      | icall f l => rw [hop] at hs; exact hs.elim
    · rw [if_neg hb] at hs
      simp only [if_neg hb]
      exact ⟨hs.2, fun k => ⟨hs.1, by first | rfl | trivial⟩⟩

theorem setD_comm {ts : List AV} {d e : Option Nat} {u v : AV} (h : ∀ x, d = some x → e ≠ some x) : setD (setD ts d u) e v = setD (setD ts e v) d u := by
  cases d with
  | none => rfl
  | some x => cases e with
    | none => rfl
    | some y => exact List.set_comm _ _ (fun e => h x rfl (by rw [e]))

theorem fp_apart {n0 : Nat} {f g : FP} (h : fpOk f g = true) : (∀ x, f.W n0 x → ¬ g.D n0 x) ∧ ∀ x, g.W n0 x → ¬ f.D n0 x := by
  simp only [fpOk, Bool.and_eq_true, Bool.not_eq_true', Bool.and_eq_false_iff, List.all_eq_true, beq_eq_false_iff_ne, ne_eq, decide_eq_false_iff_not, List.contains_eq_mem, decide_eq_false_iff_not] at h
  obtain ⟨⟨h1, h2⟩, h3⟩ := h
  constructor
  · rintro x (⟨a1, a2⟩ | ⟨j, hj, rfl⟩) (⟨b1, b2⟩ | ⟨k, hk, hx⟩)
    · rcases h1 with h1 | h1 <;> omega
    · omega
    · omega
    · have : j = k := by omega
      subst this; exact h3 j hj hk
  · rintro x (⟨a1, a2⟩ | ⟨j, hj, rfl⟩) (⟨b1, b2⟩ | ⟨k, hk, hx⟩)
    · rcases h2 with h2 | h2 <;> omega
    · omega
    · omega
    · have : k = j := by omega
      subst this; exact h3 k hk hj

theorem regs_apart {p q : LOp} (h : regsOk p q = true) : (∀ x, p.dst = some x → x ∉ q.reads) ∧ (∀ x, p.dst = some x → q.dst ≠ some x) ∧ ∀ x, q.dst = some x → x ∉ p.reads := by
  unfold regsOk at h
  refine ⟨fun x hx => ?_, fun x hx => ?_, fun x hx => ?_⟩ <;> (rw [hx] at h) <;> simp only [Bool.and_eq_true, Bool.not_eq_true', List.contains_eq_mem, decide_eq_false_iff_not, bne_iff_ne] at h
  · exact h.1.1
  · exact h.1.2
  · exact h.2

/-- two operations that do not touch the same may change places -/
theorem swap_ok {n0 m : Nat} {p q : LOp × FP} (hs : swapOk p q = true) {K : List AV → Hp → Prop} {ts : List AV} {h : Hp} (hh : evDG P W0 n0 m p.1 p.2 (evDG P W0 n0 m q.1 q.2 K) ts h) : evDG P W0 n0 m q.1 q.2 (evDG P W0 n0 m p.1 p.2 K) ts h := by
  unfold swapOk at hs
  simp only [Bool.and_eq_true] at hs
  obtain ⟨hr, hs⟩ := hs
  obtain ⟨r1, r2, r3⟩ := regs_apart hr
  have hnp : notImp p.1 := by
    constructor
    · intro f l e; rw [e] at hs; simp at hs
    · intro x e; rw [e] at hs; simp at hs
  by_cases hq : ∃ f l, q.1.op = .icall f l
  · obtain ⟨f, l, hq⟩ := hq
    have hcalm : p.1.op.calm = true := by
      rw [hq] at hs
      cases hp : p.1.op <;> (rw [hp] at hs) <;> first | exact hs | (simp at hs)
    rw [evDG_step hnp] at hh
    obtain ⟨v, h', st, hh⟩ := hh
    obtain ⟨rfl, hall⟩ := stepR_calm hcalm st
    have hargs : ∀ x ∈ l, x.ev (setD ts p.1.dst v) = x.ev ts := fun x hx => by
      cases hd : p.1.dst with
      | none => rfl
      | some d => exact ev_set ((reads_args (r1 d hd)).1 x (by rw [hq]; exact hx))
    have hmap : l.map (·.ev (setD ts p.1.dst v)) = l.map (·.ev ts) := evl_congr hargs
    have core : evDOp P W0 n0 m q.1 q.2 K (setD ts p.1.dst v) h' → evDOp P W0 n0 m q.1 q.2 (evDG P W0 n0 m p.1 p.2 K) ts h' := by
      intro hc
      simp only [evDOp, hq] at hc ⊢
      intro m' hm hbd
      have hc := hc m' hm hbd
      rw [hmap] at hc
      refine hc.mono fun o σ' _ ho => ?_
      cases o with
      | pan u => exact ho
      | ret u =>
        dsimp only at ho ⊢
        rw [evDG_step hnp]
        refine ⟨v, σ'.obj, (stepR_setD r3).2 (hall σ'.obj), ?_⟩
        rw [setD_comm (fun x hx => fun e => r2 x e hx)]; exact ho
    unfold evDG at hh ⊢
    cases hg : q.1.g with
    | none => rw [hg] at hh; exact core hh
    | some gw =>
      obtain ⟨g, w⟩ := gw
      rw [hg] at hh
      have hgg : (setD ts p.1.dst v).getD g .undef = ts.getD g .undef := by
        cases hd : p.1.dst with
        | none => rfl
        | some d =>
          have := (reads_args (r1 d hd)).2 g w hg
          simp [setD, List.getD_eq_getElem?_getD, List.getElem?_set_ne (Ne.symm this)]
      dsimp only at hh ⊢
      rw [hgg] at hh
      cases hG : guardV (ts.getD g .undef) w <;> (rw [hG] at hh) <;> try exact hh.elim
      dsimp only at hh ⊢
      split
      · rename_i hb; rw [if_pos hb] at hh; exact core hh
      · rename_i hb
        rw [if_neg hb] at hh
        have := (evDG_step (P := P) (W0 := W0) (n0 := n0) (m := m) (fp := p.2) (K := K) (ts := setD ts q.1.dst .undef) (h := h') hnp).2 ⟨v, h', (stepR_setD r3).2 st, by rw [setD_comm (fun x hx => fun e => r2 x e hx)]; exact hh⟩
        exact this
  · have hnq : notImp q.1 := by
      constructor
      · intro f l e; exact hq ⟨f, l, e⟩
      · intro x e; rw [e] at hs; cases hp : p.1.op <;> (rw [hp] at hs) <;> simp at hs
    have hfp : fpOk p.2 q.2 = true := by
      cases hp : p.1.op <;> cases hqq : q.1.op <;> (rw [hp, hqq] at hs) <;> first | exact hs | (simp at hs; done) | (exact absurd ⟨_, _, hqq⟩ hq)
    obtain ⟨f1, f2⟩ := fp_apart (n0 := n0) hfp
    rw [evDG_step hnp] at hh
    obtain ⟨v, h1, st, hh⟩ := hh
    rw [evDG_step hnq] at hh
    obtain ⟨u, h2, st2, hk⟩ := hh
    rw [stepR_setD r1] at st2
    obtain ⟨fr1, lc1⟩ := stepR_local st
    obtain ⟨fr2, lc2⟩ := stepR_local st2
    -- q first
    obtain ⟨k1, sq, ka, kb⟩ := lc2 h (fun x hx => fr1 x (fun hw => f1 x hw hx))
    obtain ⟨k2, sp, kc, kd⟩ := lc1 k1 (fun x hx => (kb x (fun hw => f2 x hw hx)).symm)
    have hfin : k2 = h2 := by
      funext x
      by_cases hw1 : p.2.W n0 x
      · rw [kc x hw1, fr2 x (fun hw => f1 x hw1 (FP.wd hw))]
      · rw [kd x hw1]
        by_cases hw2 : q.2.W n0 x
        · exact ka x hw2
        · rw [kb x hw2, fr2 x hw2, fr1 x hw1]
    rw [evDG_step hnq]
    refine ⟨u, k1, sq, ?_⟩
    rw [evDG_step hnp]
    refine ⟨v, k2, (stepR_setD r3).2 sp, ?_⟩
    rw [setD_comm (fun x hx => fun e => r2 x e hx), hfin]
    exact hk

theorem evDG_mono {n0 m : Nat} {o : LOp} {fp : FP} {K K' : List AV → Hp → Prop} (hk : ∀ ts h, K ts h → K' ts h) {ts : List AV} {h : Hp} (hh : evDG P W0 n0 m o fp K ts h) : evDG P W0 n0 m o fp K' ts h := by
  have core : evDOp P W0 n0 m o fp K ts h → evDOp P W0 n0 m o fp K' ts h := by
    unfold evDOp
    cases o.op with
    | s s => exact fun ⟨a, b, c⟩ => ⟨a, b, hk _ _ c⟩
    | call f l => exact fun ⟨r, a, b⟩ => ⟨r, a, hk _ _ b⟩
    | callv f l =>
      dsimp only
      intro hh
      split at hh
      · obtain ⟨r, a, b⟩ := hh; exact ⟨r, a, hk _ _ b⟩
      · exact hh.elim
    | icall f l => exact fun hh m' hm hbd => (hh m' hm hbd).mono fun o σ' _ ho => by cases o with | ret v => exact hk _ _ ho | pan v => exact ho
    | panic x => exact id
  unfold evDG at hh ⊢
  split
  · rename_i hg; rw [hg] at hh; exact core hh
  · rename_i g w hg
    rw [hg] at hh
    dsimp only at hh
    split
    · rename_i b hG
      rw [hG] at hh
      dsimp only at hh
      split
      · rename_i hb; rw [if_pos hb] at hh; exact core hh
      · rename_i hb; rw [if_neg hb] at hh; exact hk _ _ hh
    · rename_i hne
      split at hh
      · rename_i b hG; exact absurd hG (hne b)
      · exact hh

theorem evD_front {n0 m : Nat} {q : LOp × FP} {K : List AV → Hp → Prop} : ∀ (pre post : List (LOp × FP)), (∀ p ∈ pre, swapOk p q = true) → ∀ ts h, evD P W0 n0 m (pre ++ q :: post) K ts h → evDG P W0 n0 m q.1 q.2 (evD P W0 n0 m (pre ++ post) K) ts h
  | [], post, _, ts, h, hh => hh
  | p :: pre, post, hs, ts, h, hh => by
    have hh : evDG P W0 n0 m p.1 p.2 (evD P W0 n0 m (pre ++ q :: post) K) ts h := hh
    exact swap_ok (hs p (by simp)) (evDG_mono (fun ts h hh => evD_front pre post (fun p hp => hs p (by simp [hp])) ts h hh) hh)
end
end Go.Proofs.YtgahmpfpnclefaaW.Abs
