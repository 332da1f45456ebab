/- Code over locals by name comes to what its light code comes to; loops, functions. -/
import Derived.Test.YtgahmpfpnclefaaB1
namespace Go.Proofs.YtgahmpfpnclefaaW.Abs
open Go.RowKit
set_option linter.unusedVariables false
set_option linter.unusedSimpArgs false
set_option linter.unusedSectionVars false

section
variable {P : Program} {W0 : World}

theorem HCalls.mono {f : FuncId} {args : List AV} {τ : Heap} {R R' : AOut → Heap → Prop} (h : HCalls P W0 f args τ R) (hr : ∀ o τ', τ.next ≤ τ'.next → R o τ' → R' o τ') : HCalls P W0 f args τ R' :=
  fun g h1 h2 => (h g h1 h2).mono fun o σ' hn ⟨k, a, b, c, d, e⟩ => ⟨k, a, b, c, d, hr _ _ hn e⟩
theorem HCalls.args {f : FuncId} {args : List AV} {τ : Heap} {R : AOut → Heap → Prop} (h : HCalls P W0 f (bareL args) τ R) : HCalls P W0 f args τ R := fun g h1 h2 => ACalls.args (h g h1 h2)
theorem PCall.hcalls {f : FuncId} {args : List AV} {r : AV} (h : PCall P W0 f args r) {τ : Heap} {R : AOut → Heap → Prop} (hR : ∀ m, τ.next ≤ m → R (.ret r) ⟨m, τ.obj⟩) : HCalls P W0 f args τ R := by
  intro g h1 h2
  refine (h ⟨τ.next, g⟩).mono fun o σ' hn ⟨e1, e2⟩ => ?_
  have e2' : σ'.obj = g := e2
  have hn' : τ.next ≤ σ'.next := hn
  refine ⟨τ.obj, fun i x e => by rw [e2']; exact h1 i x e, fun i x e => .inl (by rw [e]; simp), fun i x e => Nat.lt_of_lt_of_le (h2 i x (h1 i x e)) hn', fun i x e _ => by rw [e2']; exact e, ?_⟩
  rw [e1]; exact hR _ hn'

/-- what is kept at a call's end: what is in sight, and what was out of sight -/
def mix (g h0 h : Hp) : Hp := fun i => match h i with | some x => some x | none => match h0 i with | some _ => none | none => g i
theorem mix_some {g h0 h : Hp} {i : Nat} {x : AObj} (e : mix g h0 h i = some x) : h i = some x ∨ h i = none ∧ h0 i = none ∧ g i = some x := by
  unfold mix at e
  cases hi : h i with
  | some y => rw [hi] at e; exact .inl e
  | none =>
    rw [hi] at e
    cases h0i : h0 i with
    | some y => rw [h0i] at e; cases e
    | none => rw [h0i] at e; exact .inr ⟨rfl, rfl, e⟩

theorem Sim.after {X : Hp} {B : Nat → Prop} {n1 m : Nat} {U : Nat → Prop} {loc : Loc} {h0 g h : Hp} (s : Sim X B n1 U loc h0 g) (hm : n1 ≤ m) (hU : ∀ i, U i → i < m)
    (h2 : ∀ i x, h i = some x → h0 i ≠ none ∨ m ≤ i) : Sim X B n1 (fun i => U i ∨ h i ≠ none) loc h (mix g h0 h) := by
  have hid : ∀ i x, g i = some x → h0 i = none → h i = none := fun i x e e0 => by
    cases hi : h i with
    | none => rfl
    | some y =>
      rcases h2 i y hi with a | a
      · exact absurd e0 a
      · have := hU i (s.use i x e); omega
  have hmix : ∀ i x, g i = some x → h0 i = none → mix g h0 h i = some x := fun i x e e0 => by
    unfold mix; rw [hid i x e e0, e0]; exact e
  refine ⟨fun i x e => by unfold mix; rw [e], fun i x e => ?_, fun i x e => ?_, fun k i x e => ?_, s.inj, fun i x e => ?_⟩
  · rcases mix_some e with a | ⟨a, b, c⟩
    · exact .inr (by rw [a]; simp)
    · exact .inl (s.use i x c)
  · rcases h2 i x e with a | a
    · cases h0i : h0 i with
      | none => exact absurd h0i a
      | some y => exact s.new i y h0i
    · exact .inr (by omega)
  · obtain ⟨a, b, c⟩ := s.nam k i x e
    exact ⟨hmix i x a b, hid i x a b, c⟩
  · obtain ⟨a, b, c⟩ := s.out i x e
    have h0n : h0 i = none := by
      cases h0i : h0 i with
      | none => rfl
      | some y =>
        rcases s.new i y h0i with d | d
        · exact absurd d c
        · omega
    exact ⟨hmix i x a h0n, b, c⟩

theorem Sim.after' {X : Hp} {B : Nat → Prop} {n1 m : Nat} {U : Nat → Prop} {loc : Loc} {h0 g h : Hp} (s : Sim X B n1 U loc h0 g) (hm : n1 ≤ m) (hU : ∀ i x, g i = some x → i < m)
    (h2 : ∀ i x, h i = some x → h0 i ≠ none ∨ m ≤ i) : Sim X B n1 (fun i => U i ∨ h i ≠ none) loc h (mix g h0 h) := by
  have hid : ∀ i x, g i = some x → h0 i = none → h i = none := fun i x e e0 => by
    cases hi : h i with
    | none => rfl
    | some y =>
      rcases h2 i y hi with a | a
      · exact absurd e0 a
      · have := hU i x e; omega
  have hmix : ∀ i x, g i = some x → h0 i = none → mix g h0 h i = some x := fun i x e e0 => by
    unfold mix; rw [hid i x e e0, e0]; exact e
  refine ⟨fun i x e => by unfold mix; rw [e], fun i x e => ?_, fun i x e => ?_, fun k i x e => ?_, s.inj, fun i x e => ?_⟩
  · rcases mix_some e with a | ⟨a, b, c⟩
    · exact .inr (by rw [a]; simp)
    · exact .inl (s.use i x c)
  · rcases h2 i x e with a | a
    · cases h0i : h0 i with
      | none => exact absurd h0i a
      | some y => exact s.new i y h0i
    · exact .inr (by omega)
  · obtain ⟨a, b, c⟩ := s.nam k i x e
    exact ⟨hmix i x a b, hid i x a b, c⟩
  · obtain ⟨a, b, c⟩ := s.out i x e
    have h0n : h0 i = none := by
      cases h0i : h0 i with
      | none => rfl
      | some y =>
        rcases s.new i y h0i with d | d
        · exact absurd d c
        · omega
    exact ⟨hmix i x a h0n, b, c⟩

theorem mix_sub {g g' h0 h : Hp} (h1 : ∀ i x, h i = some x → g' i = some x) (h2 : ∀ i x, g i = some x → h0 i = none → g' i = some x) : ∀ i x, mix g h0 h i = some x → g' i = some x := fun i x e => by
  rcases mix_some e with a | ⟨_, b, c⟩
  · exact h1 i x a
  · exact h2 i x c b

def Free2 (n0 : Nat) (l : List Nat) (m : Nat) : Nat → Prop := fun x => x < m ∧ ∀ i ∈ l, x ≠ n0 + i

variable {X : Hp} {B : Nat → Prop} {n1 : Nat}

theorem evOp2_sound {n0 n : Nat} {o : LOp2} {rest : List Nat} (hi : o.i < n) (hrest : ∀ i ∈ rest, i < n) (hne : o.i ∉ rest) (hn1 : n1 ≤ n0)
    {next : List AV → Loc → Heap → Prop} {nx : List AV → Heap → Prop} {K : Kt2}
    (hnext : ∀ ts loc τ g, n0 + n ≤ τ.next → Sim X B n1 (Free2 n0 rest τ.next) loc τ.obj g → next ts loc τ → nx ts ⟨τ.next, g⟩)
    {ts : List AV} {loc : Loc} {τ : Heap} {g : Hp} (hσ : n0 + n ≤ τ.next) (s : Sim X B n1 (Free2 n0 (o.i :: rest) τ.next) loc τ.obj g)
    (h : evOp2 P W0 n0 o next K ts loc τ) : evOp P W0 n0 o.er nx (liftK X B n1 K) ts ⟨τ.next, g⟩ := by
  have hfree : ¬ Free2 n0 (o.i :: rest) τ.next (n0 + o.i) := fun hf => hf.2 o.i (List.mem_cons_self ..) rfl
  have hfr : ∀ i, Free2 n0 (o.i :: rest) τ.next i ∨ i = n0 + o.i → Free2 n0 rest τ.next i := fun i q => by
    rcases q with q | rfl
    · exact ⟨q.1, fun j hj => q.2 j (List.mem_cons_of_mem _ hj)⟩
    · exact ⟨by omega, fun j hj he => hne (by rw [show o.i = j by omega]; exact hj)⟩
  have callcase : ∀ (f : FuncId) (args : List AV), (HCalls P W0 f args τ fun | .ret v, τ' => next (setD ts o.dst v) loc τ' | .pan v, τ' => K (.panic v) ts loc τ') →
      ACalls P W0 f args ⟨τ.next, g⟩ fun | .ret v, σ' => nx (setD ts o.dst v) σ' | .pan v, σ' => liftK X B n1 K (.panic v) ts σ' := by
    intro f args hc
    refine ACalls.drop ((hc g s.sub (fun i x e => (s.use i x e).1)).mono fun out σ' hn ⟨h', a1, a2, a3, a4, a5⟩ => ?_)
    have hn' : τ.next ≤ σ'.next := hn
    refine ⟨mix g τ.obj h', mix_sub a1 a4, ?_⟩
    have s' := s.after (m := τ.next) (h := h') (by omega) (fun i q => q.1) a2
    cases out with
    | ret v =>
      refine hnext _ _ ⟨σ'.next, h'⟩ _ (by dsimp only; omega) (s'.mono fun i q => ?_) a5
      rcases q with q | q
      · exact ⟨by have := q.1; dsimp only; omega, fun j hj => q.2 j (List.mem_cons_of_mem _ hj)⟩
      · cases hi' : h' i with
        | none => exact absurd hi' q
        | some y =>
          refine ⟨a3 i y hi', fun j hj he => ?_⟩
          rcases a2 i y hi' with b | b
          · cases ht : τ.obj i with
            | none => exact b ht
            | some z => exact (s.use i z (s.sub i z ht)).2 j (List.mem_cons_of_mem _ hj) he
          · have := hrest j hj; omega
    | pan v =>
      refine ⟨by dsimp only; omega, loc, h', s'.mono fun i q => ?_, a5⟩
      rcases q with q | q
      · have := q.1; dsimp only; omega
      · cases hi' : h' i with
        | none => exact absurd hi' q
        | some y => exact a3 i y hi'
  obtain ⟨i, dst, gd, op⟩ := o
  dsimp only at hi hne s hfree hfr callcase
  have fin : ∀ (q : SO) (v : AV) (loc' : Loc) (h' : Hp), q.ok (n0 + i) ts g → q.val (n0 + i) ts g = v → Sim X B n1 (fun j => Free2 n0 (i :: rest) τ.next j ∨ j = n0 + i) loc' h' (q.heap (n0 + i) ts g) → next (setD ts dst v) loc' ⟨τ.next, h'⟩ →
      q.ok (n0 + i) ts g ∧ nx (setD ts dst (q.val (n0 + i) ts g)) ⟨τ.next, q.heap (n0 + i) ts g⟩ := by
    intro q v loc' h' k1 k2 k3 k4
    subst k2
    exact ⟨k1, hnext _ _ ⟨τ.next, h'⟩ _ hσ (k3.mono hfr) k4⟩
  have loccase : ∀ (x : LO2) (q : SO), x.er = .s q → x.isLoc = true → x.lok (n0 + i) ts loc τ.obj ∧ next (setD ts dst (x.lval (n0 + i) ts loc τ.obj)) (x.lloc (n0 + i) ts loc τ.obj) τ → q.ok (n0 + i) ts g ∧ nx (setD ts dst (q.val (n0 + i) ts g)) ⟨τ.next, q.heap (n0 + i) ts g⟩ := by
    rintro x q hx hl ⟨h1, h2⟩
    obtain ⟨k1, k2, k3⟩ := local_step s hx hl hfree (by omega) h1
    exact fin q _ _ _ k1 k2 k3 h2
  cases op with
  | o x =>
    cases x with
    | s x =>
      obtain ⟨h1, h2⟩ := h
      obtain ⟨k1, k2, k3⟩ := plain_step s hfree (by omega) h1
      exact fin x _ _ _ k1 k2 k3 h2
    | call f l => exact callcase f _ h
    | icall f l => exact callcase f _ h
    | callv f l =>
      simp only [evOp2] at h
      simp only [evOp, LOp2.er, LO2.er]
      generalize f.ev ts = F at h ⊢
      cases F <;> try exact h.elim
      rename_i fn first caps
      cases fn <;> first | exact h.elim | exact callcase _ _ h
    | panic x =>
      simp only [evOp2] at h
      simp only [evOp, LOp2.er, LO2.er]
      generalize x.ev ts = F at h ⊢
      cases F <;> try exact h.elim
      exact ⟨by dsimp only; omega, loc, τ.obj, s.mono fun i q => q.1, h⟩
  | lalloc k ty z => exact loccase (.lalloc k ty z) _ rfl rfl h
  | lbox k ty z => exact loccase (.lbox k ty z) _ rfl rfl h
  | lload k n z => exact loccase (.lload k n z) _ rfl rfl h
  | lstore k n a z => exact loccase (.lstore k n a z) _ rfl rfl h
  | lapp k ty sz b y z => exact loccase (.lapp k ty sz b y z) _ rfl rfl h
  | lgrow k ty sz b y z => exact loccase (.lgrow k ty sz b y z) _ rfl rfl h
  | lmks k ty sz b z l c bx => exact loccase (.lmks k ty sz b z l c bx) _ rfl rfl h
  | lbsl k ty sz n z ps bx => exact loccase (.lbsl k ty sz n z ps bx) _ rfl rfl h
  | lia k sz y z => exact loccase (.lia k sz y z) _ rfl rfl h
  | lsub k sz y lo hi => exact loccase (.lsub k sz y lo hi) _ rfl rfl h

theorem distinct_cons {a : Nat} {r : List Nat} (h : distinct (a :: r) = true) : a ∉ r ∧ distinct r = true := by
  simpa [distinct] using h

theorem evOps2_sound {n0 n : Nat} (hn1 : n1 ≤ n0) {K : Kt2} : ∀ (l : List LOp2), distinct (l.map (·.i)) = true → (∀ o ∈ l, o.i < n) → ∀ ts loc τ g, n0 + n ≤ τ.next → Sim X B n1 (Free2 n0 (l.map (·.i)) τ.next) loc τ.obj g →
    evOps2 P W0 n0 l K ts loc τ → evOps P W0 n0 (l.map LOp2.er) (liftK X B n1 K) ts ⟨τ.next, g⟩
  | [], _, _, ts, loc, τ, g, hσ, s, h => ⟨by dsimp only; omega, loc, τ.obj, s.mono fun i q => q.1, h⟩
  | o :: r, hd, hl, ts, loc, τ, g, hσ, s, h => by
    obtain ⟨hd1, hd2⟩ := distinct_cons hd
    have ih := fun ts loc τ g a b c => evOps2_sound hn1 (K := K) r hd2 (fun q hq => hl q (List.mem_cons_of_mem _ hq)) ts loc τ g a b c
    have hdo : evOp2 P W0 n0 o (evOps2 P W0 n0 r K) K ts loc τ → evOp P W0 n0 o.er (evOps P W0 n0 (r.map LOp2.er) (liftK X B n1 K)) (liftK X B n1 K) ts ⟨τ.next, g⟩ :=
      evOp2_sound (hl o (List.mem_cons_self ..)) (fun i hi => by
        obtain ⟨q, hq, rfl⟩ := List.mem_map.1 hi
        exact hl q (List.mem_cons_of_mem _ hq)) hd1 hn1 ih hσ s
    have hskip : evOps2 P W0 n0 r K (setD ts o.dst .undef) loc τ → evOps P W0 n0 (r.map LOp2.er) (liftK X B n1 K) (setD ts o.dst .undef) ⟨τ.next, g⟩ :=
      ih _ _ _ _ hσ (s.mono fun i q => ⟨q.1, fun j hj => q.2 j (List.mem_cons_of_mem _ hj)⟩)
    obtain ⟨i, dst, gd, op⟩ := o
    simp only [evOps2] at h
    simp only [List.map_cons, evOps, LOp2.er]
    cases gd with
    | none => exact hdo h
    | some gw =>
      obtain ⟨gt, want⟩ := gw
      dsimp only at h ⊢
      cases hG : guardV (ts.getD gt .undef) want <;> (rw [hG] at h) <;> try exact h.elim
      dsimp only at h ⊢
      split
      · rename_i hb; rw [if_pos hb] at h; exact hdo h
      · rename_i hb; rw [if_neg hb] at h; exact hskip h

/-! regions whose order is drawn -/
def NF (n0 : Nat) (l : List Nat) : Nat → Prop := fun x => ∀ i ∈ l, x ≠ n0 + i
theorem evDOp2_sound {n0 n m : Nat} {o : LOp2} {fp : FP} {rest : List Nat} (hi : o.i < n) (hrest : ∀ i ∈ rest, i < n) (hne : o.i ∉ rest) (hn1 : n1 ≤ n0) (hm : n0 + n ≤ m)
    {next : List AV → Loc → Hp → Prop} {nx : List AV → Hp → Prop}
    (hnext : ∀ ts loc h g, Sim X B n1 (NF n0 rest) loc h g → next ts loc h → nx ts g)
    {ts : List AV} {loc : Loc} {h g : Hp} (s : Sim X B n1 (NF n0 (o.i :: rest)) loc h g)
    (hh : evDOp2 P W0 n0 m o fp next ts loc h) : evDOp P W0 n0 m o.er fp nx ts g := by
  have hfree : ¬ NF n0 (o.i :: rest) (n0 + o.i) := fun hf => hf o.i (List.mem_cons_self ..) rfl
  have hfr : ∀ i, NF n0 (o.i :: rest) i ∨ i = n0 + o.i → NF n0 rest i := fun i q => by
    rcases q with q | rfl
    · exact fun j hj => q j (List.mem_cons_of_mem _ hj)
    · exact fun j hj he => hne (by rw [show o.i = j by omega]; exact hj)
  have hfr0 : ∀ i, NF n0 (o.i :: rest) i → NF n0 rest i := fun i q => hfr i (.inl q)
  obtain ⟨i, dst, gd, op⟩ := o
  dsimp only at hi hne s hfree hfr hfr0
  have fin : ∀ (q : SO) (v : AV) (loc' : Loc) (h' : Hp), q.ok (n0 + i) ts g → q.chk n0 i fp ts → q.val (n0 + i) ts g = v → Sim X B n1 (fun j => NF n0 (i :: rest) j ∨ j = n0 + i) loc' h' (q.heap (n0 + i) ts g) → next (setD ts dst v) loc' h' →
      q.ok (n0 + i) ts g ∧ q.chk n0 i fp ts ∧ nx (setD ts dst (q.val (n0 + i) ts g)) (q.heap (n0 + i) ts g) := by
    intro q v loc' h' k1 k0 k2 k3 k4
    subst k2
    exact ⟨k1, k0, hnext _ _ _ _ (k3.mono hfr) k4⟩
  have loccase : ∀ (x : LO2) (q : SO), x.er = .s q → x.isLoc = true → x.lok (n0 + i) ts loc h ∧ x.lchk n0 i fp ts ∧ next (setD ts dst (x.lval (n0 + i) ts loc h)) (x.lloc (n0 + i) ts loc h) h →
      q.ok (n0 + i) ts g ∧ q.chk n0 i fp ts ∧ nx (setD ts dst (q.val (n0 + i) ts g)) (q.heap (n0 + i) ts g) := by
    rintro x q hx hl ⟨h1, h2, h3⟩
    obtain ⟨k1, k2, k3⟩ := local_step s hx hl hfree (by omega) h1
    have h2' : q.chk n0 i fp ts := by simpa only [LO2.lchk, hx] using h2
    exact fin q _ _ _ k1 h2' k2 k3 h3
  cases op with
  | o x =>
    cases x with
    | s x =>
      obtain ⟨h1, h2, h3⟩ := hh
      obtain ⟨k1, k2, k3⟩ := plain_step s hfree (by omega) h1
      exact fin x _ _ _ k1 h2 k2 k3 h3
    | call f l => obtain ⟨r, h1, h2⟩ := hh; exact ⟨r, h1, hnext _ _ _ _ (s.mono hfr0) h2⟩
    | icall f l =>
      intro m' hm' hbd
      refine ACalls.drop ((hh m' hm' (fun i x e => hbd i x (s.sub i x e)) g s.sub (fun i x e => hbd i x e)).mono fun out σ' hn ⟨h', a1, a2, a3, a4, a5⟩ => ?_)
      refine ⟨mix g h h', mix_sub a1 a4, ?_⟩
      cases out with
      | pan v => exact a5.elim
      | ret v =>
        have s' := s.after' (m := m') (h := h') (by omega) hbd (fun i x e => a2 i x e)
        refine hnext _ _ _ _ (s'.mono fun i q => ?_) a5
        rcases q with q | q
        · exact hfr0 i q
        · cases hi' : h' i with
          | none => exact absurd hi' q
          | some y =>
            rcases a2 i y hi' with a | a
            · cases hi2 : h i with
              | none => exact absurd hi2 a
              | some z => exact hfr0 i (s.use i z (s.sub i z hi2))
            · have a : m' ≤ i := a
              exact fun j hj => by have := hrest j hj; omega
    | callv f l =>
      simp only [evDOp2] at hh
      simp only [evDOp, LOp2.er, LO2.er]
      generalize f.ev ts = F at hh ⊢
      cases F <;> try exact hh.elim
      rename_i fn first caps
      cases fn <;> try exact hh.elim
      obtain ⟨r, h1, h2⟩ := hh; exact ⟨r, h1, hnext _ _ _ _ (s.mono hfr0) h2⟩
    | panic x => exact hh.elim
  | lalloc k ty z => exact loccase (.lalloc k ty z) _ rfl rfl hh
  | lbox k ty z => exact loccase (.lbox k ty z) _ rfl rfl hh
  | lload k n z => exact loccase (.lload k n z) _ rfl rfl hh
  | lstore k n a z => exact loccase (.lstore k n a z) _ rfl rfl hh
  | lapp k ty sz b y z => exact loccase (.lapp k ty sz b y z) _ rfl rfl hh
  | lgrow k ty sz b y z => exact loccase (.lgrow k ty sz b y z) _ rfl rfl hh
  | lmks k ty sz b z l c bx => exact loccase (.lmks k ty sz b z l c bx) _ rfl rfl hh
  | lbsl k ty sz n z ps bx => exact loccase (.lbsl k ty sz n z ps bx) _ rfl rfl hh
  | lia k sz y z => exact loccase (.lia k sz y z) _ rfl rfl hh
  | lsub k sz y lo hi => exact loccase (.lsub k sz y lo hi) _ rfl rfl hh

theorem evD2_sound {n0 n m : Nat} (hn1 : n1 ≤ n0) (hm : n0 + n ≤ m) {K : List AV → Loc → Hp → Prop} : ∀ (l : List (LOp2 × FP)), distinct (l.map (·.1.i)) = true → (∀ o ∈ l, o.1.i < n) → ∀ ts loc h g, Sim X B n1 (NF n0 (l.map (·.1.i))) loc h g →
    evD2 P W0 n0 m l K ts loc h → evD P W0 n0 m (l.map fun p => (p.1.er, p.2)) (fun ts g => ∃ loc h, Sim X B n1 (fun _ => True) loc h g ∧ K ts loc h) ts g
  | [], _, _, ts, loc, h, g, s, hh => ⟨loc, h, s.mono fun _ _ => trivial, hh⟩
  | (o, fp) :: r, hd, hl, ts, loc, h, g, s, hh => by
    obtain ⟨hd1, hd2⟩ := distinct_cons hd
    have ih := fun ts loc h g a b => evD2_sound hn1 hm (K := K) r hd2 (fun q hq => hl q (List.mem_cons_of_mem _ hq)) ts loc h g a b
    have hdo : evDOp2 P W0 n0 m o fp (evD2 P W0 n0 m r K) ts loc h → evDOp P W0 n0 m o.er fp (evD P W0 n0 m (r.map fun p => (p.1.er, p.2)) (fun ts g => ∃ loc h, Sim X B n1 (fun _ => True) loc h g ∧ K ts loc h)) ts g :=
      evDOp2_sound (hl (o, fp) (List.mem_cons_self ..)) (fun i hi => by
        obtain ⟨q, hq, rfl⟩ := List.mem_map.1 hi
        exact hl q (List.mem_cons_of_mem _ hq)) hd1 hn1 hm ih s
    have hskip : evD2 P W0 n0 m r K (setD ts o.dst .undef) loc h → evD P W0 n0 m (r.map fun p => (p.1.er, p.2)) (fun ts g => ∃ loc h, Sim X B n1 (fun _ => True) loc h g ∧ K ts loc h) (setD ts o.dst .undef) g :=
      ih _ _ _ _ (s.mono fun i q => fun j hj => q j (List.mem_cons_of_mem _ hj))
    obtain ⟨i, dst, gd, op⟩ := o
    simp only [evD2, evDG2] at hh
    simp only [List.map_cons, evD, evDG, LOp2.er]
    cases gd with
    | none => exact hdo hh
    | some gw =>
      obtain ⟨gt, want⟩ := gw
      dsimp only at hh ⊢
      cases hG : guardV (ts.getD gt .undef) want <;> (rw [hG] at hh) <;> try exact hh.elim
      dsimp only at hh ⊢
      split
      · rename_i hb; rw [if_pos hb] at hh; exact hdo hh
      · rename_i hb; rw [if_neg hb] at hh; exact hskip hh

variable {C : Ctx} {hs : Hints}
theorem ev2_sound : ∀ (s : S2), s.wf = true → ∀ (K : Kt2) ts loc (τ : Heap) g, n1 ≤ τ.next → Sim X B n1 (fun i => i < τ.next) loc τ.obj g →
    ev2 P W0 C hs s K ts loc τ → ev P W0 C hs s.er (liftK X B n1 K) ts ⟨τ.next, g⟩ := by
  intro s
  induction s with
  | skip => intro _ K ts loc τ g hn s h; exact ⟨hn, loc, τ.obj, s, h⟩
  | ops n l =>
    intro hw K ts loc τ g hn s h
    simp only [S2.wf, Bool.and_eq_true, List.all_eq_true, decide_eq_true_eq] at hw
    exact evOps2_sound (n := n) hn l hw.1 (fun o ho => by simpa using hw.2 o ho) ts loc ⟨τ.next + n, τ.obj⟩ g (Nat.le_refl _) (s.mono fun i q => ⟨by dsimp only; omega, fun j _ => by omega⟩) h
  | dops n l =>
    intro hw K ts loc τ g hn s h
    simp only [S2.wf, Bool.and_eq_true, List.all_eq_true, decide_eq_true_eq] at hw
    have hb0 : ∀ i, i < τ.next → NF τ.next (l.map (·.1.i)) i := fun i q j _ => by omega
    have := evD2_sound (m := τ.next + n) hn (Nat.le_refl _) l hw.1 (fun o ho => by simpa using hw.2 o ho) ts loc τ.obj g (s.mono hb0) h
    refine evD_mono (fun ts g ⟨loc, h, s', hk⟩ m hm hbd => ?_) _ _ _ this
    have hm' : τ.next + n ≤ m := hm
    exact ⟨by dsimp only; omega, loc, h, { s' with use := fun i x e => hbd i x e }, hk m hm⟩
  | dopc n l =>
    intro hw K ts loc τ g hn s h
    simp only [S2.wf, Bool.and_eq_true, List.all_eq_true, decide_eq_true_eq] at hw
    have hb0 : ∀ i, i < τ.next → NF τ.next (l.map (·.1.i)) i := fun i q j _ => by omega
    have := evD2_sound (m := τ.next + n) hn (Nat.le_refl _) l hw.1 (fun o ho => by simpa using hw.2 o ho) ts loc τ.obj g (s.mono hb0) h
    refine evD_mono (fun ts g ⟨loc, h, s', hk⟩ m hm hbd => ?_) _ _ _ this
    have hm' : τ.next + n ≤ m := hm
    exact ⟨by dsimp only; omega, loc, h, { s' with use := fun i x e => hbd i x e }, hk m hm (fun i x e => hbd i x (s'.sub i x e))⟩
  | seq a b iha ihb =>
    intro hw K ts loc τ g hn s h
    simp only [S2.wf, Bool.and_eq_true] at hw
    show ev P W0 C hs a.er (fun e ts σ => match e with | .normal => ev P W0 C hs b.er (liftK X B n1 K) ts σ | e => liftK X B n1 K e ts σ) ts _
    refine ev_mono (iha hw.1 _ ts loc τ g hn s h) ?_
    rintro e ts σ ⟨h1, loc, h, s', hk⟩
    cases e with
    | normal => exact ihb hw.2 K ts loc ⟨σ.next, h⟩ σ.obj h1 s' hk
    | exit i => exact ⟨h1, loc, h, s', hk⟩
    | ret => exact ⟨h1, loc, h, s', hk⟩
    | panic v => exact ⟨h1, loc, h, s', hk⟩
  | cond c a b iha ihb =>
    intro hw K ts loc τ g hn s h
    simp only [S2.wf, Bool.and_eq_true] at hw
    simp only [ev2] at h
    simp only [S2.er, ev]
    cases hc : c.ev ts <;> (rw [hc] at h) <;> try exact h.elim
    dsimp only at h ⊢
    split
    · rename_i hb; rw [if_pos hb] at h; exact iha hw.1 K ts loc τ g hn s h
    · rename_i hb; rw [if_neg hb] at h; exact ihb hw.2 K ts loc τ g hn s h
  | block id a iha =>
    intro hw K ts loc τ g hn s h
    show ev P W0 C hs a.er (fun e ts σ => match e with | .exit i => if i = id then liftK X B n1 K .normal ts σ else liftK X B n1 K (.exit i) ts σ | e => liftK X B n1 K e ts σ) ts _
    refine ev_mono (iha hw _ ts loc τ g hn s h) ?_
    rintro e ts σ ⟨h1, loc, h, s', hk⟩
    cases e with
    | normal => exact ⟨h1, loc, h, s', hk⟩
    | exit i =>
      dsimp only at hk ⊢
      by_cases hi : i = id
      · rw [if_pos hi] at hk ⊢; exact ⟨h1, loc, h, s', hk⟩
      · rw [if_neg hi] at hk ⊢; exact ⟨h1, loc, h, s', hk⟩
    | ret => exact ⟨h1, loc, h, s', hk⟩
    | panic v => exact ⟨h1, loc, h, s', hk⟩
  | loop a _ => intro hw K ts loc τ g hn s h; exact h X B n1 g hn s
  | exit id => intro hw K ts loc τ g hn s h; exact ⟨hn, loc, τ.obj, s, h⟩
  | ret => intro hw K ts loc τ g hn s h; exact ⟨hn, loc, τ.obj, s, h⟩
  | refuse => intro hw K ts loc τ g hn s h; exact h.elim
end

section
variable {P : Program} {W0 : World} {C : Ctx} {hs : Hints}

/-- a round of a loop -/
theorem aloop2 (hC : C.Ok P) {s : S2} (hw : s.wf = true) {K : Kt2} {ts : List AV} {loc : Loc} {τ : Heap}
    (h : ev2 P W0 C hs s (fun e ts loc τ => match e with | .normal => ALoop2 P W0 C hs s K ts loc τ | e => K e ts loc τ) ts loc τ) : ALoop2 P W0 C hs s K ts loc τ := by
  intro X B n1 g hn sm
  refine aloop hC (ev_mono (ev2_sound s hw _ ts loc τ g hn sm h) ?_)
  rintro e ts σ ⟨h1, loc, h, s', hk⟩
  cases e with
  | normal => exact hk X B n1 σ.obj h1 s'
  | exit i => exact ⟨h1, loc, h, s', hk⟩
  | ret => exact ⟨h1, loc, h, s', hk⟩
  | panic v => exact ⟨h1, loc, h, s', hk⟩

/-- at a loop's head part of what is known may be forgotten -/
theorem aloop2_drop {s : S2} {K : Kt2} {ts : List AV} {loc : Loc} {τ : Heap} {loc' : Loc} {h' : Hp} (hl : ∀ k i x, (loc' k).obj = some (i, x) → (loc k).obj = some (i, x)) (hh : ∀ i x, h' i = some x → τ.obj i = some x)
    (h : ALoop2 P W0 C hs s K ts loc' ⟨τ.next, h'⟩) : ALoop2 P W0 C hs s K ts loc τ := fun X B n1 g hn sm => by
  refine h X B n1 g hn ⟨fun i x e => sm.sub i x (hh i x e), sm.use, fun i x e => sm.new i x (hh i x e), fun k i x e => ?_, fun k k' i x x' e e' => sm.inj k k' i x x' (hl k i x e) (hl k' i x' e'), sm.out⟩
  obtain ⟨a, b, c⟩ := sm.nam k i x (hl k i x e)
  refine ⟨a, ?_, c⟩
  cases hi : h' i with
  | none => exact hi
  | some y => rw [hh i y hi] at b; cases b
/-- .. and temporaries told weaker -/
theorem aloop_weak {s : S} {K : Kt} {ts ts' : List AV} {σ : Heap} (hw : ∀ (E : Env) vs, Reps E ts vs → Reps E ts' vs) (h : ALoop P W0 C hs s K ts' σ) : ALoop P W0 C hs s K ts σ :=
  fun c hc E act w r ht hd => h c hc E act w r (hw E _ ht) hd
theorem aloop2_weak {s : S2} {K : Kt2} {ts ts' : List AV} {loc : Loc} {τ : Heap} (hw : ∀ (E : Env) vs, Reps E ts vs → Reps E ts' vs) (h : ALoop2 P W0 C hs s K ts' loc τ) : ALoop2 P W0 C hs s K ts loc τ :=
  fun X B n1 g hn sm => aloop_weak hw (h X B n1 g hn sm)

/-! results -/
inductive RV2 where
  | o (x : RV)
  | lcell (k t : Nat) (n : Option Nat)
def RV2.er : RV2 → RV
  | .o x => x
  | .lcell _ t n => .cell t n
def RV2.ok (ts : List AV) (loc : Loc) (h : Hp) : RV2 → Prop
  | .o x => x.ok ts h
  | .lcell k t n => match boxOf (loc k) (ts.getD t .undef) with | some (_, _, _, e, _, off) => partOk e off n | none => False
def RV2.val (ts : List AV) (loc : Loc) (h : Hp) : RV2 → AV
  | .o x => x.val ts h
  | .lcell k t n => match boxOf (loc k) (ts.getD t .undef) with | some (_, _, _, e, _, off) => partOf e off n | none => .undef
def resVal2 (ts : List AV) (loc : Loc) (h : Hp) : List RV2 → AV
  | [x] => x.val ts loc h
  | xs => .tup (xs.map (·.val ts loc h))
def resOk2 (ts : List AV) (loc : Loc) (h : Hp) : List RV2 → Prop
  | [] => True
  | x :: r => x.ok ts loc h ∧ resOk2 ts loc h r

theorem rv2_sound {X : Hp} {B : Nat → Prop} {n1 : Nat} {U : Nat → Prop} {loc : Loc} {h g : Hp} (s : Sim X B n1 U loc h g) {ts : List AV} {x : RV2} (ok : x.ok ts loc h) : x.er.ok ts g ∧ x.er.val ts g = x.val ts loc h := by
  cases x with
  | o x =>
    cases x with
    | tmp t => exact ⟨trivial, rfl⟩
    | cell t n =>
      obtain ⟨cs, off, e, hp⟩ := ok
      have e' := target_sub s.sub e
      exact ⟨⟨cs, off, e', hp⟩, by simp only [RV2.er, RV.val, RV2.val, e, e']⟩
  | lcell k t n =>
    simp only [RV2.ok] at ok
    split at ok
    · rename_i id' ty' es' e' i' off' hb
      obtain ⟨h1, h2, h3⟩ := boxOf_some hb
      have hgb := (s.nam k _ _ (by rw [h1]; rfl)).1
      have ht : target g (ts.getD t .undef) = some (e', off') := by rw [h2]; simp only [target, hgb, h3]; rfl
      exact ⟨⟨_, _, ht, ok⟩, by simp only [RV2.er, RV.val, RV2.val, ht, hb]⟩
    · exact ok.elim
theorem res2_sound {X : Hp} {B : Nat → Prop} {n1 : Nat} {U : Nat → Prop} {loc : Loc} {h g : Hp} (s : Sim X B n1 U loc h g) {ts : List AV} : ∀ {xs : List RV2}, resOk2 ts loc h xs → resOk ts g (xs.map RV2.er) ∧ (xs.map RV2.er).map (·.val ts g) = xs.map (·.val ts loc h)
  | [], _ => ⟨trivial, rfl⟩
  | x :: r, ⟨h1, h2⟩ => by
    obtain ⟨a, b⟩ := rv2_sound s h1
    obtain ⟨c, d⟩ := res2_sound s h2
    exact ⟨⟨a, c⟩, by simp only [List.map_cons, b, d]⟩
theorem resVal2_eq {ts : List AV} {loc : Loc} {h g : Hp} {xs : List RV2} (e : (xs.map RV2.er).map (·.val ts g) = xs.map (·.val ts loc h)) : resVal ts g (xs.map RV2.er) = resVal2 ts loc h xs := by
  match xs with
  | [] => rfl
  | [x] => simpa [resVal, resVal2] using e
  | x :: y :: r => simpa [resVal, resVal2] using e

/-- what a function's end is asked -/
def Fin2 (rs : List RV2) (R : AOut → Heap → Prop) : Kt2 := fun e ts loc τ => match e with
  | .normal | .ret => resOk2 ts loc τ.obj rs ∧ R (.ret (resVal2 ts loc τ.obj rs)) τ
  | .panic v => R (.pan v) τ
  | .exit _ => False

theorem hcalls (hC : C.Ok P) {f : FuncId} {fn : Func} {c : Code} {s : S2} {rs : List RV2} {args : List AV} {τ : Heap} {R : AOut → Heap → Prop}
    (hf : P.funcs[f]? = some fn) (hb : fn.body = some c) (hE : Enters P f) (hc : comp C hs c = some s.er) (hw : s.wf = true) (hr : compRVs C fn.results.toList = some (rs.map RV2.er))
    (h : ev2 P W0 C hs s (Fin2 rs R) (args ++ List.replicate (fn.ntmps - args.length) .undef) (fun _ => .none) τ) : HCalls P W0 f args τ R := by
  intro g h1 h2
  refine acalls hC hf hb hE hc hr (fun _ => ?_)
  have sm : Sim (fun i => match τ.obj i with | some _ => none | none => g i) (fun i => τ.obj i ≠ none) τ.next (fun i => i < τ.next) (fun _ => .none) τ.obj g :=
    ⟨h1, h2, fun i x e => .inl (by rw [e]; simp), fun k i x e => (by cases e), fun k k' i x x' e => (by cases e), fun i x e => (by
      cases hi : τ.obj i with
      | some y => simp only [hi] at e; cases e
      | none => simp only [hi] at e; exact ⟨e, h2 i x e, fun q => q rfl⟩)⟩
  refine ev_mono (ev2_sound s hw _ _ _ τ g (Nat.le_refl _) sm h) ?_
  rintro e ts σ ⟨hn, loc, h, s', hk⟩
  let R' : AOut → Heap → Prop := fun o σ' => ∃ h, (∀ i x, h i = some x → σ'.obj i = some x) ∧ (∀ i x, h i = some x → τ.obj i ≠ none ∨ τ.next ≤ i) ∧ (∀ i x, h i = some x → i < σ'.next) ∧
      (∀ i x, g i = some x → τ.obj i = none → σ'.obj i = some x) ∧ R o ⟨σ'.next, h⟩
  have hfin : ∀ o, R o ⟨σ.next, h⟩ → R' o σ := fun o ho =>
    ⟨h, s'.sub, s'.new, fun i x e => s'.use i x (s'.sub i x e), fun i x e e0 => (s'.out i x (by rw [e0]; exact e)).1, ho⟩
  have hret : resOk2 ts loc h rs ∧ R (.ret (resVal2 ts loc h rs)) ⟨σ.next, h⟩ → resOk ts σ.obj (rs.map RV2.er) ∧ R' (.ret (resVal ts σ.obj (rs.map RV2.er))) σ := fun q => by
    obtain ⟨a, b⟩ := res2_sound s' q.1
    exact ⟨a, by rw [resVal2_eq b]; exact hfin _ q.2⟩
  cases e with
  | normal => exact hret hk
  | ret => exact hret hk
  | exit i => exact hk.elim
  | panic v => exact hfin _ hk

theorem HCalls.bare {f : FuncId} {args : List AV} {τ : Heap} {R : AOut → Heap → Prop} (h : HCalls P W0 f args τ fun o τ' => R o.bare τ') : HCalls P W0 f args τ R := fun g h1 h2 => by
  refine ACalls.bare ((h g h1 h2).mono fun o σ' hn hh => ?_)
  exact hh

theorem pcall2 (hC : C.Ok P) {f : FuncId} {fn : Func} {c : Code} {s : S2} {rs : List RV2} {args : List AV} {r : AV}
    (hf : P.funcs[f]? = some fn) (hb : fn.body = some c) (hE : Enters P f) (hc : comp C hs c = some s.er) (hw : s.wf = true) (hr : compRVs C fn.results.toList = some (rs.map RV2.er))
    (h : ∀ n, ev2 P W0 C hs s (Fin2 rs fun o _ => o.bare = .ret r) (args ++ List.replicate (fn.ntmps - args.length) .undef) (fun _ => .none) ⟨n, fun _ => none⟩) : PCall P W0 f args r := by
  intro σ
  have h0 : HCalls P W0 f args ⟨σ.next, fun _ => none⟩ fun o τ' => o = .ret r := HCalls.bare (hcalls hC hf hb hE hc hw hr (h σ.next))
  have key : ∀ g : Hp, (∀ i x, g i = some x → i < σ.next) → g = σ.obj → ACalls P W0 f args σ fun o σ' => o = .ret r ∧ σ'.obj = σ.obj := fun g hg hgs => by
    refine ACalls.drop ((h0 g (fun i x e => by cases e) hg : ACalls P W0 f args ⟨σ.next, g⟩ _) |> fun q => ?_)
    rw [hgs] at q
    exact q.mono fun o σ' hn ⟨h', a1, a2, a3, a4, a5⟩ => ⟨σ.obj, fun i x e => a4 i x e rfl, a5, rfl⟩
  refine ⟨(h0 (fun _ => none) (fun _ _ e => e) (fun _ _ e => by cases e)).1, fun E w vs rel hvs => ?_⟩
  have hb' : ∀ i x, σ.obj i = some x → i < σ.next := fun i x e => by
    obtain ⟨b, hb, _⟩ := rel.objs i x e
    exact rel.ids i b hb
  exact (key σ.obj hb' rfl).2 E w vs rel hvs
end
end Go.Proofs.YtgahmpfpnclefaaW.Abs
