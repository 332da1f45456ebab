/- A region whose order is drawn: the model's region does what its light operations do. -/
import Derived.Test.YtgahmpfpnclefaaA14b
namespace Go.Proofs.YtgahmpfpnclefaaW.Abs
open Go.RowKit
set_option linter.unusedVariables false
set_option linter.unusedSimpArgs false

section
variable {P : Program} {W0 : World} {C : Ctx}

theorem evOp_of_D {n0 m : Nat} {o : LOp} {fp : FP} {next : List AV → Hp → Prop} {K : Kt} {ts : List AV} {σ : Heap} (hm : m ≤ σ.next) (hbd : ∀ i x, σ.obj i = some x → i < σ.next) (h : evDOp P W0 n0 m o fp next ts σ.obj) : evOp P W0 n0 o (fun ts σ => next ts σ.obj) K ts σ := by
  unfold evDOp at h
  unfold evOp
  cases hop : o.op with
  | s s => rw [hop] at h; exact ⟨h.1, h.2.2⟩
  | call f l =>
    rw [hop] at h
    obtain ⟨r, h1, h2⟩ := h
    exact (h1 σ).mono fun o' σ' _ ⟨e1, e2⟩ => by subst e1; dsimp only; rw [e2]; exact h2
  | callv f l =>
    rw [hop] at h
    dsimp only at h ⊢
    split at h
    · obtain ⟨r, h1, h2⟩ := h
      exact (h1 σ).mono fun o' σ' _ ⟨e1, e2⟩ => by subst e1; dsimp only; rw [e2]; exact h2
    · exact h
  | icall f l =>
    rw [hop] at h
    exact (h σ.next hm hbd).mono fun o' σ' _ ho => by cases o' with | ret v => exact ho | pan v => exact ho.elim
  | panic x => rw [hop] at h; exact h.elim

theorem topo_mono {ops : Array Oper} : ∀ (l : List (LOp × FP)) (d d' : List Nat), (∀ k ∈ d, k ∈ d') → topo ops d l = true → topo ops d' l = true
  | [], _, _, _, _ => rfl
  | p :: r, d, d', h, ht => by
    simp only [topo, Bool.and_eq_true] at ht ⊢
    refine ⟨?_, topo_mono r _ _ (fun k hk => ?_) ht.2⟩
    · cases ho : ops[p.1.i]? with
      | none => rw [ho] at ht; simp at ht
      | some o =>
        rw [ho] at ht
        simp only [List.all_eq_true, List.contains_eq_mem, decide_eq_true_eq] at ht ⊢
        exact fun k hk => h k (ht.1 k hk)
    · rcases List.mem_cons.1 hk with rfl | hk
      · exact List.mem_cons_self ..
      · exact List.mem_cons_of_mem _ (h k hk)
theorem topo_erase {ops : Array Oper} {q : LOp × FP} {post : List (LOp × FP)} : ∀ (pre : List (LOp × FP)) (d : List Nat), topo ops d (pre ++ q :: post) = true → topo ops (q.1.i :: d) (pre ++ post) = true
  | [], d, h => by simp only [List.nil_append, topo, Bool.and_eq_true] at h; exact h.2
  | p :: pre, d, h => by
    simp only [List.cons_append, topo, Bool.and_eq_true] at h ⊢
    refine ⟨?_, topo_mono _ _ _ (fun k hk => ?_) (topo_erase pre _ h.2)⟩
    · cases ho : ops[p.1.i]? with
      | none => rw [ho] at h; simp at h
      | some o =>
        rw [ho] at h
        simp only [List.all_eq_true, List.contains_eq_mem, decide_eq_true_eq] at h ⊢
        exact fun k hk => List.mem_cons_of_mem _ (h.1 k hk)
    · simp only [List.mem_cons] at hk ⊢
      rcases hk with h | h | h
      · exact .inr (.inl h)
      · exact .inl h
      · exact .inr (.inr h)
theorem pairs_erase {anc : List (List Nat)} {q : LOp × FP} {post : List (LOp × FP)} : ∀ (pre : List (LOp × FP)), pairsOk anc (pre ++ q :: post) = true → pairsOk anc (pre ++ post) = true ∧ ∀ p ∈ pre, p.1.i ∈ anc.getD q.1.i [] ∨ swapOk p q = true
  | [], h => by simp only [List.nil_append, pairsOk, Bool.and_eq_true] at h; exact ⟨h.2, fun p hp => by simp at hp⟩
  | p :: pre, h => by
    simp only [List.cons_append, pairsOk, Bool.and_eq_true, List.all_eq_true] at h ⊢
    obtain ⟨i1, i2⟩ := pairs_erase pre h.2
    refine ⟨⟨fun x hx => h.1 x (by simp only [List.mem_append, List.mem_cons] at hx ⊢; rcases hx with h | h; (· exact .inl h); exact .inr (.inr h)), i1⟩, fun x hx => ?_⟩
    rcases List.mem_cons.1 hx with rfl | hx
    · have := h.1 q (by simp)
      simpa using this
    · exact i2 x hx

/-- a light operation is the light form of the region's -/
def Fits (C : Ctx) (ops : Array Oper) (p : LOp) : Prop :=
  ∃ o bx, ops[p.i]? = some o ∧ (compLO C bx o = some p.op ∨ ∃ f l, compLO C bx o = some (.call f l) ∧ p.op = .icall f l) ∧ p.dst = o.dst ∧ compG ops o.guard = some p.g

theorem dsound (hC : C.Ok P) {ops : Array Oper} {anc : List (List Nat)} (hanc : ancCheck ops anc = true) {n0 : Nat} {K : Kt} {E0 : Env} {n1 : Nat} (hn1 : n1 ≤ n0) : ∀ (N : Nat) (l : List (LOp × FP)) (listed : Array Bool) (done : List Nat), l.length = N →
    listed.size = ops.size → (∀ i, i < ops.size → (listed.getD i true = true ↔ ∀ p ∈ l, p.1.i ≠ i)) → (∀ p ∈ l, p.1.i < ops.size) → (l.map (·.1.i)).Nodup → (∀ i, listed.getD i false = true → ∀ k ∈ anc.getD i [], listed.getD k false = true) →
    (∀ k ∈ done, listed.getD k false = true) → topo ops done l = true → pairsOk anc l = true → (∀ p ∈ l, Fits C ops p.1) →
    ∀ (E : Env) (ts : List AV) (σ : Heap) (a : Act) (w : World), Ext E0 E → (∀ id b, E.ι id = some b → E0.ι id = some b ∨ n1 ≤ id) → n0 + ops.size ≤ σ.next → Rel W0 E (Free n0 (l.map (·.1)) σ.next) σ.obj w → Reps E ts a.tmps.toList → a.defers = [] →
      evD P W0 n0 (n0 + ops.size) l (fun ts h => ∀ m, n0 + ops.size ≤ m → (∀ i x, h i = some x → i < m) → K .normal ts ⟨m, h⟩) ts σ.obj → wpAny P .any ops (conc W0 E0 n1 K) N listed a w := by
  intro N
  induction N with
  | zero =>
    intro l listed done hN hsz hli hlt hnd hcl hdone htop hpairs hfit E ts σ a w hx hnew hσ r ht hdf h
    have : l = [] := List.eq_nil_of_length_eq_zero hN
    subst this
    refine ⟨?_, E, σ, hx, hnew, by omega, r.used fun i hi => hi.1, hdf, ts, .normal, ht, trivial, h σ.next hσ (fun i x e => by obtain ⟨b, hb, _⟩ := r.objs i x e; exact (r.ids i b hb).1)⟩
    unfold Region.ready
    rw [List.filter_eq_nil_iff]
    intro i hi
    have := (hli i (by simpa using hi)).2 (by simp)
    simp [this]
  | succ N ih =>
    intro l listed done hN hsz hli hlt hnd hcl hdone htop hpairs hfit E ts σ a w hx hnew hσ r ht hdf h
    refine ⟨fun hemp => ?_, fun i hi => ?_⟩
    · -- the first of the own order is ready
      exfalso
      cases l with
      | nil => simp at hN
      | cons p l' =>
        have hp := hlt p (by simp)
        simp only [topo, Bool.and_eq_true] at htop
        have hmem : p.1.i ∈ Region.ready .any ops listed := by
          unfold Region.ready
          rw [List.mem_filter]
          refine ⟨by simpa using hp, ?_⟩
          have hnl : ¬ listed.getD p.1.i true = true := fun hh => (hli _ hp).1 hh p (by simp) rfl
          have hnl' : listed.getD p.1.i true = false := by simpa using hnl
          cases ho : ops[p.1.i]? with
          | none => rw [ho] at htop; simp at htop
          | some o =>
            rw [ho] at htop
            simp only [hnl', Bool.not_false, Bool.true_and, Option.map_some, Option.getD_some]
            rw [← Array.all_toList, List.all_eq_true]
            intro e he
            simp only [Bool.or_eq_true, Bool.not_eq_true']
            by_cases hb : Region.binds .any e = true
            · right
              have h0 := htop.1
              simp only [List.all_eq_true, List.contains_eq_mem, decide_eq_true_eq] at h0
              have : e.on ∈ done := h0 e.on (by simp only [depsOf, List.mem_map, List.mem_filter]; exact ⟨e, ⟨he, hb⟩, rfl⟩)
              exact hdone _ this
            · left; simpa using hb
        rw [hemp] at hmem
        simp at hmem
    · -- whichever is ready may be taken
      unfold Region.ready at hi
      rw [List.mem_filter] at hi
      obtain ⟨hir, hi2⟩ := hi
      have hin : i < ops.size := by simpa using hir
      simp only [Bool.and_eq_true, Bool.not_eq_true'] at hi2
      obtain ⟨hnl, hdeps⟩ := hi2
      have hmem : ∃ q ∈ l, q.1.i = i := by
        apply Classical.byContradiction
        intro hno
        have := (hli i hin).2 (fun p hp he => hno ⟨p, hp, he⟩)
        rw [hnl] at this; cases this
      obtain ⟨q, hq, hqi⟩ := hmem
      obtain ⟨o, bx, ho, hcl', hdst, hgd⟩ := hfit q hq
      rw [hqi] at ho
      rw [ho] at hdeps
      simp only [Option.map_some, Option.getD_some] at hdeps
      rw [← Array.all_toList, List.all_eq_true] at hdeps
      have hd : ∀ k ∈ depsOf o, listed.getD k false = true := by
        intro k hk
        simp only [depsOf, List.mem_map, List.mem_filter] at hk
        obtain ⟨e, ⟨he, hb⟩, rfl⟩ := hk
        have := hdeps e he
        simp only [Bool.or_eq_true, Bool.not_eq_true'] at this
        rcases this with h | h
        · rw [hb] at h; cases h
        · exact h
      have hancl : ∀ k ∈ anc.getD i [], listed.getD k false = true := by
        intro k hk
        unfold ancCheck at hanc
        rw [List.all_eq_true] at hanc
        have h0 := hanc i (by simpa using hin)
        rw [ho] at h0
        simp only [List.all_eq_true, Bool.or_eq_true, List.contains_eq_mem, decide_eq_true_eq, List.any_eq_true] at h0
        rcases h0 k hk with h | ⟨m, hm, hkm⟩
        · exact hd k h
        · exact hcl m (hd m hm) k hkm
      obtain ⟨pre, post, hl⟩ := List.append_of_mem hq
      subst hl
      obtain ⟨hp1, hp2⟩ := pairs_erase pre hpairs
      have hsw : ∀ p ∈ pre, swapOk p q = true := by
        intro p hp
        rcases hp2 p hp with h | h
        · exfalso
          rw [hqi] at h
          have h1 := hancl _ h
          have hpl := hlt p (by simp [hp])
          have h2 : listed.getD p.1.i true = true := by
            have q : p.1.i < listed.size := by omega
            simpa [Array.getD_eq_getD_getElem?, Array.getElem?_eq_getElem q] using h1
          exact (hli _ hpl).1 h2 p (by simp [hp]) rfl
        · exact h
      have hfront := evD_front pre post hsw ts σ.obj h
      have hidx : (pre ++ q :: post).map (·.1.i) = pre.map (·.1.i) ++ q.1.i :: post.map (·.1.i) := by simp
      have hnd2 : ((pre ++ post).map (·.1.i)).Nodup ∧ ∀ p ∈ pre ++ post, p.1.i ≠ q.1.i := by
        rw [hidx, List.nodup_append] at hnd
        obtain ⟨n1', n2', n3⟩ := hnd
        rw [List.nodup_cons] at n2'
        refine ⟨?_, fun p hp he => ?_⟩
        · rw [List.map_append, List.nodup_append]
          exact ⟨n1', n2'.2, fun x hx y hy => n3 x hx y (List.mem_cons_of_mem _ hy)⟩
        · rcases List.mem_append.1 hp with hp | hp
          · exact n3 p.1.i (List.mem_map.2 ⟨p, hp, rfl⟩) q.1.i (List.mem_cons_self ..) he
          · exact n2'.1 (List.mem_map.2 ⟨p, hp, he⟩)
      have hsub : ∀ p ∈ pre ++ post, p ∈ pre ++ q :: post := fun p hp => by
        rcases List.mem_append.1 hp with h | h
        · exact List.mem_append_left _ h
        · exact List.mem_append_right _ (List.mem_cons_of_mem _ h)
      have hlistT : ∀ k, (listed.setIfInBounds i true).getD k true = if k = i then true else listed.getD k true := by
        intro k
        simp only [Array.getD_eq_getD_getElem?, Array.getElem?_setIfInBounds]
        by_cases hk : i = k
        · subst hk; simp [hsz, hin]
        · simp [hk, Ne.symm hk]
      have hlistF : ∀ k, (listed.setIfInBounds i true).getD k false = if k = i then true else listed.getD k false := by
        intro k
        simp only [Array.getD_eq_getD_getElem?, Array.getElem?_setIfInBounds]
        by_cases hk : i = k
        · subst hk; simp [hsz, hin]
        · simp [hk, Ne.symm hk]
      have next := ih (pre ++ post) (listed.setIfInBounds i true) (q.1.i :: done) (by simp at hN ⊢; omega) (by simpa using hsz)
        (fun k hk => by
          rw [hlistT]
          by_cases hki : k = i
          · subst hki
            simp only [if_true, true_iff]
            intro p hp he; exact hnd2.2 p hp (by rw [he, hqi])
          · rw [if_neg hki, hli k hk]
            constructor
            · intro hh p hp; exact hh p (hsub p hp)
            · intro hh p hp he
              simp only [List.mem_append, List.mem_cons] at hp
              rcases hp with hp | rfl | hp
              · exact hh p (List.mem_append_left _ hp) he
              · exact hki (by rw [← he, hqi])
              · exact hh p (List.mem_append_right _ hp) he)
        (fun p hp => hlt p (hsub p hp)) hnd2.1
        (fun k hk x hxk => by
          rw [hlistF] at hk ⊢
          split
          · rfl
          · by_cases hki : k = i
            · subst hki; exact hancl x hxk
            · rw [if_neg hki] at hk; exact hcl k hk x hxk)
        (fun k hk => by
          rw [hlistF]
          split
          · rfl
          · rename_i hki
            rcases List.mem_cons.1 hk with rfl | hk
            · exact absurd hqi hki
            · exact hdone k hk)
        (topo_erase pre done htop) hp1 (fun p hp => hfit p (hsub p hp))
      have hskip : evD P W0 n0 (n0 + ops.size) (pre ++ post) (fun ts h => ∀ m, n0 + ops.size ≤ m → (∀ i x, h i = some x → i < m) → K .normal ts ⟨m, h⟩) (setD ts q.1.dst .undef) σ.obj → wpAny P .any ops (conc W0 E0 n1 K) N (listed.setIfInBounds i true) (a.put o.dst undef) w := fun hh =>
        next E _ σ _ w hx hnew hσ (r.used fun x hx => ⟨hx.1, fun p hp => hx.2 p (by
          simp only [List.mem_map] at hp ⊢
          obtain ⟨y, hy, rfl⟩ := hp
          exact ⟨y, hsub y hy, rfl⟩)⟩) (put_reps ht .undef o.dst) (by cases o.dst <;> exact hdf) (hdst ▸ hh)
      have hdo : evDOp P W0 n0 (n0 + ops.size) q.1 q.2 (evD P W0 n0 (n0 + ops.size) (pre ++ post) (fun ts h => ∀ m, n0 + ops.size ≤ m → (∀ i x, h i = some x → i < m) → K .normal ts ⟨m, h⟩)) ts σ.obj → o.wp P a w (wpAny P .any ops (conc W0 E0 n1 K) N (listed.setIfInBounds i true)) (conc W0 E0 n1 K) := fun hh => by
        have hrel : Rel W0 E (Free n0 (q.1 :: (pre ++ post).map (·.1)) σ.next) σ.obj w := r.used fun x hx => ⟨hx.1, fun p hp => by
          refine hx.2 p ?_
          simp only [List.mem_cons, List.mem_map] at hp ⊢
          rcases hp with rfl | ⟨y, hy, rfl⟩
          · exact ⟨q, by simp, rfl⟩
          · exact ⟨y, hsub y hy, rfl⟩⟩
        refine evOp_sound hC hcl' hdst (n0 := n0) (n := ops.size) (by rw [hqi]; exact hin) (l := (pre ++ post).map (·.1)) (fun p hp => ?_) (fun p hp => ?_) hn1 (fun E ts σ a w h1 h2 h3 h4 h5 h6 h7 => next E ts σ a w h1 h2 h3 h4 h5 h6 h7) hx hnew hσ hrel ht hdf (evOp_of_D hσ (fun i x e => by obtain ⟨b, hb, _⟩ := r.objs i x e; exact (r.ids i b hb).1) hh)
        · simp only [List.mem_map] at hp; obtain ⟨y, hy, rfl⟩ := hp; exact hlt y (hsub y hy)
        · simp only [List.mem_map] at hp; obtain ⟨y, hy, rfl⟩ := hp; exact hnd2.2 y hy
      unfold wpOp
      rw [ho]
      dsimp only
      unfold evDG at hfront
      unfold compG at hgd
      split at hgd
      · rename_i hgu
        simp only [Option.some.injEq] at hgd
        rw [← hgd] at hfront
        have hwt : Region.wanted o (yielded ops a.tmps) = true := by simp [Region.wanted, hgu]
        rw [if_pos hwt]
        exact .inl (hdo hfront)
      · rename_i j want hgu
        split at hgd
        · rename_i d hdd
          simp only [Option.some.injEq] at hgd
          rw [← hgd] at hfront
          dsimp only at hfront
          have rd := compA_rep (x := .tmp d) (y := .t d) ht rfl
          simp only [Arg.ev] at rd
          generalize hD : ts.getD d .undef = D at hfront rd
          by_cases hu : D = .undef
          · subst hu
            have hy : yielded ops a.tmps j = none := undef_yields hdd rd
            have hwt : ¬ Region.wanted o (yielded ops a.tmps) = true := by simp [Region.wanted, hgu, hy]
            rw [if_neg hwt]
            refine hskip ?_
            cases want <;> simpa [guardV] using hfront
          rw [guardV_ne hu] at hfront
          split at hfront
          · rename_i b
            have hb := rd.bool_inv
            have hy : yielded ops a.tmps j = some b := by
              simp only [yielded, hdd, Option.bind_some]
              have : a.tmps.getD d undef = .bool b := hb
              have hlt2 : d < a.tmps.size := by
                rcases Nat.lt_or_ge d a.tmps.size with q | q
                · exact q
                · simp [Array.getD_eq_getD_getElem?, Array.getElem?_eq_none q, undef] at this
              have : a.tmps[d]? = some (.bool b) := by
                rw [Array.getElem?_eq_getElem hlt2]
                simpa [Array.getD_eq_getD_getElem?, Array.getElem?_eq_getElem hlt2] using this
              rw [this]
            by_cases hbw : b = want
            · have hwt : Region.wanted o (yielded ops a.tmps) = true := by simp [Region.wanted, hgu, hy, hbw]
              rw [if_pos hwt]
              rw [if_pos hbw] at hfront
              exact .inl (hdo hfront)
            · have hwt : ¬ Region.wanted o (yielded ops a.tmps) = true := by simp [Region.wanted, hgu, hy, hbw]
              rw [if_neg hwt]
              rw [if_neg hbw] at hfront
              exact hskip hfront
          · exact hfront.elim
        · cases hgd

theorem compOps_fits {hs : Hints} {id : Nat} {ops : Array Oper} : ∀ (idx : List Nat) (l : List LOp), compOps C hs id ops idx = some l → l.map (·.i) = idx ∧ ∀ p ∈ l, Fits C ops p
  | [], l, h => by cases h; exact ⟨rfl, fun p hp => by simp at hp⟩
  | i :: r, l, h => by
    unfold compOps at h
    split at h
    · cases h
    · rename_i o ho
      split at h
      · rename_i g x l' hg hx hl'
        cases h
        obtain ⟨h1, h2⟩ := compOps_fits r l' hl'
        refine ⟨by simp [h1], fun p hp => ?_⟩
        rcases List.mem_cons.1 hp with rfl | hp
        · exact ⟨o, _, ho, .inl hx, rfl, hg⟩
        · exact h2 p hp
      · cases h

theorem impure_i {hs : Hints} {id : Nat} (o : LOp) : (impure hs id o).i = o.i := by
  unfold impure; split
  · split <;> rfl
  · rfl
theorem impure_fits {hs : Hints} {id : Nat} {ops : Array Oper} {o : LOp} (h : Fits C ops o) : Fits C ops (impure hs id o) := by
  obtain ⟨p, bx, h1, h2, h3, h4⟩ := h
  refine ⟨p, bx, by rw [impure_i]; exact h1, ?_, ?_, ?_⟩
  · unfold impure
    split
    · rename_i f l hop
      split
      · rcases h2 with h2 | ⟨f', l', h2, e⟩
        · exact .inr ⟨f, l, by rw [h2, hop], rfl⟩
        · rw [hop] at e; cases e
      · exact h2
    · exact h2
  · unfold impure; split
    · split <;> exact h3
    · exact h3
  · unfold impure; split
    · split <;> exact h4
    · exact h4

theorem eager_mem {ops : Array Oper} : ∀ (n : Nat) (done : List Nat) (l : List (LOp × FP)), ∀ p ∈ eager ops n done l, p ∈ l
  | 0, _, _, p, h => by simp [eager] at h
  | n + 1, done, l, p, h => by
    unfold eager at h
    dsimp only at h
    split at h
    · simp at h
    · rename_i q hq
      have hfold : ∀ (xs : List (LOp × FP)) (b : Option (LOp × FP)) q, xs.foldl (fun (b : Option (LOp × FP)) p => match b with | none => some p | some q => if prio p.1 < prio q.1 then some p else some q) b = some q → q ∈ xs ∨ b = some q := by
        intro xs
        induction xs with
        | nil => intro b q h; exact .inr h
        | cons x xs ih =>
          intro b q h
          rw [List.foldl_cons] at h
          rcases ih _ _ h with h | h
          · exact .inl (List.mem_cons_of_mem _ h)
          · cases b with
            | none => simp at h; exact .inl (by simp [h])
            | some y =>
              simp only at h
              split at h
              · simp at h; exact .inl (by simp [h])
              · exact .inr h
      rcases List.mem_cons.1 h with rfl | h
      · rcases hfold _ _ _ hq with h | h
        · exact (List.mem_filter.1 h).1
        · cases h
      · exact (List.mem_filter.1 (eager_mem n _ _ p h)).1
theorem eager_nodup {ops : Array Oper} : ∀ (n : Nat) (done : List Nat) (l : List (LOp × FP)), ((eager ops n done l).map (·.1.i)).Nodup
  | 0, _, _ => by simp [eager]
  | n + 1, done, l => by
    unfold eager
    dsimp only
    split
    · simp
    · rename_i q hq
      rw [List.map_cons, List.nodup_cons]
      refine ⟨fun hm => ?_, eager_nodup n _ _⟩
      obtain ⟨p, hp, he⟩ := List.mem_map.1 hm
      have := (List.mem_filter.1 (eager_mem n _ _ p hp)).2
      simp [he] at this

theorem compD_sound (hC : C.Ok P) {hs : Hints} {id : Nat} {ops : Array Oper} {s : S} (hc : compD C hs id ops = some s) {K : Kt} {E : Env} {ts : List AV} {σ : Heap} {a : Act} {w : World} (r : Rel W0 E (fun i => i < σ.next) σ.obj w) (ht : Reps E ts a.tmps.toList) (hdf : a.defers = [])
    (h : ev P W0 C hs s K ts σ) : (Code.region id ops true).wp P (conc W0 E σ.next K) a w := by
  unfold compD at hc
  split at hc
  · cases hc
  · rename_i l0 hl0
    dsimp only at hc
    split at hc
    · rename_i hch
      cases hc
      simp only [Bool.and_eq_true, beq_iff_eq] at hch
      obtain ⟨⟨⟨⟨c1, c2⟩, c3⟩, c4⟩, c5⟩ := hch
      obtain ⟨f1, f2⟩ := compOps_fits _ _ hl0
      simp only [ev] at h
      generalize heg : eager ops ops.size [] ((l0.map (impure hs id)).map fun o => (o, fpOf (orgOf (l0.map (impure hs id))) o)) = e at h c1 c3 c4 c5
      have hmem : ∀ p ∈ e, ∃ o ∈ l0, p.1 = impure hs id o := by
        intro p hp
        rw [← heg] at hp
        have := eager_mem _ _ _ p hp
        simp only [List.map_map, List.mem_map] at this
        obtain ⟨o, ho, rfl⟩ := this
        exact ⟨o, ho, rfl⟩
      have hlt : ∀ p ∈ e, p.1.i < ops.size := by
        intro p hp
        obtain ⟨o, ho, he⟩ := hmem p hp
        have : o.i ∈ l0.map (·.i) := List.mem_map.2 ⟨o, ho, rfl⟩
        rw [f1] at this
        rw [he, impure_i]; simpa using this
      have hnd : (e.map (·.1.i)).Nodup := by rw [← heg]; exact eager_nodup _ _ _
      have hall : ∀ i, i < ops.size → ∃ p ∈ e, p.1.i = i := by
        intro i hi
        rw [List.all_eq_true] at c5
        have := c5 i (by simpa using hi)
        rw [List.any_eq_true] at this
        obtain ⟨p, hp, he⟩ := this
        exact ⟨p, hp, by simpa using he⟩
      refine wp_region_any hC.mixed ?_
      have := dsound (P := P) (W0 := W0) hC (ops := ops) (anc := ancOf ops.toList) c2 (n0 := σ.next) (K := K) (E0 := E) (n1 := σ.next) (Nat.le_refl _) ops.size e (Array.replicate ops.size false) [] (by simpa using c1) (by simp)
        (fun i hi => by
          obtain ⟨p, hp, he⟩ := hall i hi
          simp [Array.getD_eq_getD_getElem?, hi]
          exact ⟨p.1, ⟨p.2, hp⟩, he⟩)
        hlt hnd
        (fun i hi => by simp [Array.getD_eq_getD_getElem?, Array.getElem?_replicate] at hi; split at hi <;> simp at hi)
        (fun k hk => by simp at hk) c3 c4 (fun p hp => by
          obtain ⟨o, ho, he⟩ := hmem p hp
          rw [he]; exact impure_fits (f2 o ho))
        E ts ⟨σ.next + ops.size, σ.obj⟩ a w.drew (.refl E) (fun _ _ e => .inl e) (Nat.le_refl _) ((r.drew).used fun i hi => ⟨Nat.lt_of_lt_of_le hi (Nat.le_add_right _ _), fun q _ he => by have h0 : i < σ.next := hi; omega⟩) ht hdf h
      exact this
    · cases hc
end
end Go.Proofs.YtgahmpfpnclefaaW.Abs
