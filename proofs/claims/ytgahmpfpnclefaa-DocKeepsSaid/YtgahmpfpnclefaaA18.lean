/- Without marks: a value told without the right to append to it; contracts in use. -/
import Derived.Test.YtgahmpfpnclefaaA17
namespace Go.Proofs.YtgahmpfpnclefaaW.Abs
open Go.RowKit
set_option linter.unusedVariables false
set_option linter.unusedSimpArgs false

mutual
def AV.bare : AV → AV
  | .agg cs => .agg (bareL cs)
  | .tup cs => .tup (bareL cs)
  | .row es _ => .row (bareLL es) none
  | .ep cells off => .ep (bareL cells) off
  | .dp es _ => .dp (bareLL es) none
  | .fn f a b => .fn f (bareL a) (bareL b)
  | .ifc t v => .ifc t v.bare
  | v => v
def bareL : List AV → List AV
  | [] => []
  | a :: r => a.bare :: bareL r
def bareLL : List (List AV) → List (List AV)
  | [] => []
  | e :: r => bareL e :: bareLL r
end

theorem bareL_eq : ∀ l : List AV, bareL l = l.map AV.bare
  | [] => by simp [bareL]
  | a :: r => by simp [bareL, bareL_eq r]
theorem bareLL_eq : ∀ l : List (List AV), bareLL l = l.map (·.map AV.bare)
  | [] => by simp [bareLL]
  | a :: r => by simp [bareLL, bareL_eq, bareLL_eq r]

theorem bare_one (a : AV) : a.bare.one = a.one := by cases a <;> simp [AV.bare, AV.one]

theorem Rep.bare {E : Env} {a : AV} {v : Value} (h : Rep E a v) : Rep E a.bare v := by
  induction h with
  | int k n => simpa [AV.bare] using Rep.int k n
  | bool b => simpa [AV.bare] using Rep.bool b
  | str l => simpa [AV.bare] using Rep.str l
  | undef => simpa [AV.bare] using Rep.undef
  | nilp => simpa [AV.bare] using Rep.nilp
  | nils => simpa [AV.bare] using Rep.nils
  | nilm => simpa [AV.bare] using Rep.nilm
  | nilf => simpa [AV.bare] using Rep.nilf
  | nili => simpa [AV.bare] using Rep.nili
  | agg hs _ ih =>
    rw [AV.bare, bareL_eq]
    refine .agg (by simpa using hs) (fun i a v ha hv => ?_)
    simp only [List.getElem?_map, Option.map_eq_some_iff] at ha
    obtain ⟨x, hx, rfl⟩ := ha
    exact ih i x v hx hv
  | tup hs _ ih =>
    rw [AV.bare, bareL_eq]
    refine .tup (by simpa using hs) (fun i a v ha hv => ?_)
    simp only [List.getElem?_map, Option.map_eq_some_iff] at ha
    obtain ⟨x, hx, rfl⟩ := ha
    exact ih i x v hx hv
  | @row es tok A blk off cap s f hA hl h1 hc hm _ ht ih =>
    rw [AV.bare, bareLL_eq]
    have hlen : es.length = (es.map (·.map AV.bare)).length := by simp
    rw [hlen]
    refine .row (s := s) f (fun hh => hA (.inl (by simpa using hh))) (fun e he => ?_) (fun e he a ha => ?_) (by simpa using hc) (fun i j e a hi hj => ?_) (fun i j e a hi hj => ?_) (fun t h => by cases h)
    · simp only [List.mem_map] at he; obtain ⟨x, hx, rfl⟩ := he; simpa using hl x hx
    · simp only [List.mem_map] at he; obtain ⟨x, hx, rfl⟩ := he
      simp only [List.mem_map] at ha; obtain ⟨y, hy, rfl⟩ := ha
      rw [bare_one]; exact h1 x hx y hy
    · simp only [List.getElem?_map, Option.map_eq_some_iff] at hi; obtain ⟨x, hx, rfl⟩ := hi
      simp only [List.getElem?_map, Option.map_eq_some_iff] at hj; obtain ⟨y, hy, rfl⟩ := hj
      exact hm i j x y hx hy
    · simp only [List.getElem?_map, Option.map_eq_some_iff] at hi; obtain ⟨x, hx, rfl⟩ := hi
      simp only [List.getElem?_map, Option.map_eq_some_iff] at hj; obtain ⟨y, hy, rfl⟩ := hj
      exact ih i j x y hx hy
  | ep f hm _ ih =>
    rw [AV.bare, bareL_eq]
    refine .ep f (fun j a hj => ?_) (fun j a hj => ?_)
    · simp only [List.getElem?_map, Option.map_eq_some_iff] at hj; obtain ⟨y, hy, rfl⟩ := hj; exact hm j y hy
    · simp only [List.getElem?_map, Option.map_eq_some_iff] at hj; obtain ⟨y, hy, rfl⟩ := hj; exact ih j y hy
  | @dp es tok A cap hne _ ih =>
    have hlen : es.length = (bareLL es).length := by simp [bareLL_eq]
    have ih' : Rep E (.row (bareLL es) none) (.slice (some A) es.length cap) := by simpa [AV.bare] using ih
    rw [hlen] at ih'
    have hg : Rep E (.dp (bareLL es) none) (.pointer (some A)) := .dp (by rw [bareLL_eq]; simpa using hne) ih'
    simpa [AV.bare] using hg
  | bp hb => simpa [AV.bare] using Rep.bp hb
  | sl hb hc ha => simpa [AV.bare] using Rep.sl hb hc ha
  | fn hs ht _ _ ih ik =>
    rw [AV.bare, bareL_eq, bareL_eq]
    refine .fn (by simpa using hs) (by simpa using ht) (fun i a v ha hv => ?_) (fun i a v ha hv => ?_)
    · simp only [List.getElem?_map, Option.map_eq_some_iff] at ha; obtain ⟨x, hx, rfl⟩ := ha; exact ih i x v hx hv
    · simp only [List.getElem?_map, Option.map_eq_some_iff] at ha; obtain ⟨x, hx, rfl⟩ := ha; exact ik i x v hx hv
  | mp hb => simpa [AV.bare] using Rep.mp hb
  | ifc _ ih => rw [AV.bare]; exact .ifc ih

theorem Reps.bare {E : Env} {as : List AV} {vs : List Value} (h : Reps E as vs) : Reps E (bareL as) vs := by
  rw [bareL_eq]
  refine ⟨by simpa using h.1, fun i a v ha hv => ?_⟩
  simp only [List.getElem?_map, Option.map_eq_some_iff] at ha; obtain ⟨x, hx, rfl⟩ := ha
  exact (h.2 i x v hx hv).bare

section
variable {P : Program} {W0 : World}

theorem evOp_mono {n0 : Nat} {o : LOp} {nx nx' : List AV → Heap → Prop} {K K' : Kt} (hn : ∀ ts σ, nx ts σ → nx' ts σ) (hk : ∀ e ts σ, K e ts σ → K' e ts σ) {ts : List AV} {σ : Heap} (h : evOp P W0 n0 o nx K ts σ) : evOp P W0 n0 o nx' K' ts σ := by
  unfold evOp at h ⊢
  cases hop : o.op with
  | s s => rw [hop] at h; exact ⟨h.1, hn _ _ h.2⟩
  | call f l => rw [hop] at h; exact ACalls.mono h fun o σ' _ ho => by cases o with | ret v => exact hn _ _ ho | pan v => exact hk _ _ _ ho
  | icall f l => rw [hop] at h; exact ACalls.mono h fun o σ' _ ho => by cases o with | ret v => exact hn _ _ ho | pan v => exact hk _ _ _ ho
  | callv f l =>
    rw [hop] at h
    dsimp only at h ⊢
    split at h
    · exact ACalls.mono h fun o σ' _ ho => by cases o with | ret v => exact hn _ _ ho | pan v => exact hk _ _ _ ho
    · exact h
  | panic x =>
    rw [hop] at h
    dsimp only at h ⊢
    split at h
    · exact hk _ _ _ h
    · exact h
theorem evOps_mono {n0 : Nat} {K K' : Kt} (hk : ∀ e ts σ, K e ts σ → K' e ts σ) : ∀ (l : List LOp) (ts : List AV) (σ : Heap), evOps P W0 n0 l K ts σ → evOps P W0 n0 l K' ts σ
  | [], ts, σ, h => hk _ _ _ h
  | o :: r, ts, σ, h => by
    unfold evOps at h ⊢
    have ih := evOps_mono (n0 := n0) hk r
    cases hg : o.g with
    | none => rw [hg] at h; exact evOp_mono ih hk h
    | some gw =>
      obtain ⟨g, w⟩ := gw
      rw [hg] at h
      dsimp only at h ⊢
      cases hG : guardV (ts.getD g .undef) w <;> (rw [hG] at h) <;> try exact h.elim
      dsimp only at h ⊢
      split
      · rename_i hb; rw [if_pos hb] at h; exact evOp_mono ih hk h
      · rename_i hb; rw [if_neg hb] at h; exact ih _ _ h
theorem evD_mono {n0 m : Nat} {K K' : List AV → Hp → Prop} (hk : ∀ ts h, K ts h → K' ts h) : ∀ (l : List (LOp × FP)) (ts : List AV) (h : Hp), evD P W0 n0 m l K ts h → evD P W0 n0 m l K' ts h
  | [], ts, h, hh => hk _ _ hh
  | (o, fp) :: r, ts, h, hh => evDG_mono (fun ts h hh => evD_mono hk r ts h hh) hh
theorem aloop_mono {C : Ctx} {hs : Hints} {s : S} {K K' : Kt} (hk : ∀ e ts σ, K e ts σ → K' e ts σ) {ts : List AV} {σ : Heap} (h : ALoop P W0 C hs s K ts σ) : ALoop P W0 C hs s K' ts σ :=
  fun c hc E a w r ht hd => loopFrom_mono (h c hc E a w r ht hd) fun e a w hq => by
    obtain ⟨E', σ', x1, x2, x3, x4, hd', ts', x, ht', hx, h⟩ := hq
    exact ⟨E', σ', x1, x2, x3, x4, hd', ts', x, ht', hx, hk _ _ _ h⟩
theorem ev_mono {C : Ctx} {hs : Hints} : ∀ {s : S} {K K' : Kt} {ts : List AV} {σ : Heap}, ev P W0 C hs s K ts σ → (∀ e ts σ, K e ts σ → K' e ts σ) → ev P W0 C hs s K' ts σ := by
  intro s
  induction s with
  | skip => intro K K' ts σ h hk; exact hk _ _ _ h
  | ops n l => intro K K' ts σ h hk; exact evOps_mono hk l _ _ h
  | dops n l => intro K K' ts σ h hk; exact evD_mono (fun ts h hh m hm hbd => hk _ _ _ (hh m hm hbd)) l _ _ h
  | seq a b iha ihb =>
    intro K K' ts σ h hk
    exact iha h fun e ts σ hh => by cases e with | normal => exact ihb hh hk | exit i => exact hk _ _ _ hh | ret => exact hk _ _ _ hh | panic v => exact hk _ _ _ hh
  | cond c a b iha ihb =>
    intro K K' ts σ h hk
    simp only [ev] at h ⊢
    cases hc : c.ev ts <;> (rw [hc] at h) <;> try exact h.elim
    dsimp only at h ⊢
    split
    · rename_i hb; rw [if_pos hb] at h; exact iha h hk
    · rename_i hb; rw [if_neg hb] at h; exact ihb h hk
  | block id a iha =>
    intro K K' ts σ h hk
    exact iha h fun e ts σ hh => by
      cases e with
      | normal => exact hk _ _ _ hh
      | exit i => dsimp only at hh ⊢; split at hh <;> (rename_i hi; simp only [hi, if_true, if_false]; exact hk _ _ _ hh)
      | ret => exact hk _ _ _ hh
      | panic v => exact hk _ _ _ hh
  | loop a _ => intro K K' ts σ h hk; exact aloop_mono hk h
  | exit id => intro K K' ts σ h hk; exact hk _ _ _ h
  | ret => intro K K' ts σ h hk; exact hk _ _ _ h
  | refuse => intro K K' ts σ h hk; exact h.elim

theorem ACalls.args {f : FuncId} {args : List AV} {σ : Heap} {R : AOut → Heap → Prop} (h : ACalls P W0 f (bareL args) σ R) : ACalls P W0 f args σ R :=
  ⟨h.1, fun E w vs r hv => h.2 E w vs r hv.bare⟩

def AOut.bare : AOut → AOut
  | .ret v => .ret v.bare
  | .pan v => .pan v.bare

theorem ACalls.bare {f : FuncId} {args : List AV} {σ : Heap} {R : AOut → Heap → Prop} (h : ACalls P W0 f args σ fun o σ' => R o.bare σ') : ACalls P W0 f args σ R :=
  ⟨h.1, fun E w vs r hv => (h.2 E w vs r hv).mono fun e w' hp => by
    obtain ⟨E', σ', x1, x2, x3, x4, out, ho, hR⟩ := hp
    refine ⟨E', σ', x1, x2, x3, x4, out.bare, ?_, hR⟩
    cases out <;> cases e <;> first | exact ho.elim | skip
    · exact Rep.bare ho
    · obtain ⟨v, rfl, hv⟩ := ho; exact ⟨v, rfl, hv.bare⟩⟩

/-- a call that only reckons: it yields r, the heap is as it was -/
theorem PCall.use {f : FuncId} {args : List AV} {r : AV} {σ : Heap} {R : AOut → Heap → Prop} (h : PCall P W0 f (bareL args) r) (hR : ∀ m, σ.next ≤ m → R (.ret r) ⟨m, σ.obj⟩) : ACalls P W0 f args σ R :=
  ACalls.args ((h σ).mono fun o σ' hn ⟨e1, e2⟩ => by
    subst e1
    have := hR σ'.next hn
    rw [← e2] at this; exact this)
theorem PCall.args {f : FuncId} {args : List AV} {r : AV} (h : PCall P W0 f (bareL args) r) : PCall P W0 f args r := fun σ => ACalls.args (h σ)

/-- what was laid since is forgotten -/
def Keeps (σ : Heap) (h : Hp) : Prop := ∀ i x, σ.obj i = some x → h i = some x

theorem Keeps.refl (σ : Heap) : Keeps σ σ.obj := fun _ _ h => h
theorem Keeps.upd {σ : Heap} {h : Hp} (k : Keeps σ h) (hf : ∀ i, σ.next ≤ i → σ.obj i = none) {id : Nat} (hid : σ.next ≤ id) (x : Option AObj) : Keeps σ (upd h id x) := by
  intro i y hi
  have : i ≠ id := fun e => by rw [e, hf id hid] at hi; cases hi
  simp only [Abs.upd, this, if_false]; exact k i y hi

/-- a function whose light code comes to r without a trace is a call that only reckons -/
theorem pcall {C : Ctx} {hs : Hints} (hC : C.Ok P) {f : FuncId} {fn : Func} {c : Code} {s : S} {rs : List RV} {args : List AV} {r : AV}
    (hf : P.funcs[f]? = some fn) (hb : fn.body = some c) (hE : Enters P f) (hc : comp C hs c = some s) (hr : compRVs C fn.results.toList = some rs)
    (h : ∀ σ : Heap, (∀ i, σ.next ≤ i → σ.obj i = none) → ev P W0 C hs s (fun e ts σ' => match e with
      | .normal | .ret => resOk ts σ'.obj rs ∧ (resVal ts σ'.obj rs).bare = r ∧ Keeps σ σ'.obj
      | _ => False) (args ++ List.replicate (fn.ntmps - args.length) .undef) σ) : PCall P W0 f args r := by
  intro σ
  refine ACalls.bare (ACalls.drop ?_)
  refine acalls hC hf hb hE hc hr (R := fun o σ' => ∃ obj, (∀ i x, obj i = some x → σ'.obj i = some x) ∧ o.bare = .ret r ∧ obj = σ.obj) (fun hfr => ?_)
  refine ev_mono (h σ hfr) ?_
  intro e ts σ' hh
  cases e with
  | normal => exact ⟨hh.1, σ.obj, hh.2.2, by rw [← hh.2.1]; rfl, rfl⟩
  | ret => exact ⟨hh.1, σ.obj, hh.2.2, by rw [← hh.2.1]; rfl, rfl⟩
  | exit i => exact hh.elim
  | panic v => exact hh.elim
end
end Go.Proofs.YtgahmpfpnclefaaW.Abs
