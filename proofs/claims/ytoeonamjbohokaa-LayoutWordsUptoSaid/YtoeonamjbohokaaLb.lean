import Derived.Test.YtoeonamjbohokaaXRep
import Derived.Test.YtoeonamjbohokaaA24
import Derived.Test.YtoeonamjbohokaaLa
/- strings.Repeat. -/
namespace Go.Proofs.Ytoeonamjbohokaa.Lt
open Go.Proofs.YtoeonamjbohokaaW.Abs Go
set_option maxRecDepth 100000
set_option linter.unusedSimpArgs false
set_option linter.unusedVariables false
variable {W0 : World}

theorem repExtra : Builder.Extra Try.prog Try.lays105_ren where
  sizeBuilder := by kernel_rfl
  liesBuilder := by kernel_rfl
  t5 := Try.lays105.t5
  a5 := Try.lays105.a5
  z5 := Try.lays105.z5
  v5 := Try.lays105.v5
  infoByte := by kernel_rfl
  cellsByte := by kernel_rfl
  sizeByte := by kernel_rfl
  neB5 := by decide
theorem repF : Try.lays105_ren.f 105 = 39 := by kernel_rfl

theorem repeat_spec (c : Nat) (hc : c ≤ 1000000) : PCall Try.prog W0 39 [.str [9], .int .i64 c] (.str (List.replicate c 9)) := by
  refine PCall.of_calls (enters_of (c := Try.f39.body.getD .skip) Try.func39 (by kernel_rfl) (by kernel_rfl)) (fun E w vs σ hr hv => ?_)
  have h := Any.strings_Repeat Try.lays105 repExtra ⟨#[9]⟩ c w (by omega) (by show 1 * c ≤ _; omega)
  rw [repF] at h
  have hvs : vs = #[.string ⟨#[9]⟩, .int .i64 c] := by
    obtain ⟨vl⟩ := vs
    match vl, hv with
    | [], hv => exact absurd hv.1 (by simp)
    | [a], hv => exact absurd hv.1 (by simp)
    | a :: b :: d :: r, hv => exact absurd hv.1 (by simp)
    | [a, b], hv =>
      have h1 := hv.2 0 _ a rfl rfl
      have h2 := hv.2 1 _ b rfl rfl
      cases h1; cases h2; rfl
  subst hvs
  refine h.mono ?_
  rintro e w' ⟨rfl, hb⟩
  refine ⟨_, rfl, ?_, hb⟩
  have e1 : Go.Lib.repeatL (ByteArray.mk #[9]).data.toList c = List.replicate c 9 := by
    have := Go.Lib.repeatL_replicate 9 1 c
    simpa using this
  rw [e1]; exact .str _
end Go.Proofs.Ytoeonamjbohokaa.Lt

/- A page: a text put, a break. -/
namespace Go.Proofs.Ytoeonamjbohokaa.Lt
open Go.Proofs.YtoeonamjbohokaaW.Abs Go
set_option maxRecDepth 100000
set_option maxHeartbeats 4000000
set_option linter.unusedSimpArgs false
set_option linter.unusedVariables false
variable {W0 : World}

theorem bh_put {id : Nat} {ty : TypeId} {post post' : List AV} {a a' : AV} {tok : Nat} {l : List UInt8} : upd (bh id ty post a tok l) id (some (.box ty [a' :: accV (ind l) tok :: post'])) = bh id ty post' a' tok l := by
  funext i; simp only [upd, bh]; split <;> simp_all
theorem BOk.of_bd {n m id : Nat} {ty : TypeId} {post : List AV} {a : AV} {tok : Nat} {l : List UInt8} (h : BOk n id a tok l) (hb : ∀ i x, bh id ty post a tok l i = some x → i < m) : BOk m id a tok l :=
  ⟨hb id _ (bh_id id ty post a tok l), h.ad, fun hl => ⟨hb tok _ (bh_tok h hl), (h.tk hl).2⟩⟩
def pgP (col nest tabs : Nat) : List AV := [.int .i64 col, .int .i64 nest, .int .i64 tabs]
theorem pgTy (col nest tabs : Nat) : (66, (pgP col nest tabs).length + 2) ∈ [(63, 2), (64, 2), (65, 5), (66, 5)] := by simp [pgP]

theorem put_spec {n id : Nat} {a : AV} {tok : Nat} {l : List UInt8} (hb : BOk n id a tok l) (col nest tabs : Nat) (s : List UInt8) (hl : l.length + tabs + s.length ≤ 140737488355328) (ht : tabs ≤ 1000000) (hc : col + s.length ≤ 140737488355328) (hn : nest ≤ 140737488355328) :
    HCalls Try.prog W0 31 [.bp id 0 0, .str s] ⟨n, bh id 66 (pgP col nest tabs) a tok l⟩ fun o τ' => o = .ret (.tup []) ∧ ∃ tok', BOk τ'.next id (.bp id 0 0) tok' (l ++ List.replicate tabs 9 ++ s) ∧ τ'.obj = bh id 66 (pgP (col + width s) nest 0) (.bp id 0 0) tok' (l ++ List.replicate tabs 9 ++ s) := by
  refine hcalls cok Try.func31 F31d F31e F31c F31w F31r ?_
  refine ev2I_intro ?_
  have hid := hb.lt
  have hws := width_le s
  simp (disch := first | omega | (simp only [List.length_set]; omega)) [F31s, pgP, hid]
  refine pcallI_pure' (repeat_spec tabs (by omega)) rfl ?_
  simp (disch := first | omega | (simp only [List.length_set]; omega)) [hid]
  refine ihcallI_use (fun m' hm' hbd => writeString_spec (hb.mono (by omega)) (pgTy col nest tabs) (List.replicate tabs 9) (by simp; omega)) (by simp) (fun o τ' hQ => ?_)
  obtain ⟨rfl, tok', hb', hτ'⟩ := hQ
  simp (disch := first | omega | (simp only [List.length_set]; omega)) [hτ', pgP]
  intro m hm hbd
  have hb2 := hb'.of_bd hbd
  have hid2 := hb2.lt
  simp (disch := first | omega | (simp only [List.length_set]; omega)) [bh_put]
  refine hcallI_use (writeString_spec (hb2.mono (by omega)) (pgTy col nest 0) s (by simp; omega)) (by simp) (fun o τ' hn hQ => ?_)
  obtain ⟨rfl, tok2, hb3, hτ3⟩ := hQ
  have hid3 := hb3.lt
  simp (disch := first | omega | (simp only [List.length_set]; omega)) [hτ3, pgP, hid3]
  refine pcallI_pure' (width_spec s (by omega)) rfl ?_
  simp (disch := first | omega | (simp only [List.length_set]; omega)) [hτ3, hid3, bh_put, wrap_id]
  intro m2 hm2
  refine ⟨tok2, ?_, by simp [pgP]⟩
  rw [← List.append_assoc]; exact hb3.mono (by omega)
theorem newline_spec {n id : Nat} {a : AV} {tok : Nat} {l : List UInt8} (hb : BOk n id a tok l) (col nest tabs : Nat) (hl : l.length + 1 ≤ 140737488355328) (hn : nest ≤ 1000000) :
    HCalls Try.prog W0 32 [.bp id 0 0] ⟨n, bh id 66 (pgP col nest tabs) a tok l⟩ fun o τ' => o = .ret (.tup []) ∧ ∃ tok', BOk τ'.next id (.bp id 0 0) tok' (l ++ [10]) ∧ τ'.obj = bh id 66 (pgP (4 * nest) nest nest) (.bp id 0 0) tok' (l ++ [10]) := by
  refine hcalls cok Try.func32 F32d F32e F32c F32w F32r ?_
  refine ev2I_intro ?_
  have hid := hb.lt
  simp (disch := first | omega | (simp only [List.length_set]; omega)) [F32s]
  refine hcallI_use (writeByte_spec (hb.mono (by omega)) (pgTy col nest tabs) 10 (by omega)) (by simp) (fun o τ' hn hQ => ?_)
  obtain ⟨rfl, tok2, hb3, hτ3⟩ := hQ
  have hid3 := hb3.lt
  simp (disch := first | omega | (simp only [List.length_set]; omega)) [hτ3, pgP, hid3, bh_put, wrap_id]
  intro m2 hm2
  exact ⟨tok2, hb3.mono (by omega), rfl⟩
end Go.Proofs.Ytoeonamjbohokaa.Lt

/- What a page becomes, in plain Lean. -/
namespace Go.Proofs.Ytoeonamjbohokaa.Lt
open Go.Proofs.YtoeonamjbohokaaW.Abs Go
set_option maxRecDepth 100000
set_option maxHeartbeats 2000000
set_option linter.unusedSimpArgs false
set_option linter.unusedVariables false

structure Pg where
  s : List UInt8
  col : Nat
  nest : Nat
  tabs : Nat
def Pg.put (p : Pg) (t : List UInt8) : Pg := ⟨p.s ++ List.replicate p.tabs 9 ++ t, p.col + width t, p.nest, 0⟩
def Pg.nl (p : Pg) : Pg := ⟨p.s ++ [10], 4 * p.nest, p.nest, p.nest⟩
/-- from a group's beginning to its end -/
def scan1 : List Pc → Nat → Nat → Option (Nat × List Pc)
  | [], d, n => some (n, [])
  | p :: r, d, n => if p.k = 4 then none else if stp p.k d = 0 then some (n + fw p, r) else scan1 r (stp p.k d) (n + fw p)
def fitsAt (l : List Pc) (col : Nat) (w : Int) : Bool := match scan1 l 0 col with
  | none => false
  | some (n, r) => decide ((n + tailS r : Int) ≤ w)
theorem scan_mend : ∀ (r : List Pc) (d n m : Nat), (1 ≤ d ∨ ∃ p r', r = p :: r' ∧ p.k = 7) → mend r d = some m →
    scan1 r d n = (if hardS (r.take m) = 0 then some (n + flatS (r.take m), r.drop (m + 1)) else none) ∧ tailS (r.drop m) = tailS (r.drop (m + 1))
  | [], d, n, m, _, h => by simp [mend] at h
  | p :: r, d, n, m, hd, h => by
    rw [mend] at h
    rw [scan1]
    by_cases hs : stp p.k d = 0
    · rw [if_pos hs] at h
      injection h with h; subst h
      have h8 : p.k = 8 := by
        unfold stp at hs
        split at hs
        · omega
        · rename_i h7
          split at hs
          · assumption
          · rcases hd with hd | ⟨p', r', e, h'⟩
            · omega
            · injection e with e1 e2; subst e1; exact absurd h' h7
      rw [if_neg (by omega), if_pos hs]
      simp [hardS, flatS, fw, h8, tailS]
    · rw [if_neg hs] at h
      cases hm : mend r (stp p.k d) with
      | none => rw [hm] at h; cases h
      | some m' =>
        rw [hm] at h
        simp at h
        subst h
        obtain ⟨ih, iht⟩ := scan_mend r (stp p.k d) (n + fw p) m' (.inl (by omega)) hm
        rw [if_neg hs]
        refine ⟨?_, by simpa using iht⟩
        simp only [List.take_succ_cons, List.drop_succ_cons, hardS, flatS]
        by_cases h4 : p.k = 4
        · rw [if_pos h4, if_pos h4, if_neg (by omega)]
        · rw [if_neg h4, if_neg h4, ih]
          simp only [Nat.zero_add, Nat.add_assoc]
def run (w : Int) : List Pc → List Bool → Pg → Pg
  | [], gs, p => p
  | x :: r, gs, p =>
    if x.k = 1 then run w r gs (p.put x.s)
    else if x.k = 2 then run w r gs (if gs.headD false = true then p.put [32] else p.nl)
    else if x.k = 3 then run w r gs (if gs.headD false = true then p else p.nl)
    else if x.k = 4 then run w r gs p.nl
    else if x.k = 5 then run w r gs { p with nest := p.nest + 1 }
    else if x.k = 6 then run w r gs { p with nest := p.nest - 1 }
    else if x.k = 7 then run w r ((gs.headD false || fitsAt (x :: r) p.col w) :: gs) p
    else if x.k = 8 then run w r gs.tail p
    else run w r gs p
/-- how a group is laid out, as the arrays tell it -/
theorem fits_arr {l : List Pc} {i m : Nat} {p : Pc} (hp : l[i]? = some p) (h7 : p.k = 7) (hm : mend (l.drop i) 0 = some m) (col : Nat) (w : Int) :
    fitsAt (l.drop i) col w = (decide (hardS (l.take (i + m)) = hardS (l.take i)) && decide ((col : Int) + flatS (l.take (i + m)) - flatS (l.take i) + tailS (l.drop (i + m)) ≤ w)) := by
  obtain ⟨h1, h2⟩ := scan_mend (l.drop i) 0 col m (.inr ⟨p, _, drop_at hp, h7⟩) hm
  have e1 : l.take (i + m) = l.take i ++ (l.drop i).take m := by rw [List.take_add]
  have e2 : l.drop (i + m) = (l.drop i).drop m := by rw [List.drop_drop]
  rw [e1, e2, hardS_app, flatS_app, h2]
  unfold fitsAt
  rw [h1]
  by_cases hh : hardS ((l.drop i).take m) = 0
  · rw [if_pos hh]
    simp only [hh, Nat.add_zero, decide_true, Bool.true_and]
    congr 1
    apply propext
    simp only [Int.natCast_add]
    constructor <;> intro h <;> omega
  · rw [if_neg hh]
    have : ¬ (hardS (l.take i) + hardS ((l.drop i).take m) = hardS (l.take i)) := by omega
    simp [this]
    exact fun h => absurd h hh
theorem mend_some : ∀ (r : List Pc) (g n d : Nat), okd r g n → 1 ≤ d → d ≤ g → ∃ m, mend r d = some m
  | [], g, n, d, h, h1, h2 => by have := h.1; omega
  | p :: r, g, n, d, h, h1, h2 => by
    obtain ⟨_, n', hk⟩ := okd_g h
    rw [mend]
    by_cases hs : stp p.k d = 0
    · exact ⟨0, by rw [if_pos hs]⟩
    · rw [if_neg hs]
      have hle : stp p.k d ≤ stp p.k g := by unfold stp; split; (· omega); split <;> omega
      obtain ⟨m, hm⟩ := mend_some r _ n' (stp p.k d) hk (by omega) hle
      exact ⟨m + 1, by rw [hm]; rfl⟩
end Go.Proofs.Ytoeonamjbohokaa.Lt

/- layout.Of. -/
namespace Go.Proofs.Ytoeonamjbohokaa.Lt
open Go.Proofs.YtoeonamjbohokaaW.Abs Go
set_option maxRecDepth 100000
set_option maxHeartbeats 4000000
set_option linter.unusedSimpArgs false
set_option linter.unusedVariables false
variable {W0 : World}

/-- a call that needs a part of the heap alone -/
theorem HCalls.part {P : Program} {f : FuncId} {args : List AV} {n : Nat} {h0 : Hp} {R : AOut → Heap → Prop} (H : HCalls P W0 f args ⟨n, h0⟩ R) {h : Hp} (sub : ∀ q x, h0 q = some x → h q = some x) :
    HCalls P W0 f args ⟨n, h⟩ fun o τ' => (∀ q x, q < n → h0 q = none → h q = some x → τ'.obj q = some x) ∧ ∃ h', R o ⟨τ'.next, h'⟩ ∧ ∀ q x, h' q = some x → τ'.obj q = some x :=
  (HCalls.frame sub H).mono fun o τ' _ ⟨h', b1, b2, b3⟩ => by
    refine ⟨fun q x hq h0q hx => ?_, h', b2, fun q x hx => ?_⟩
    · have : h' q = none := by
        cases e : h' q with
        | none => rfl
        | some y => rcases b1 q y e with z | z
                    · exact absurd h0q z
                    · omega
      rw [b3]; unfold mix; rw [this, h0q]; exact hx
    · rw [b3]; unfold mix; rw [hx]

structure Arr where
  i1 : Nat
  i2 : Nat
  i3 : Nat
  ie : Nat
  F : List Int
  H : List Int
  T : List Int
  E : List Int
structure PS (τ : Heap) (A : Arr) (id tok : Nat) (a : AV) (p : Pg) : Prop where
  b : BOk τ.next id a tok p.s
  sub : ∀ q x, bh id 66 (pgP p.col p.nest p.tabs) a tok p.s q = some x → τ.obj q = some x
  f1 : τ.obj A.i1 = some (.box 3 (ints A.F))
  f2 : τ.obj A.i2 = some (.box 3 (ints A.H))
  f3 : τ.obj A.i3 = some (.box 3 (ints A.T))
  fe : τ.obj A.ie = some (.box 3 (ints A.E))
  l1 : A.i1 < τ.next
  l2 : A.i2 < τ.next
  l3 : A.i3 < τ.next
  le : A.ie < τ.next
variable {τ : Heap} {A : Arr} {id tok : Nat} {a : AV} {p : Pg}
theorem PS.mono (h : PS τ A id tok a p) {m : Nat} (hm : τ.next ≤ m) : PS ⟨m, τ.obj⟩ A id tok a p := ⟨h.b.mono hm, h.sub, h.f1, h.f2, h.f3, h.fe, Nat.lt_of_lt_of_le h.l1 hm, Nat.lt_of_lt_of_le h.l2 hm, Nat.lt_of_lt_of_le h.l3 hm, Nat.lt_of_lt_of_le h.le hm⟩
theorem PS.at (h : PS τ A id tok a p) : τ.obj id = some (.box 66 [a :: accV (ind p.s) tok :: pgP p.col p.nest p.tabs]) := h.sub id _ (bh_id ..)
theorem bh_none {id tok : Nat} {ty : TypeId} {post : List AV} {a : AV} {l : List UInt8} {q : Nat} (h1 : q ≠ id) (h2 : l ≠ [] → q ≠ tok) : bh id ty post a tok l q = none := by
  unfold bh; rw [if_neg h1, if_neg]; rintro ⟨h3, h4⟩; exact h2 h3 h4
theorem PS.apart (h : PS τ A id tok a p) {q : Nat} {F : List Int} (hq : τ.obj q = some (.box 3 (ints F))) : bh id 66 (pgP p.col p.nest p.tabs) a tok p.s q = none := by
  refine bh_none (fun e => ?_) (fun hl e => ?_)
  · rw [e, h.at] at hq; simp at hq
  · rw [e, h.sub tok _ (bh_tok h.b hl)] at hq; simp at hq
theorem PS.ne (h : PS τ A id tok a p) {q : Nat} {F : List Int} (hq : τ.obj q = some (.box 3 (ints F))) : q ≠ id := fun e => by
  rw [e, h.at] at hq; simp at hq
/-- behind a call of a method -/
theorem PS.call (h : PS τ A id tok a p) {τ' : Heap} (hn : τ.next ≤ τ'.next) {tok' : Nat} {a' : AV} {p' : Pg} (hb : BOk τ'.next id a' tok' p'.s) (k1 : ∀ q x, q < τ.next → bh id 66 (pgP p.col p.nest p.tabs) a tok p.s q = none → τ.obj q = some x → τ'.obj q = some x)
    (k2 : ∀ q x, bh id 66 (pgP p'.col p'.nest p'.tabs) a' tok' p'.s q = some x → τ'.obj q = some x) : PS τ' A id tok' a' p' :=
  ⟨hb, k2, k1 _ _ h.l1 (h.apart h.f1) h.f1, k1 _ _ h.l2 (h.apart h.f2) h.f2, k1 _ _ h.l3 (h.apart h.f3) h.f3, k1 _ _ h.le (h.apart h.fe) h.fe, Nat.lt_of_lt_of_le h.l1 hn, Nat.lt_of_lt_of_le h.l2 hn, Nat.lt_of_lt_of_le h.l3 hn, Nat.lt_of_lt_of_le h.le hn⟩
/-- its column, nest or tabs set -/
theorem PS.set (h : PS τ A id tok a p) (p' : Pg) (hs : p'.s = p.s) {cs : List AV} (hc : cs = a :: accV (ind p.s) tok :: pgP p'.col p'.nest p'.tabs) {m : Nat} (hm : τ.next ≤ m) : PS ⟨m, upd τ.obj id (some (.box 66 [cs]))⟩ A id tok a p' := by
  subst hc
  refine ⟨by rw [hs]; exact h.b.mono hm, fun q x hx => ?_, ?_, ?_, ?_, ?_, Nat.lt_of_lt_of_le h.l1 hm, Nat.lt_of_lt_of_le h.l2 hm, Nat.lt_of_lt_of_le h.l3 hm, Nat.lt_of_lt_of_le h.le hm⟩
  · rw [hs] at hx
    by_cases e : q = id
    · subst e; rw [bh_id] at hx; simp; injection hx
    · show upd τ.obj id _ q = some x
      rw [upd_ne e]
      refine h.sub q x ?_
      unfold bh at hx ⊢; rw [if_neg e] at hx ⊢; exact hx
  all_goals dsimp only
  · rw [upd_ne (h.ne h.f1)]; exact h.f1
  · rw [upd_ne (h.ne h.f2)]; exact h.f2
  · rw [upd_ne (h.ne h.f3)]; exact h.f3
  · rw [upd_ne (h.ne h.fe)]; exact h.fe
theorem PS.put_call (h : PS τ A id tok a p) (s : List UInt8) (hl : p.s.length + p.tabs + s.length ≤ 140737488355328) (ht : p.tabs ≤ 1000000) (hc : p.col + s.length ≤ 140737488355328) (hn : p.nest ≤ 140737488355328) :
    HCalls Try.prog W0 31 [.bp id 0 0, .str s] τ fun o τ' => o = .ret (.tup []) ∧ ∃ tok', PS τ' A id tok' (.bp id 0 0) (p.put s) :=
  (HCalls.part (put_spec h.b p.col p.nest p.tabs s hl ht hc hn) h.sub).mono fun o τ' hn' ⟨k1, h', ⟨ho, tok', hb, hobj⟩, k2⟩ => ⟨ho, tok', h.call hn' hb k1 (by dsimp only at hobj; rw [hobj] at k2; exact k2)⟩
theorem PS.nl_call (h : PS τ A id tok a p) (hl : p.s.length + 1 ≤ 140737488355328) (hn : p.nest ≤ 1000000) :
    HCalls Try.prog W0 32 [.bp id 0 0] τ fun o τ' => o = .ret (.tup []) ∧ ∃ tok', PS τ' A id tok' (.bp id 0 0) p.nl :=
  (HCalls.part (newline_spec h.b p.col p.nest p.tabs hl hn) h.sub).mono fun o τ' hn' ⟨k1, h', ⟨ho, tok', hb, hobj⟩, k2⟩ => ⟨ho, tok', h.call hn' hb k1 (by dsimp only at hobj; rw [hobj] at k2; exact k2)⟩
end Go.Proofs.Ytoeonamjbohokaa.Lt
