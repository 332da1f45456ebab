/- chunk.Of: what its loop keeps. -/
import Derived.Test.YtbmkgpocnkiibaaChk10
namespace Go.Proofs.Ytbmkgpocnkiibaa.Lt
open Go.Proofs.YtbmkgpocnkiibaaW.Abs Go
set_option maxRecDepth 100000
set_option maxHeartbeats 2000000
set_option linter.unusedSimpArgs false
set_option linter.unusedVariables false
variable {W0 : World}

theorem right_mono {a b : List Int} {l : List (Int × Int)} {s : Int × Int} (h : rightM a b s l = true) {p q : Int × Int} (hp : p ∈ l) (hq : q ∈ l) (hlt : p.1 < q.1) : p.2 < q.2 := by
  obtain ⟨i, hi⟩ := List.mem_iff_getElem?.1 hp
  obtain ⟨j, hj⟩ := List.mem_iff_getElem?.1 hq
  have tk : ∀ {i j : Nat} {p : Int × Int}, l[i]? = some p → i < j → p ∈ l.take j := fun {i j p} e hij => by
    refine List.mem_of_getElem? (i := i) ?_; rw [List.getElem?_take, if_pos hij]; exact e
  by_cases h1 : i < j
  · exact (right_take a b l s h j q hj p (tk hi h1)).2
  · by_cases h2 : j < i
    · have := (right_take a b l s h i p hi q (tk hj h2)).1; omega
    · have e : i = j := by omega
      subst e; rw [hi] at hj; injection hj with e; subst e; omega

theorem ofM_end {b o t : List Int} {mo mt : List (Int × Int)} {i x y z : Nat} (h : ¬ i < b.length) : ofM b o t mo mt i x y z = betw b o t x y z b.length o.length t.length := by
  rw [ofM, dif_neg h]
theorem ofM_run {b o t : List Int} {mo mt : List (Int × Int)} {i x y z j k : Nat} (h : i < b.length) (e1 : findM mo i = some (j : Int)) (e2 : findM mt i = some (k : Int)) :
    ofM b o t mo mt i x y z = betw b o t x y z i j k ++ ⟨1, i, i + runLen b.length mo mt i j k 1, j, j + runLen b.length mo mt i j k 1, k, k + runLen b.length mo mt i j k 1⟩ ::
      ofM b o t mo mt (i + runLen b.length mo mt i j k 1) (i + runLen b.length mo mt i j k 1) (j + runLen b.length mo mt i j k 1) (k + runLen b.length mo mt i j k 1) := by
  rw [ofM, dif_pos h, e1, e2]; simp
theorem ofM_skip1 {b o t : List Int} {mo mt : List (Int × Int)} {i x y z : Nat} (h : i < b.length) (e1 : findM mo i = none) : ofM b o t mo mt i x y z = ofM b o t mo mt (i + 1) x y z := by
  rw [ofM, dif_pos h, e1]
theorem ofM_skip2 {b o t : List Int} {mo mt : List (Int × Int)} {i x y z : Nat} (h : i < b.length) (e1 : findM mt i = none) : ofM b o t mo mt i x y z = ofM b o t mo mt (i + 1) x y z := by
  rw [ofM, dif_pos h, e1]; cases findM mo ↑i <;> rfl

structure Ids where
  ib : Nat
  io : Nat
  it : Nat
  m1 : Nat
  m2 : Nat
  l : Nat
  a : Nat
  tb : TypeId
  to : TypeId
  tt : TypeId
  tl : TypeId
  ta : TypeId
def Ids.fn (I : Ids) : AV := .fn (.func 16) [] [.bp I.a 0 0, .bp I.l 0 0, .bp I.ib 0 0, .bp I.io 0 0, .bp I.it 0 0]
structure Ids.Lt (I : Ids) (n : Nat) : Prop where
  ib : I.ib < n
  io : I.io < n
  it : I.it < n
  m1 : I.m1 < n
  m2 : I.m2 < n
  l : I.l < n
  a : I.a < n
structure Ids.Ne (I : Ids) : Prop where
  ba : I.ib ≠ I.a
  bl : I.ib ≠ I.l
  oa : I.io ≠ I.a
  ol : I.io ≠ I.l
  ta : I.it ≠ I.a
  tl : I.it ≠ I.l
  m1a : I.m1 ≠ I.a
  m1l : I.m1 ≠ I.l
  m2a : I.m2 ≠ I.a
  m2l : I.m2 ≠ I.l
  al : I.a ≠ I.l
structure OH (h : Hp) (n : Nat) (B O T : AV) (mo mt : List (Int × Int)) (I : Ids) (tok : Nat) (acc : List Ck) (x y z : Nat) : Prop where
  fb : h I.ib = some (.box I.tb [[B]])
  fo : h I.io = some (.box I.to [[O]])
  ft : h I.it = some (.box I.tt [[T]])
  f1 : h I.m1 = some (.map (kvM mo))
  f2 : h I.m2 = some (.map (kvM mt))
  fl : h I.l = some (.box I.tl [[accV (acc.map Ck.enc) tok]])
  fa : h I.a = some (.box I.ta [[.int .i64 x, .int .i64 y, .int .i64 z]])
  ac : AccOk h 7 tok (acc.map Ck.enc)
  lt : I.Lt n
  ne : I.Ne
  tk : acc ≠ [] → tok < n
variable {h : Hp} {n m : Nat} {B O T : AV} {mo mt : List (Int × Int)} {I : Ids} {tok : Nat} {acc : List Ck} {x y z : Nat}
theorem Ids.Lt.mono (H : I.Lt n) (hm : n ≤ m) : I.Lt m := ⟨Nat.lt_of_lt_of_le H.ib hm, Nat.lt_of_lt_of_le H.io hm, Nat.lt_of_lt_of_le H.it hm, Nat.lt_of_lt_of_le H.m1 hm, Nat.lt_of_lt_of_le H.m2 hm, Nat.lt_of_lt_of_le H.l hm, Nat.lt_of_lt_of_le H.a hm⟩
theorem OH.mono (H : OH h n B O T mo mt I tok acc x y z) (hm : n ≤ m) : OH h m B O T mo mt I tok acc x y z :=
  ⟨H.fb, H.fo, H.ft, H.f1, H.f2, H.fl, H.fa, H.ac, H.lt.mono hm, H.ne, fun e => Nat.lt_of_lt_of_le (H.tk e) hm⟩
/-- what keeps the rest -/
theorem OH.next {h' : Hp} {tok' : Nat} {acc' : List Ck} {x' y' z' : Nat} (H : OH h n B O T mo mt I tok acc x y z) (hm : n ≤ m) (fl : h' I.l = some (.box I.tl [[accV (acc'.map Ck.enc) tok']])) (fa : h' I.a = some (.box I.ta [[.int .i64 x', .int .i64 y', .int .i64 z']]))
    (ac : AccOk h' 7 tok' (acc'.map Ck.enc)) (tk : acc' ≠ [] → tok' < m) (keep : ∀ q v, q < n → q ≠ I.a → q ≠ I.l → h q = some v → (∀ ty s, v ≠ .tail ty s) → h' q = some v) : OH h' m B O T mo mt I tok' acc' x' y' z' :=
  ⟨keep _ _ H.lt.ib H.ne.ba H.ne.bl H.fb (by simp), keep _ _ H.lt.io H.ne.oa H.ne.ol H.fo (by simp), keep _ _ H.lt.it H.ne.ta H.ne.tl H.ft (by simp), keep _ _ H.lt.m1 H.ne.m1a H.ne.m1l H.f1 (by simp), keep _ _ H.lt.m2 H.ne.m2a H.ne.m2l H.f2 (by simp),
    fl, fa, ac, H.lt.mono hm, H.ne, tk⟩
theorem OH.tok_ne (H : OH h n B O T mo mt I tok acc x y z) (hne : acc.map Ck.enc ≠ []) {q : Nat} {v : AObj} (e : h q = some v) (hv : ∀ ty s, v ≠ .tail ty s) : q ≠ tok := fun he => by
  have := H.ac hne
  rw [← he, e] at this
  cases v with
  | tail ty s => exact hv ty s rfl
  | _ => exact this
/-- a chunk more -/
theorem OH.push (H : OH h n B O T mo mt I tok acc x y z) (c : Ck) {e : List AV} (he : e = c.enc) {id : Nat} {ty : TypeId} (hid : n ≤ id) (hm : id < m) (x' y' z' : Nat) {A : List AV} (hA : A = [.int .i64 x', .int .i64 y', .int .i64 z']) :
    accHeap id ty 7 (upd h I.a (some (.box I.ta [A]))) [e] (acc.map Ck.enc) tok I.l = some (.box I.tl [[accV (acc.map Ck.enc) tok]]) ∧
    OH (upd (accHeap id ty 7 (upd h I.a (some (.box I.ta [A]))) [e] (acc.map Ck.enc) tok) I.l (some (.box I.tl [[accV (acc.map Ck.enc ++ [e]) id]]))) m B O T mo mt I id (acc ++ [c]) x' y' z' := by
  subst he; subst hA
  have hl := H.lt.l; have ha := H.lt.a; have hal := H.ne.al
  refine ⟨?_, H.next (by omega) (by simp) ?_ ?_ (fun _ => hm) (fun q v h0 h1 h2 h3 h4 => ?_)⟩
  · rw [accHeap_ne (by omega) (fun hne => H.tok_ne hne H.fl (by simp)), upd_ne hal.symm]; exact H.fl
  · rw [upd_ne hal, accHeap_ne (by omega) (fun hne => H.tok_ne hne H.fa (by simp))]; simp
  · rw [List.map_append]
    exact AccOk.upd (accHeap_ok _ _ _ _ _ _ _) (fun _ => by omega) _
  · rw [upd_ne h2, accHeap_ne (by omega) (fun hne => H.tok_ne hne h3 h4), upd_ne h1]; exact h3
theorem OH.acOk (H : OH h n B O T mo mt I tok acc x y z) (v : Option AObj) : AccOk (upd h I.a v) 7 tok (acc.map Ck.enc) :=
  H.ac.upd (fun hne => (H.tok_ne hne H.fa (by simp)).symm) v
end Go.Proofs.Ytbmkgpocnkiibaa.Lt
