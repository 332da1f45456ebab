import Derived.Test.YtbmkgpocnkiibaaKb
/- chunk.Of: what its loop keeps. -/
namespace Go.Proofs.Ytbmkgpocnkiibaa.Lt
open Go.Proofs.YtbmkgpocnkiibaaW.Abs Go
set_option maxRecDepth 100000
set_option maxHeartbeats 2000000
set_option linter.unusedSimpArgs false
set_option linter.unusedVariables false
variable {W0 : World}

theorem right_mono {a b : List Int} {l : List (Int × Int)} {s : Int × Int} (h : rightM a b s l = true) {p q : Int × Int} (hp : p ∈ l) (hq : q ∈ l) (hlt : p.1 < q.1) : p.2 < q.2 := by
  obtain ⟨i, hi⟩ := List.mem_iff_getElem?.1 hp
  obtain ⟨j, hj⟩ := List.mem_iff_getElem?.1 hq
  have tk : ∀ {i j : Nat} {p : Int × Int}, l[i]? = some p → i < j → p ∈ l.take j := fun {i j p} e hij => by
    refine List.mem_of_getElem? (i := i) ?_; rw [List.getElem?_take, if_pos hij]; exact e
  by_cases h1 : i < j
  · exact (right_take a b l s h j q hj p (tk hi h1)).2
  · by_cases h2 : j < i
    · have := (right_take a b l s h i p hi q (tk hj h2)).1; omega
    · have e : i = j := by omega
      subst e; rw [hi] at hj; injection hj with e; subst e; omega

theorem ofM_end {b o t : List Int} {mo mt : List (Int × Int)} {i x y z : Nat} (h : ¬ i < b.length) : ofM b o t mo mt i x y z = betw b o t x y z b.length o.length t.length := by
  rw [ofM, dif_neg h]
theorem ofM_run {b o t : List Int} {mo mt : List (Int × Int)} {i x y z j k : Nat} (h : i < b.length) (e1 : findM mo i = some (j : Int)) (e2 : findM mt i = some (k : Int)) :
    ofM b o t mo mt i x y z = betw b o t x y z i j k ++ ⟨1, i, i + runLen b.length mo mt i j k 1, j, j + runLen b.length mo mt i j k 1, k, k + runLen b.length mo mt i j k 1⟩ ::
      ofM b o t mo mt (i + runLen b.length mo mt i j k 1) (i + runLen b.length mo mt i j k 1) (j + runLen b.length mo mt i j k 1) (k + runLen b.length mo mt i j k 1) := by
  rw [ofM, dif_pos h, e1, e2]; simp
theorem ofM_skip1 {b o t : List Int} {mo mt : List (Int × Int)} {i x y z : Nat} (h : i < b.length) (e1 : findM mo i = none) : ofM b o t mo mt i x y z = ofM b o t mo mt (i + 1) x y z := by
  rw [ofM, dif_pos h, e1]
theorem ofM_skip2 {b o t : List Int} {mo mt : List (Int × Int)} {i x y z : Nat} (h : i < b.length) (e1 : findM mt i = none) : ofM b o t mo mt i x y z = ofM b o t mo mt (i + 1) x y z := by
  rw [ofM, dif_pos h, e1]; cases findM mo ↑i <;> rfl

structure Ids where
  ib : Nat
  io : Nat
  it : Nat
  m1 : Nat
  m2 : Nat
  l : Nat
  a : Nat
  tb : TypeId
  to : TypeId
  tt : TypeId
  tl : TypeId
  ta : TypeId
def Ids.fn (I : Ids) : AV := .fn (.func 16) [] [.bp I.a 0 0, .bp I.l 0 0, .bp I.ib 0 0, .bp I.io 0 0, .bp I.it 0 0]
structure Ids.Lt (I : Ids) (n : Nat) : Prop where
  ib : I.ib < n
  io : I.io < n
  it : I.it < n
  m1 : I.m1 < n
  m2 : I.m2 < n
  l : I.l < n
  a : I.a < n
structure Ids.Ne (I : Ids) : Prop where
  ba : I.ib ≠ I.a
  bl : I.ib ≠ I.l
  oa : I.io ≠ I.a
  ol : I.io ≠ I.l
  ta : I.it ≠ I.a
  tl : I.it ≠ I.l
  m1a : I.m1 ≠ I.a
  m1l : I.m1 ≠ I.l
  m2a : I.m2 ≠ I.a
  m2l : I.m2 ≠ I.l
  al : I.a ≠ I.l
structure OH (h : Hp) (n : Nat) (B O T : AV) (mo mt : List (Int × Int)) (I : Ids) (tok : Nat) (acc : List Ck) (x y z : Nat) : Prop where
  fb : h I.ib = some (.box I.tb [[B]])
  fo : h I.io = some (.box I.to [[O]])
  ft : h I.it = some (.box I.tt [[T]])
  f1 : h I.m1 = some (.map (kvM mo))
  f2 : h I.m2 = some (.map (kvM mt))
  fl : h I.l = some (.box I.tl [[accV (acc.map Ck.enc) tok]])
  fa : h I.a = some (.box I.ta [[.int .i64 x, .int .i64 y, .int .i64 z]])
  ac : AccOk h 7 tok (acc.map Ck.enc)
  lt : I.Lt n
  ne : I.Ne
  tk : acc ≠ [] → tok < n
variable {h : Hp} {n m : Nat} {B O T : AV} {mo mt : List (Int × Int)} {I : Ids} {tok : Nat} {acc : List Ck} {x y z : Nat}
theorem Ids.Lt.mono (H : I.Lt n) (hm : n ≤ m) : I.Lt m := ⟨Nat.lt_of_lt_of_le H.ib hm, Nat.lt_of_lt_of_le H.io hm, Nat.lt_of_lt_of_le H.it hm, Nat.lt_of_lt_of_le H.m1 hm, Nat.lt_of_lt_of_le H.m2 hm, Nat.lt_of_lt_of_le H.l hm, Nat.lt_of_lt_of_le H.a hm⟩
theorem OH.mono (H : OH h n B O T mo mt I tok acc x y z) (hm : n ≤ m) : OH h m B O T mo mt I tok acc x y z :=
  ⟨H.fb, H.fo, H.ft, H.f1, H.f2, H.fl, H.fa, H.ac, H.lt.mono hm, H.ne, fun e => Nat.lt_of_lt_of_le (H.tk e) hm⟩
/-- what keeps the rest -/
theorem OH.next {h' : Hp} {tok' : Nat} {acc' : List Ck} {x' y' z' : Nat} (H : OH h n B O T mo mt I tok acc x y z) (hm : n ≤ m) (fl : h' I.l = some (.box I.tl [[accV (acc'.map Ck.enc) tok']])) (fa : h' I.a = some (.box I.ta [[.int .i64 x', .int .i64 y', .int .i64 z']]))
    (ac : AccOk h' 7 tok' (acc'.map Ck.enc)) (tk : acc' ≠ [] → tok' < m) (keep : ∀ q v, q < n → q ≠ I.a → q ≠ I.l → h q = some v → (∀ ty s, v ≠ .tail ty s) → h' q = some v) : OH h' m B O T mo mt I tok' acc' x' y' z' :=
  ⟨keep _ _ H.lt.ib H.ne.ba H.ne.bl H.fb (by simp), keep _ _ H.lt.io H.ne.oa H.ne.ol H.fo (by simp), keep _ _ H.lt.it H.ne.ta H.ne.tl H.ft (by simp), keep _ _ H.lt.m1 H.ne.m1a H.ne.m1l H.f1 (by simp), keep _ _ H.lt.m2 H.ne.m2a H.ne.m2l H.f2 (by simp),
    fl, fa, ac, H.lt.mono hm, H.ne, tk⟩
theorem OH.tok_ne (H : OH h n B O T mo mt I tok acc x y z) (hne : acc.map Ck.enc ≠ []) {q : Nat} {v : AObj} (e : h q = some v) (hv : ∀ ty s, v ≠ .tail ty s) : q ≠ tok := fun he => by
  have := H.ac hne
  rw [← he, e] at this
  cases v with
  | tail ty s => exact hv ty s rfl
  | _ => exact this
/-- a chunk more -/
theorem OH.push (H : OH h n B O T mo mt I tok acc x y z) (c : Ck) {e : List AV} (he : e = c.enc) {id : Nat} {ty : TypeId} (hid : n ≤ id) (hm : id < m) (x' y' z' : Nat) {A : List AV} (hA : A = [.int .i64 x', .int .i64 y', .int .i64 z']) :
    accHeap id ty 7 (upd h I.a (some (.box I.ta [A]))) [e] (acc.map Ck.enc) tok I.l = some (.box I.tl [[accV (acc.map Ck.enc) tok]]) ∧
    OH (upd (accHeap id ty 7 (upd h I.a (some (.box I.ta [A]))) [e] (acc.map Ck.enc) tok) I.l (some (.box I.tl [[accV (acc.map Ck.enc ++ [e]) id]]))) m B O T mo mt I id (acc ++ [c]) x' y' z' := by
  subst he; subst hA
  have hl := H.lt.l; have ha := H.lt.a; have hal := H.ne.al
  refine ⟨?_, H.next (by omega) (by simp) ?_ ?_ (fun _ => hm) (fun q v h0 h1 h2 h3 h4 => ?_)⟩
  · rw [accHeap_ne (by omega) (fun hne => H.tok_ne hne H.fl (by simp)), upd_ne hal.symm]; exact H.fl
  · rw [upd_ne hal, accHeap_ne (by omega) (fun hne => H.tok_ne hne H.fa (by simp))]; simp
  · rw [List.map_append]
    exact AccOk.upd (accHeap_ok _ _ _ _ _ _ _) (fun _ => by omega) _
  · rw [upd_ne h2, accHeap_ne (by omega) (fun hne => H.tok_ne hne h3 h4), upd_ne h1]; exact h3
theorem OH.acOk (H : OH h n B O T mo mt I tok acc x y z) (v : Option AObj) : AccOk (upd h I.a v) 7 tok (acc.map Ck.enc) :=
  H.ac.upd (fun hne => (H.tok_ne hne H.fa (by simp)).symm) v
end Go.Proofs.Ytbmkgpocnkiibaa.Lt

/- The chunks' laws, in plain Lean: they are all of each row. -/
namespace Go.Proofs.Ytbmkgpocnkiibaa.Lt
open Go.Proofs.YtbmkgpocnkiibaaW.Abs Go
set_option maxRecDepth 100000
set_option maxHeartbeats 2000000
set_option linter.unusedSimpArgs false
set_option linter.unusedVariables false

theorem sortOf_range (x y z : List Int) : 2 ≤ sortOf x y z ∧ sortOf x y z ≤ 5 := by
  unfold sortOf; split
  · omega
  · split
    · omega
    · split <;> omega

/-- chunk by chunk all of each row; q: the sort of the chunk ahead -/
def Cov (b o t : List Int) : Option Int → Nat → Nat → Nat → List Ck → Prop
  | _, i, j, k, [] => i = b.length ∧ j = o.length ∧ k = t.length
  | q, i, j, k, c :: r => c.b0 = i ∧ c.o0 = j ∧ c.t0 = k ∧ i ≤ c.b1 ∧ j ≤ c.o1 ∧ k ≤ c.t1 ∧ c.b1 + c.o1 + c.t1 ≠ i + j + k ∧ c.b1 ≤ b.length ∧ c.o1 ≤ o.length ∧ c.t1 ≤ t.length ∧
      1 ≤ c.s ∧ c.s ≤ 5 ∧ (c.s = 1 → cut b i c.b1 = cut o j c.o1 ∧ cut b i c.b1 = cut t k c.t1) ∧ (∀ x, q = some x → (x = 1 ↔ c.s ≠ 1)) ∧ Cov b o t (some c.s) c.b1 c.o1 c.t1 r

/-- what is known of pairs that are a common row -/
structure Good (b o : List Int) (mo : List (Int × Int)) : Prop where
  r : rightM b o (-1, -1) mo = true
theorem Good.find {b o : List Int} {mo : List (Int × Int)} (H : Good b o mo) {i : Nat} {v : Int} (h : findM mo i = some v) : 0 ≤ v ∧ v < o.length ∧ i < b.length ∧ b[i]? = o[v.toNat]? := by
  have := right_from b o mo (-1, -1) H.r _ (findM_mem h)
  simp only at this
  refine ⟨by omega, by omega, by omega, by simpa using this.2.2.2.2⟩
theorem Good.mono {b o : List Int} {mo : List (Int × Int)} (H : Good b o mo) {i j : Nat} {v w : Int} (h1 : findM mo i = some v) (h2 : findM mo j = some w) (hlt : i < j) : v < w :=
  right_mono H.r (findM_mem h1) (findM_mem h2) (by simpa using hlt)

theorem cut_eq {b o : List Int} {i j n : Nat} (hi : i + n ≤ b.length) (hj : j + n ≤ o.length) (h : ∀ m, m < n → b[i + m]? = o[j + m]?) : cut b i (i + n) = cut o j (j + n) := by
  apply List.ext_getElem?
  intro m
  unfold cut
  rw [List.getElem?_drop, List.getElem?_drop]
  by_cases hm : m < n
  · rw [List.getElem?_take, List.getElem?_take, if_pos (by omega), if_pos (by omega)]; exact h m hm
  · rw [List.getElem?_take, List.getElem?_take, if_neg (by omega), if_neg (by omega)]

theorem runLen_stop {nb : Nat} {mo mt : List (Int × Int)} (i j k n : Nat) : ¬ (i + runLen nb mo mt i j k n < nb ∧ findM mo (i + runLen nb mo mt i j k n : Nat) = some ((j + runLen nb mo mt i j k n : Nat) : Int) ∧ findM mt (i + runLen nb mo mt i j k n : Nat) = some ((k + runLen nb mo mt i j k n : Nat) : Int)) := by
  rw [runLen]
  split
  · rename_i hlt
    split
    · exact runLen_stop i j k (n + 1)
    · rename_i hc; exact fun h => hc h.2
  · rename_i hlt; exact fun h => hlt h.1
termination_by nb - (i + n)

/-- a run's facts -/
theorem run_facts {b o t : List Int} {mo mt : List (Int × Int)} (Ho : Good b o mo) (Ht : Good b t mt) {i j k : Nat} (h1 : findM mo i = some (j : Int)) (h2 : findM mt i = some (k : Int)) :
    let n := runLen b.length mo mt i j k 1
    1 ≤ n ∧ i + n ≤ b.length ∧ j + n ≤ o.length ∧ k + n ≤ t.length ∧ cut b i (i + n) = cut o j (j + n) ∧ cut b i (i + n) = cut t k (k + n) := by
  intro n
  have hib := (Ho.find h1).2.2.1
  have hge : 1 ≤ n := runLen_ge b.length mo mt i j k 1
  have hle : i + n ≤ b.length := runLen_le b.length mo mt i j k 1 (by omega)
  have hall : ∀ m, m < n → findM mo (i + m : Nat) = some ((j + m : Nat) : Int) ∧ findM mt (i + m : Nat) = some ((k + m : Nat) : Int) := fun m hm => by
    by_cases h0 : m = 0
    · subst h0; exact ⟨by simpa using h1, by simpa using h2⟩
    · exact runLen_all b.length mo mt i j k 1 m (by omega) hm
  have hj : j + n ≤ o.length := by
    have := (Ho.find (hall (n - 1) (by omega)).1).2.1
    omega
  have hk : k + n ≤ t.length := by
    have := (Ht.find (hall (n - 1) (by omega)).2).2.1
    omega
  refine ⟨hge, hle, hj, hk, cut_eq hle hj fun m hm => ?_, cut_eq hle hk fun m hm => ?_⟩
  · have := (Ho.find (hall m hm).1).2.2.2
    rwa [Int.toNat_natCast] at this
  · have := (Ht.find (hall m hm).2).2.2.2
    rwa [Int.toNat_natCast] at this

theorem cov_betw {b o t : List Int} {q : Option Int} {x y z i j k : Nat} {r : List Ck} (hx : x ≤ i) (hy : y ≤ j) (hz : z ≤ k) (hi : i ≤ b.length) (hj : j ≤ o.length) (hk : k ≤ t.length)
    (hq : ∀ s, q = some s → s = 1) (h1 : x = i → y = j → z = k → Cov b o t q i j k r) (h2 : ∀ s, s ≠ 1 → Cov b o t (some s) i j k r) : Cov b o t q x y z (betw b o t x y z i j k ++ r) := by
  unfold betw
  split
  · rename_i h
    obtain ⟨rfl, rfl, rfl⟩ := h
    exact h1 rfl rfl rfl
  · rename_i h
    have hs := sortOf_range (cut b x i) (cut o y j) (cut t z k)
    refine ⟨rfl, rfl, rfl, hx, hy, hz, ?_, hi, hj, hk, ?_, ?_, ?_, ?_, ?_⟩
    · simp only; omega
    · simp only; omega
    · simp only; omega
    · intro e; simp only at e; omega
    · intro s e; have := hq s e; simp only; constructor <;> intro <;> omega
    · refine h2 _ ?_; show sortOf (cut b x i) (cut o y j) (cut t z k) ≠ 1; omega

/-- the places that are done lie ahead of what follows -/
def Ahead (mo mt : List (Int × Int)) (i y z : Nat) : Prop := ∀ i' : Nat, i ≤ i' → (∀ v, findM mo i' = some v → (y : Int) ≤ v) ∧ (∀ v, findM mt i' = some v → (z : Int) ≤ v)

theorem cov_ofM {b o t : List Int} {mo mt : List (Int × Int)} (Ho : Good b o mo) (Ht : Good b t mt) : ∀ (i x y z : Nat) (q : Option Int), x ≤ i → i ≤ b.length → y ≤ o.length → z ≤ t.length → Ahead mo mt i y z →
    (∀ s, q = some s → s = 1 ∧ (x = i → ¬ (i < b.length ∧ findM mo i = some (y : Int) ∧ findM mt i = some (z : Int)))) → Cov b o t q x y z (ofM b o t mo mt i x y z) := by
  intro i x y z q hx hi hy hz ha hq
  by_cases hlt : i < b.length
  · cases e1 : findM mo i with
    | none =>
      rw [ofM_skip1 hlt e1]
      exact cov_ofM Ho Ht (i + 1) x y z q (by omega) (by omega) hy hz (fun i' h => ha i' (by omega)) (fun s e => ⟨(hq s e).1, fun h => by omega⟩)
    | some v =>
      cases e2 : findM mt i with
      | none =>
        rw [ofM_skip2 hlt e2]
        exact cov_ofM Ho Ht (i + 1) x y z q (by omega) (by omega) hy hz (fun i' h => ha i' (by omega)) (fun s e => ⟨(hq s e).1, fun h => by omega⟩)
      | some w =>
        have f1 := Ho.find e1
        have f2 := Ht.find e2
        obtain ⟨j, rfl⟩ : ∃ j : Nat, v = j := ⟨v.toNat, by omega⟩
        obtain ⟨k, rfl⟩ : ∃ k : Nat, w = k := ⟨w.toNat, by omega⟩
        rw [ofM_run hlt e1 e2]
        obtain ⟨n1, n2, n3, n4, n5, n6⟩ := run_facts Ho Ht e1 e2
        have nst := runLen_stop (nb := b.length) (mo := mo) (mt := mt) i j k 1
        have nall := runLen_all b.length mo mt i j k 1
        have nend : ∀ m, m < runLen b.length mo mt i j k 1 → findM mo (i + m : Nat) = some ((j + m : Nat) : Int) ∧ findM mt (i + m : Nat) = some ((k + m : Nat) : Int) := fun m hm => by
          by_cases h0 : m = 0
          · subst h0; exact ⟨by simpa using e1, by simpa using e2⟩
          · exact nall m (by omega) hm
        generalize runLen b.length mo mt i j k 1 = n at *
        have hay := (ha i (Nat.le_refl _)).1 _ e1
        have haz := (ha i (Nat.le_refl _)).2 _ e2
        have tail : Cov b o t (some 1) (i + n) (j + n) (k + n) (ofM b o t mo mt (i + n) (i + n) (j + n) (k + n)) := by
          refine cov_ofM Ho Ht (i + n) (i + n) (j + n) (k + n) (some 1) (by omega) n2 n3 n4 (fun i' h => ?_) (fun s e => ⟨by injection e with e; exact e.symm, fun _ => nst⟩)
          have m1 := nend (n - 1) (by omega)
          refine ⟨fun v hv => ?_, fun v hv => ?_⟩
          · have := Ho.mono m1.1 hv (by omega); omega
          · have := Ht.mono m1.2 hv (by omega); omega
        have run : ∀ q : Option Int, (∀ s, q = some s → s ≠ 1) → Cov b o t q i j k (⟨1, i, i + n, j, j + n, k, k + n⟩ :: ofM b o t mo mt (i + n) (i + n) (j + n) (k + n)) := fun q hq =>
          ⟨rfl, rfl, rfl, by simp, by simp, by simp, by simp only; omega, n2, n3, n4, by simp, by simp, fun _ => ⟨n5, n6⟩, fun s e => by have := hq s e; simp [this], tail⟩
        refine cov_betw hx (by omega) (by omega) (by omega) (by omega) (by omega) (fun s e => (hq s e).1) (fun hx1 hy1 hz1 => ?_) (fun s hs => run _ (fun s' e => by injection e with e; omega))
        refine run q fun s e => ?_
        exfalso
        refine (hq s e).2 hx1 ⟨hlt, ?_, ?_⟩
        · rw [e1, hy1]
        · rw [e2, hz1]
  · rw [ofM_end hlt]
    have := cov_betw (b := b) (o := o) (t := t) (q := q) (x := x) (y := y) (z := z) (i := b.length) (j := o.length) (k := t.length) (r := []) (by omega) hy hz (by omega) (by omega) (by omega) (fun s e => (hq s e).1)
      (fun _ _ _ => ⟨rfl, rfl, rfl⟩) (fun _ _ => ⟨rfl, rfl, rfl⟩)
    simpa using this
termination_by i => b.length - i
decreasing_by all_goals omega

theorem cov_all {b o t : List Int} {mo mt : List (Int × Int)} (Ho : Good b o mo) (Ht : Good b t mt) : Cov b o t none 0 0 0 (ofM b o t mo mt 0 0 0 0) :=
  cov_ofM Ho Ht 0 0 0 0 none (by omega) (by omega) (by omega) (by omega) (fun i' _ => ⟨fun v hv => by have := (Ho.find hv).1; omega, fun v hv => by have := (Ht.find hv).1; omega⟩) (fun s e => by cases e)

/-! the other way round -/
def turnS (s : Int) : Int := if s = 2 ∨ s = 3 then 5 - s else s
def Ck.turn (c : Ck) : Ck := ⟨turnS c.s, c.b0, c.b1, c.t0, c.t1, c.o0, c.o1⟩
theorem sortOf_turn (x y z : List Int) : sortOf x z y = turnS (sortOf x y z) := by
  unfold sortOf turnS
  by_cases h1 : y = z
  · subst h1; simp
  · have h1' : ¬ z = y := fun e => h1 e.symm
    by_cases h2 : x = y
    · by_cases h3 : x = z
      · exact absurd (h2.symm.trans h3) h1
      · simp [h1, h1', h2, h3]
    · by_cases h3 : x = z
      · simp [h1, h1', h2, h3]
      · simp [h1, h1', h2, h3]
theorem betw_turn (b o t : List Int) (x y z i j k : Nat) : betw b t o x z y i k j = (betw b o t x y z i j k).map Ck.turn := by
  unfold betw
  by_cases h : x = i ∧ y = j ∧ z = k
  · rw [if_pos h, if_pos ⟨h.1, h.2.2, h.2.1⟩]; rfl
  · rw [if_neg h, if_neg (fun e => h ⟨e.1, e.2.2, e.2.1⟩)]
    simp [Ck.turn, sortOf_turn (cut b x i) (cut o y j) (cut t z k)]
theorem runLen_turn (nb : Nat) (mo mt : List (Int × Int)) (i j k n : Nat) : runLen nb mt mo i k j n = runLen nb mo mt i j k n := by
  rw [runLen, runLen.eq_1 nb mo mt]
  split
  · rename_i h
    by_cases hc : findM mo (i + n : Nat) = some ((j + n : Nat) : Int) ∧ findM mt (i + n : Nat) = some ((k + n : Nat) : Int)
    · rw [if_pos hc, if_pos ⟨hc.2, hc.1⟩]; exact runLen_turn nb mo mt i j k (n + 1)
    · rw [if_neg hc, if_neg (fun e => hc ⟨e.2, e.1⟩)]
  · rfl
termination_by nb - (i + n)
theorem ofM_turn {b o t : List Int} {mo mt : List (Int × Int)} (Ho : Good b o mo) (Ht : Good b t mt) : ∀ (i x y z : Nat), ofM b t o mt mo i x z y = (ofM b o t mo mt i x y z).map Ck.turn := by
  intro i x y z
  by_cases hlt : i < b.length
  · cases e1 : findM mo i with
    | none =>
      rw [ofM_skip1 hlt e1, ofM_skip2 hlt e1]
      exact ofM_turn Ho Ht (i + 1) x y z
    | some v =>
      cases e2 : findM mt i with
      | none =>
        rw [ofM_skip2 hlt e2, ofM_skip1 hlt e2]
        exact ofM_turn Ho Ht (i + 1) x y z
      | some w =>
        have f1 := Ho.find e1
        have f2 := Ht.find e2
        obtain ⟨j, rfl⟩ : ∃ j : Nat, v = j := ⟨v.toNat, by omega⟩
        obtain ⟨k, rfl⟩ : ∃ k : Nat, w = k := ⟨w.toNat, by omega⟩
        have hn := runLen_ge b.length mo mt i j k 1
        rw [ofM_run hlt e1 e2, ofM_run hlt e2 e1, runLen_turn b.length mo mt i j k 1, List.map_append, List.map_cons, betw_turn, ofM_turn Ho Ht (i + runLen b.length mo mt i j k 1) _ (j + runLen b.length mo mt i j k 1)]
        simp [Ck.turn, turnS]
  · rw [ofM_end hlt, ofM_end hlt, betw_turn]
termination_by i => b.length - i
decreasing_by all_goals omega

/-! a row and itself -/
def ownP (n : Nat) : List (Int × Int) := (List.range n).map fun i : Nat => ((i : Int), (i : Int))
theorem ownP_mem {n : Nat} {p : Int × Int} (h : p ∈ ownP n) : ∃ i : Nat, i < n ∧ p = ((i : Int), (i : Int)) := by
  simp only [ownP, List.mem_map, List.mem_range] at h
  obtain ⟨i, hi, rfl⟩ := h; exact ⟨i, hi, rfl⟩
theorem findM_some_of {m : List (Int × Int)} {k v : Int} (h : (k, v) ∈ m) : ∃ w, findM m k = some w := by
  induction m with
  | nil => cases h
  | cons p r ih =>
    rw [findM]
    by_cases hp : p.1 = k
    · rw [if_pos hp]; exact ⟨_, rfl⟩
    · rw [if_neg hp]
      rcases List.mem_cons.1 h with e | e
      · exact absurd (by rw [← e]) hp
      · exact ih e
theorem findM_own {n i : Nat} (h : i < n) : findM (ownP n) i = some (i : Int) := by
  obtain ⟨w, hw⟩ := findM_some_of (m := ownP n) (k := i) (v := i) (by simp [ownP]; exact ⟨i, h, rfl⟩)
  obtain ⟨j, hj, e⟩ := ownP_mem (findM_mem hw)
  rw [hw]; injection e with e1 e2; rw [e2, ← e1]
theorem own_from (b : List Int) : ∀ (n i : Nat), i + n ≤ b.length → rightM b b ((i : Int) - 1, (i : Int) - 1) ((List.range' i n).map fun i : Nat => ((i : Int), (i : Int))) = true
  | 0, i, h => rfl
  | n + 1, i, h => by
    rw [List.range'_succ, List.map_cons, rightM_cons, Bool.and_eq_true]
    refine ⟨by simp [stepM]; omega, ?_⟩
    have := own_from b n (i + 1) (by omega)
    simpa using this
theorem own_right (b : List Int) : Good b b (ownP b.length) := by
  refine ⟨?_⟩
  have := own_from b b.length 0 (by omega)
  rw [ownP, List.range_eq_range']
  simpa using this
theorem runLen_own {nb : Nat} (i n : Nat) (h : i + n ≤ nb) : runLen nb (ownP nb) (ownP nb) i i i n = nb - i := by
  rw [runLen]
  by_cases hlt : i + n < nb
  · rw [dif_pos hlt, findM_own hlt]
    simp
    exact runLen_own i (n + 1) (by omega)
  · rw [dif_neg hlt]; omega
termination_by nb - (i + n)
theorem cut_full (b : List Int) : cut b 0 b.length = b := by simp [cut]
theorem self_runs (b : List Int) : ofM b b b (ownP b.length) (ownP b.length) 0 0 0 0 = if b.length = 0 then [] else [⟨1, 0, b.length, 0, b.length, 0, b.length⟩] := by
  by_cases h : b.length = 0
  · rw [if_pos h, ofM_end (by omega)]
    simp [betw, h]
  · rw [if_neg h, ofM_run (j := 0) (k := 0) (by omega) (by simpa using findM_own (n := b.length) (i := 0) (by omega)) (by simpa using findM_own (n := b.length) (i := 0) (by omega)), runLen_own 0 1 (by omega)]
    rw [ofM_end (by omega)]
    simp [betw]
theorem none_runs (b o t : List Int) (mt : List (Int × Int)) : ∀ i x y z, ofM b o t [] mt i x y z = betw b o t x y z b.length o.length t.length := by
  intro i x y z
  by_cases hlt : i < b.length
  · rw [ofM_skip1 hlt rfl]; exact none_runs b o t mt (i + 1) x y z
  · rw [ofM_end hlt]
termination_by i => b.length - i
decreasing_by omega
theorem self_none (b : List Int) : ofM b b b [] (ownP b.length) 0 0 0 0 = if b.length = 0 then [] else [⟨4, 0, b.length, 0, b.length, 0, b.length⟩] := by
  rw [none_runs]
  unfold betw
  by_cases h : b.length = 0
  · simp [h]
  · rw [if_neg h, if_neg (by omega)]
    simp [sortOf]

/-- with a side that is the base, paired with itself, no chunk is the other side's alone -/
theorem own_sorts {b t : List Int} {mt : List (Int × Int)} (Ht : Good b t mt) : ∀ (i x z : Nat), x ≤ i → ∀ c ∈ ofM b b t (ownP b.length) mt i x x z, c.s ≠ 2 ∧ c.s ≠ 5 := by
  intro i x z hx
  have hb : ∀ (x z i k : Nat), ∀ c ∈ betw b b t x x z i i k, c.s ≠ 2 ∧ c.s ≠ 5 := by
    intro x z i k c hc
    unfold betw at hc
    split at hc
    · cases hc
    · simp only [List.mem_singleton] at hc
      subst hc
      simp only [sortOf]
      split
      · omega
      · simp
  by_cases hlt : i < b.length
  · have e1 := findM_own hlt
    cases e2 : findM mt i with
    | none =>
      rw [ofM_skip2 hlt e2]
      exact own_sorts Ht (i + 1) x z (by omega)
    | some w =>
      have f2 := Ht.find e2
      obtain ⟨k, rfl⟩ : ∃ k : Nat, w = k := ⟨w.toNat, by omega⟩
      have hn := runLen_ge b.length (ownP b.length) mt i i k 1
      rw [ofM_run hlt e1 e2]
      intro c hc
      simp only [List.mem_append, List.mem_cons] at hc
      rcases hc with hc | rfl | hc
      · exact hb _ _ _ _ c hc
      · simp
      · exact own_sorts Ht (i + runLen b.length (ownP b.length) mt i i k 1) _ _ (by omega) c hc
  · rw [ofM_end hlt]; exact hb _ _ _ _
termination_by i => b.length - i
decreasing_by all_goals omega
end Go.Proofs.Ytbmkgpocnkiibaa.Lt

/- chunk.Of: its loop. -/
namespace Go.Proofs.Ytbmkgpocnkiibaa.Lt
open Go.Proofs.YtbmkgpocnkiibaaW.Abs Go
set_option maxRecDepth 100000
set_option maxHeartbeats 4000000
set_option linter.unusedSimpArgs false
set_option linter.unusedVariables false
variable {W0 : World}

theorem betw_le (b o t : List Int) (x y z i j k : Nat) : (betw b o t x y z i j k).length ≤ 1 := by unfold betw; split <;> simp

structure MS (b o t : List Int) (mo mt : List (Int × Int)) (I : Ids) (B O T : AV) (R : List Ck) (i x y z tok : Nat) (acc : List Ck) (ts : List AV) (τ : Heap) : Prop where
  hl : ts.length = 186
  h5 : tmp ts 5 = .bp I.ib 0 0
  h6 : tmp ts 6 = .bp I.io 0 0
  h7 : tmp ts 7 = .bp I.it 0 0
  h12 : tmp ts 12 = .mp I.m1
  h13 : tmp ts 13 = .mp I.m2
  h18 : tmp ts 18 = .bp I.l 0 0
  h19 : tmp ts 19 = .bp I.a 0 0
  h20 : tmp ts 20 = .fn (.func 16) [] [.bp I.a 0 0, .bp I.l 0 0, .bp I.ib 0 0, .bp I.io 0 0, .bp I.it 0 0]
  h21 : tmp ts 21 = .int .i64 i
  H : OH τ.obj τ.next B O T mo mt I tok acc x y z
  hx : x ≤ i
  hi : i ≤ b.length
  hy : y ≤ o.length
  hz : z ≤ t.length
  ha : Ahead mo mt i y z
  hn : acc.length ≤ 2 * i
  hR : acc ++ ofM b o t mo mt i x y z = R

theorem main_loop {K : KC2} {b o t : List Int} {B O T : AV} (hB : IsRow B (ints b)) (hO : IsRow O (ints o)) (hT : IsRow T (ints t)) (hlb : b.length ≤ 1000000) (hlo : o.length ≤ 1000000) (hlt : t.length ≤ 1000000) {mo mt : List (Int × Int)} (Ho : Good b o mo) (Ht : Good b t mt) {I : Ids} {R : List Ck}
    (hK : ∀ i x y z tok acc ts loc τ, i = b.length → MS b o t mo mt I B O T R i x y z tok acc ts τ → K.k (.exit 4) ts loc τ)
    (tok : Nat) (acc : List Ck) (x y z i : Nat) (ts : List AV) (loc : Go.Proofs.YtbmkgpocnkiibaaW.Abs.Loc) (τ : Heap) (h : MS b o t mo mt I B O T R i x y z tok acc ts τ) : loop2I Try.prog W0 C [] F8l1 ts loc τ := by
  refine loop2I_ind cok F8l1w (α := Nat × Nat × Nat × Nat × Nat × List Ck) (m := fun p => b.length - p.1) (I := fun p ts loc τ => MS b o t mo mt I B O T R p.1 p.2.1 p.2.2.1 p.2.2.2.1 p.2.2.2.2.1 p.2.2.2.2.2 ts τ) ?_ (i, x, y, z, tok, acc) h
  clear h ts loc τ tok acc x y z i
  rintro ⟨i, x, y, z, tok, acc⟩ ts loc τ h ih'
  obtain ⟨hl, h5, h6, h7, h12, h13, h18, h19, h20, h21, H, hx, hi, hy, hz, ha, hn, hR⟩ := h
  dsimp only at hl h5 h6 h7 h12 h13 h18 h19 h20 h21 H hx hi hy hz ha hn hR ih'
  simp (disch := first | omega | (simp only [List.length_set]; omega)) [F8l1, hl, h5, h21, H.fb, hB.len]
  by_cases hlt' : i < b.length
  · simp (disch := first | omega | (simp only [List.length_set]; omega)) [hlt', hl, h5, h12, h13, h21, H.f1, H.f2, mfind_some, look_kv]
    have skip : ∀ (e : ofM b o t mo mt i x y z = ofM b o t mo mt (i + 1) x y z) (ts' : List AV) (loc : Go.Proofs.YtbmkgpocnkiibaaW.Abs.Loc) (n : Nat), τ.next ≤ n → ts'.length = 186 → tmp ts' 5 = tmp ts 5 → tmp ts' 6 = tmp ts 6 → tmp ts' 7 = tmp ts 7 → tmp ts' 12 = tmp ts 12 → tmp ts' 13 = tmp ts 13 →
        tmp ts' 18 = tmp ts 18 → tmp ts' 19 = tmp ts 19 → tmp ts' 20 = tmp ts 20 → tmp ts' 21 = .int .i64 ((i + 1 : Nat) : Int) → loop2I Try.prog W0 C [] F8l1 ts' loc ⟨n, τ.obj⟩ := by
      intro e ts' loc n hn' g0 g5 g6 g7 g12 g13 g18 g19 g20 g21
      refine ih' (i + 1, x, y, z, tok, acc) _ _ _ (by simp only; omega) ⟨g0, g5.trans h5, g6.trans h6, g7.trans h7, g12.trans h12, g13.trans h13, g18.trans h18, g19.trans h19, g20.trans h20, g21, H.mono hn', by simp only; omega, by simp only; omega, hy, hz, fun i' q => ha i' (by simp only at q; omega), by simp only; omega, ?_⟩
      rw [← e]; exact hR
    cases e1 : findM mo i with
    | none =>
      simp (disch := first | omega | (simp only [List.length_set]; omega)) [hl, h5, h12, h13, h21, e1]
      refine skip (ofM_skip1 hlt' e1) _ _ _ (by omega) ?_ ?_ ?_ ?_ ?_ ?_ ?_ ?_ ?_ ?_
      all_goals simp (disch := first | omega | (simp only [List.length_set]; omega)) [hl, h21, wrap_id]
    | some v =>
      cases e2 : findM mt i with
      | none =>
        simp (disch := first | omega | (simp only [List.length_set]; omega)) [hl, h5, h12, h13, h21, e1, e2]
        refine skip (ofM_skip2 hlt' e2) _ _ _ (by omega) ?_ ?_ ?_ ?_ ?_ ?_ ?_ ?_ ?_ ?_
        all_goals simp (disch := first | omega | (simp only [List.length_set]; omega)) [hl, h21, wrap_id]
      | some w =>
        have f1 := Ho.find e1
        have f2 := Ht.find e2
        obtain ⟨j, rfl⟩ : ∃ j : Nat, v = j := ⟨v.toNat, by omega⟩
        obtain ⟨k, rfl⟩ : ∃ k : Nat, w = k := ⟨w.toNat, by omega⟩
        have hay := (ha i (Nat.le_refl _)).1 _ e1
        have haz := (ha i (Nat.le_refl _)).2 _ e2
        rw [ofM_run hlt' e1 e2] at hR
        simp (disch := first | omega | (simp only [List.length_set]; omega)) [hl, h5, h12, h13, h20, h21, e1, e2]
        refine hcallI_use (between_spec (i := i) (j := j) (k := k) hB hO hT acc hx (by omega) (by omega) (by omega) (by omega) (by omega) hlb hlo hlt H.fl H.fa H.fb H.fo H.ft H.ac
          (by have := H.lt.l; dsimp only; omega) (by have := H.lt.a; dsimp only; omega) (by have := H.lt.ib; dsimp only; omega) (by have := H.lt.io; dsimp only; omega) (by have := H.lt.it; dsimp only; omega) H.ne.al (fun e => by have := H.tk e; dsimp only; omega) (by omega)) (by simp [bareL]) ?_
        rintro _ τ' hτn ⟨rfl, tok', fl, fa, ac, tk, keep⟩
        have H' : OH τ'.obj τ'.next B O T mo mt I tok' (acc ++ betw b o t x y z i j k) i j k := H.next (by dsimp only at hτn; omega) fl fa ac tk (fun q v h0 => keep q v (by dsimp only; omega))
        have hlen : (acc ++ betw b o t x y z i j k).length ≤ 2 * i + 1 := by have := betw_le b o t x y z i j k; simp; omega
        clear keep fl fa ac tk H
        have hn1 := runLen_ge b.length mo mt i j k 1
        obtain ⟨_, n2, n3, n4, _, _⟩ := run_facts Ho Ht e1 e2
        have nst := runLen_all b.length mo mt i j k 1
        have hR' : (acc ++ betw b o t x y z i j k ++ [⟨1, i, i + runLen b.length mo mt i j k 1, j, j + runLen b.length mo mt i j k 1, k, k + runLen b.length mo mt i j k 1⟩]) ++
          ofM b o t mo mt (i + runLen b.length mo mt i j k 1) (i + runLen b.length mo mt i j k 1) (j + runLen b.length mo mt i j k 1) (k + runLen b.length mo mt i j k 1) = R := by rw [← hR]; simp
        clear hR
        generalize acc ++ betw b o t x y z i j k = acc' at *
        simp (disch := first | omega | (simp only [List.length_set]; omega)) [hl, h5, h12, h13, h20, h21, e1, e2]
        refine run_loop hB hlb mo mt τ'.next _ i j k (by omega) (by omega) H'.fb H'.f1 H'.f2 (fun ts2 τ2 g0 g5 g6 g7 g12 g13 g18 g19 g20 g21 g22 g24 g26 gn gτ => ?_) _ _ (by simp [hl]) (by simp (disch := first | omega | (simp only [List.length_set]; omega)) [hl, h5]) (by simp (disch := first | omega | (simp only [List.length_set]; omega)) [hl, h6]; rfl) (by simp (disch := first | omega | (simp only [List.length_set]; omega)) [hl, h7]; rfl) (by simp (disch := first | omega | (simp only [List.length_set]; omega)) [hl, h12]) (by simp (disch := first | omega | (simp only [List.length_set]; omega)) [hl, h13]) (by simp (disch := first | omega | (simp only [List.length_set]; omega)) [hl, h18]; rfl) (by simp (disch := first | omega | (simp only [List.length_set]; omega)) [hl, h19]; rfl) (by simp (disch := first | omega | (simp only [List.length_set]; omega)) [hl, h20]; rfl) (by simp (disch := first | omega | (simp only [List.length_set]; omega)) [hl, h21]) (by simp (disch := first | omega | (simp only [List.length_set]; omega)) [hl]) (by simp (disch := first | omega | (simp only [List.length_set]; omega)) [hl]) (by simp (disch := first | omega | (simp only [List.length_set]; omega)) [hl]) (by simp) rfl hlt'
        generalize runLen b.length mo mt i j k 1 = n at *
        have hal := H'.ne.al
        simp (disch := first | omega | (simp only [List.length_set]; omega)) [g0, g5, g6, g7, g12, g13, g18, g19, g20, g21, g22, g24, g26, gτ, H'.fa, H'.fl, upd_ne, H'.ne.al, H'.ne.al.symm, wrap_id]
        clear hK skip
        refine andI_intro (by rw [appOk_acc (H'.acOk _)]; simp; omega) ?_
        simp (disch := first | omega | (simp only [List.length_set]; omega)) [g0, g5, g6, g7, g12, g13, g18, g19, g20, g21, g22, g24, g26, gτ, H'.fa, H'.fl, upd_ne, H'.ne.al, H'.ne.al.symm, wrap_id]
        have hpush := fun m (hm : τ2.next + 11 + 18 < m) => H'.push (m := m) ⟨1, i, i + n, j, j + n, k, k + n⟩ (e := [AV.int .i64 1, .int .i64 i, .int .i64 ((i : Int) + n), .int .i64 j, .int .i64 ((j : Int) + n), .int .i64 k, .int .i64 ((k : Int) + n)]) (by simp [Ck.enc]) (id := τ2.next + 11 + 18) (ty := 33) (by omega) hm (i + n) (j + n) (k + n) (A := [.int .i64 ((i : Int) + n), .int .i64 ((j : Int) + n), .int .i64 ((k : Int) + n)]) (by simp)
        simp (disch := first | omega | (simp only [List.length_set]; omega)) [g0, g5, g6, g7, g12, g13, g18, g19, g20, g21, g22, g24, g26, gτ, (hpush _ (Nat.lt_succ_self _)).1, wrap_id]
        refine ih' (i + n, i + n, j + n, k + n, τ2.next + 11 + 18, acc' ++ [⟨1, i, i + n, j, j + n, k, k + n⟩]) _ _ _ (by simp only; omega) ⟨by simp [g0], by simp (disch := first | omega | (simp only [List.length_set]; omega)) [g5], by simp (disch := first | omega | (simp only [List.length_set]; omega)) [g6], by simp (disch := first | omega | (simp only [List.length_set]; omega)) [g7], by simp (disch := first | omega | (simp only [List.length_set]; omega)) [g12], by simp (disch := first | omega | (simp only [List.length_set]; omega)) [g13], by simp (disch := first | omega | (simp only [List.length_set]; omega)) [g18], by simp (disch := first | omega | (simp only [List.length_set]; omega)) [g19], by simp (disch := first | omega | (simp only [List.length_set]; omega)) [g20], ?_, by first | exact (hpush _ (by omega)).2 | exact (hpush _ (by dsimp only; omega)).2, by simp only; omega, by simp only; omega, by simp only; omega, by simp only; omega, ?_, by simp; omega, hR'⟩
        · simp (disch := first | omega | (simp only [List.length_set]; omega)) [wrap_id]
          omega
        · intro i' h
          have m1 : findM mo (i + (n - 1) : Nat) = some ((j + (n - 1) : Nat) : Int) ∧ findM mt (i + (n - 1) : Nat) = some ((k + (n - 1) : Nat) : Int) := by
            by_cases h0 : n - 1 = 0
            · rw [h0]; exact ⟨by simpa using e1, by simpa using e2⟩
            · exact nst (n - 1) (by omega) (by omega)
          simp only at h
          refine ⟨fun v hv => ?_, fun v hv => ?_⟩
          · have := Ho.mono m1.1 hv (by omega); simp only; omega
          · have := Ht.mono m1.2 hv (by omega); simp only; omega
  · simp (disch := first | omega | (simp only [List.length_set]; omega)) [hlt', hl, h5, h21]
    exact hK i x y z tok acc _ _ _ (by omega) ⟨by simp [hl], by simp (disch := first | omega | (simp only [List.length_set]; omega)) [h5], by simp (disch := first | omega | (simp only [List.length_set]; omega)) [h6], by simp (disch := first | omega | (simp only [List.length_set]; omega)) [h7], by simp (disch := first | omega | (simp only [List.length_set]; omega)) [h12], by simp (disch := first | omega | (simp only [List.length_set]; omega)) [h13], by simp (disch := first | omega | (simp only [List.length_set]; omega)) [h18], by simp (disch := first | omega | (simp only [List.length_set]; omega)) [h19], by simp (disch := first | omega | (simp only [List.length_set]; omega)) [h20], by simp (disch := first | omega | (simp only [List.length_set]; omega)) [h21], H.mono (by dsimp only; omega), hx, hi, hy, hz, ha, hn, hR⟩
end Go.Proofs.Ytbmkgpocnkiibaa.Lt

/- chunk.Of. -/
namespace Go.Proofs.Ytbmkgpocnkiibaa.Lt
open Go.Proofs.YtbmkgpocnkiibaaW.Abs Go
set_option maxRecDepth 100000
set_option maxHeartbeats 4000000
set_option linter.unusedSimpArgs false
set_option linter.unusedVariables false
variable {W0 : World}

def ofR (b o t : List Int) (mo mt : List (Int × Int)) : AV :=
  if rightM b o (-1, -1) mo = true ∧ rightM b t (-1, -1) mt = true then .tup [rowV ((ofM b o t mo mt 0 0 0 0).map Ck.enc), .int .i64 0] else .tup [.nils, .int .i64 8]

theorem of_spec {b o t : List Int} {B O T : AV} (hB : IsRow B (ints b)) (hO : IsRow O (ints o)) (hT : IsRow T (ints t)) (hlb : b.length ≤ 1000000) (hlo : o.length ≤ 1000000) (hlt : t.length ≤ 1000000) {mo mt : List (Int × Int)} {MO MT : AV} (hMO : IsRow MO (prs mo)) (hMT : IsRow MT (prs mt)) (hlm : mo.length ≤ 140737488355328) (hln : mt.length ≤ 140737488355328) :
    PCall Try.prog W0 8 [B, O, T, MO, MT] (ofR b o t mo mt) := by
  refine pcall2 cok Try.func8 F8d F8e F8c F8w F8r (fun N => ?_)
  refine ev2I_intro ?_
  simp (disch := first | omega | (simp only [List.length_set]; omega)) [F8s, hB.cells, hB.one, hO.cells, hO.one, hT.cells, hT.one, upd_ne]
  refine hcallI_pure (right_spec b o mo hB hO hMO hlm) (by simp [bareL, hB.same (ints_bare b), hO.same (ints_bare o), hMO.same (prs_bare mo)]) (fun M1 hM1 => ?_)
  by_cases r1 : rightM b o (-1, -1) mo = true
  · simp (disch := first | omega | (simp only [List.length_set]; omega)) [r1, upd_ne]
    refine hcallI_pure (right_spec b t mt hB hT hMT hln) (by simp [bareL, hB.same (ints_bare b), hT.same (ints_bare t), hMT.same (prs_bare mt)]) (fun M hM => ?_)
    by_cases r2 : rightM b t (-1, -1) mt = true
    · simp (disch := first | omega | (simp only [List.length_set]; omega)) [r2, upd_ne, hMO.len]
      have hM' : N + 17 ≤ M := by dsimp only at hM hM1; omega
      clear hM hM1
      refine fill3 hMO hlm r1 (M + 2) (fun ts loc τ g0 g4 g5 g6 g7 g12 g13 gn gτ => ?_) _ _ _ (by rfl) (by rfl) (by rfl) (by rfl) (by rfl) (by rfl) (by rfl) (by rfl) (by rfl) (by rfl) (by dsimp only; omega) rfl (by simp [upd_ne])
      simp (disch := first | omega | (simp only [List.length_set]; omega)) [g0, g4, g5, g6, g7, g12, g13, hMT.len]
      refine fill2 (m1 := M + 1) hMT hln r2 (M + 2) (fun ts2 loc2 τ2 k0 k5 k6 k7 k12 k13 kn kτ => ?_) _ _ _ (by simp [g0]) (by simp (disch := first | omega | (simp only [List.length_set]; omega)) [g5]; rfl) (by simp (disch := first | omega | (simp only [List.length_set]; omega)) [g6]; rfl) (by simp (disch := first | omega | (simp only [List.length_set]; omega)) [g7]; rfl) (by simp (disch := first | omega | (simp only [List.length_set]; omega)) [g12]; rfl) (by simp (disch := first | omega | (simp only [List.length_set]; omega)) [g13]) (by simp (disch := first | omega | (simp only [List.length_set]; omega)) [g4]) (by simp (disch := first | omega | (simp only [List.length_set]; omega)) [g4]) (by simp (disch := first | omega | (simp only [List.length_set]; omega)) [g4]) (by dsimp only; omega) gτ (by simp [upd_ne])
      have kτ' : τ2.obj = upd (upd (upd (upd (upd (fun x => none) N (some (AObj.box 22 [[B]]))) (N + 1) (some (AObj.box 22 [[O]]))) (N + 2) (some (AObj.box 22 [[T]]))) M (some (.map (kvM mo)))) (M + 1) (some (.map (kvM mt))) := by
        rw [kτ]; funext q; simp only [upd]; split
        · rfl
        · split <;> simp_all
      clear kτ gτ
      simp (disch := first | omega | (simp only [List.length_set]; omega)) [k0, k5, k6, k7, k12, k13, kτ', upd_ne]
      have Ho : Good b o mo := ⟨r1⟩
      have Ht : Good b t mt := ⟨r2⟩
      refine main_loop hB hO hT hlb hlo hlt Ho Ht (I := ⟨N, N + 1, N + 2, M, M + 1, τ2.next, τ2.next + 1 + 1, 22, 22, 22, 25, 47⟩) (R := ofM b o t mo mt 0 0 0 0) (fun i x y z tok acc ts3 loc3 τ3 hi h => ?_) 0 [] 0 0 0 0 _ _ _ ?_
      · obtain ⟨hl, h5, h6, h7, h12, h13, h18, h19, h20, h21, H, hx, hi', hy, hz, ha, hn, hR⟩ := h
        dsimp only at h5 h6 h7 h12 h13 h18 h19 h20 h21 hx hi' hy hz hn
        rw [ofM_end (by omega)] at hR
        have e5 := H.fb; have e6 := H.fo; have e7 := H.ft; have e18 := H.fl
        dsimp only at e5 e6 e7 e18
        simp (disch := first | omega | (simp only [List.length_set]; omega)) [hl, h5, h6, h7, h18, h20, e5, e6, e7, hB.len, hO.len, hT.len]
        refine hcallI_use (between_spec (i := b.length) (j := o.length) (k := t.length) hB hO hT acc (by omega) (by omega) (by omega) (by omega) (by omega) (by omega) hlb hlo hlt H.fl H.fa H.fb H.fo H.ft H.ac
          (by have := H.lt.l; dsimp only at *; omega) (by have := H.lt.a; dsimp only at *; omega) (by have := H.lt.ib; dsimp only at *; omega) (by have := H.lt.io; dsimp only at *; omega) (by have := H.lt.it; dsimp only at *; omega) H.ne.al (fun e => by have := H.tk e; dsimp only at *; omega) (by omega)) (by simp [bareL]) ?_
        rintro _ τ4 hτn ⟨rfl, tok', fl, fa, ac, tk, keep⟩
        dsimp only at fl
        rw [hR] at fl
        simp (disch := first | omega | (simp only [List.length_set]; omega)) [hl, h18, fl]
        simp [ofR, r1, r2, Ck.enc, bareL]
        rfl
      · refine ⟨by simp [k0], by simp (disch := first | omega | (simp only [List.length_set]; omega)) [k5], by simp (disch := first | omega | (simp only [List.length_set]; omega)) [k6], by simp (disch := first | omega | (simp only [List.length_set]; omega)) [k7], by simp (disch := first | omega | (simp only [List.length_set]; omega)) [k12], by simp (disch := first | omega | (simp only [List.length_set]; omega)) [k13], by simp (disch := first | omega | (simp only [List.length_set]; omega)) [k12], by simp (disch := first | omega | (simp only [List.length_set]; omega)) [k12], by simp (disch := first | omega | (simp only [List.length_set]; omega)) [k12], by simp (disch := first | omega | (simp only [List.length_set]; omega)) [k12], ?_, by simp, by simp, by simp, by simp, fun i' _ => ⟨fun v hv => by have := (Ho.find hv).1; omega, fun v hv => by have := (Ht.find hv).1; omega⟩, by simp, rfl⟩
        refine ⟨by simp (disch := first | omega | (simp only [List.length_set]; omega)) [upd_ne], by simp (disch := first | omega | (simp only [List.length_set]; omega)) [upd_ne], by simp (disch := first | omega | (simp only [List.length_set]; omega)) [upd_ne], by simp (disch := first | omega | (simp only [List.length_set]; omega)) [upd_ne], by simp (disch := first | omega | (simp only [List.length_set]; omega)) [upd_ne], by simp (disch := first | omega | (simp only [List.length_set]; omega)) [upd_ne], by simp (disch := first | omega | (simp only [List.length_set]; omega)) [upd_ne], by simp [AccOk], ⟨?_, ?_, ?_, ?_, ?_, ?_, ?_⟩, ⟨?_, ?_, ?_, ?_, ?_, ?_, ?_, ?_, ?_, ?_, ?_⟩, fun h => absurd rfl h⟩
        all_goals (dsimp only; omega)
    · simp (disch := first | omega | (simp only [List.length_set]; omega)) [r2, ofR, r1]
  · simp (disch := first | omega | (simp only [List.length_set]; omega)) [r1, ofR]
end Go.Proofs.Ytbmkgpocnkiibaa.Lt

/- The chapter's example. -/
namespace Go.Proofs.Ytbmkgpocnkiibaa.Lt
open Go.Proofs.YtbmkgpocnkiibaaW.Abs Go
set_option maxRecDepth 100000
set_option maxHeartbeats 4000000
set_option linter.unusedSimpArgs false
set_option linter.unusedVariables false
variable {W0 : World}

theorem ex_chunks : ofM [1, 2, 3] [1, 9, 3] [1, 2, 3, 4] [(0, 0), (2, 2)] [(0, 0), (1, 1), (2, 2)] 0 0 0 0 = [⟨1, 0, 1, 0, 1, 0, 1⟩, ⟨2, 1, 2, 1, 2, 1, 2⟩, ⟨1, 2, 3, 2, 3, 2, 3⟩, ⟨3, 3, 3, 3, 3, 3, 4⟩] := by
  have r1 : runLen 3 [(0, 0), (2, 2)] [(0, 0), (1, 1), (2, 2)] 0 0 0 1 = 1 := by rw [runLen]; decide
  have r2 : runLen 3 [(0, 0), (2, 2)] [(0, 0), (1, 1), (2, 2)] 2 2 2 1 = 1 := by rw [runLen]; decide
  rw [ofM_run (j := 0) (k := 0) (by decide) (by decide) (by decide), List.length_cons, List.length_cons, List.length_cons, List.length_nil, r1, ofM_skip1 (by decide) (by decide), ofM_run (j := 2) (k := 2) (by decide) (by decide) (by decide), List.length_cons, List.length_cons, List.length_cons, List.length_nil, r2, ofM_end (by decide)]
  decide
theorem ints3 (l : List Int) : l.map (fun n => [AV.int .i64 n]) = ints l := rfl
theorem known_spec : PCall Try.prog W0 10 [] (.bool true) := by
  refine pcall2 cok Try.func10 F10d F10e F10c F10w F10r (fun N => ?_)
  refine ev2I_intro ?_
  simp (disch := first | omega | (simp only [List.length_set]; omega)) [F10s]
  have e1 : rightM [1, 2, 3] [1, 9, 3] (-1, -1) [(0, 0), (2, 2)] = true := by decide
  have e2 : rightM [1, 2, 3] [1, 2, 3, 4] (-1, -1) [(0, 0), (1, 1), (2, 2)] = true := by decide
  have e3 : ¬ rightM [1, 2, 3] [1, 9, 3] (-1, -1) [(1, 1)] = true := by decide
  refine hcallI_pure (of_spec (b := [1, 2, 3]) (o := [1, 9, 3]) (t := [1, 2, 3, 4]) (mo := [(0, 0), (2, 2)]) (mt := [(0, 0), (1, 1), (2, 2)]) (IsRow.row _) (IsRow.row _) (IsRow.row _) (by simp) (by simp) (by simp) (IsRow.row _) (IsRow.row _) (by simp) (by simp)) (by simp [ints, prs, bareL]) (fun M hM => ?_)
  simp (disch := first | omega | (simp only [List.length_set]; omega)) [ofR, e1, e2, ex_chunks]
  refine hcallI_pure (of_spec (b := [1, 2, 3]) (o := [1, 9, 3]) (t := [1, 2, 3, 4]) (mo := [(1, 1)]) (mt := []) (IsRow.row _) (IsRow.row _) (IsRow.row _) (by simp) (by simp) (by simp) (IsRow.row _) IsRow.nils (by simp) (by simp)) (by simp [ints, prs, bareL]) (fun M hM => ?_)
  simp (disch := first | omega | (simp only [List.length_set]; omega)) [ofR, e3, Ck.enc]
end Go.Proofs.Ytbmkgpocnkiibaa.Lt
