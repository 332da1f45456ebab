/- The chunks' laws, in plain Lean: they are all of each row. -/
import Derived.Test.YtbmkgpocnkiibaaChk11
namespace Go.Proofs.Ytbmkgpocnkiibaa.Lt
open Go.Proofs.YtbmkgpocnkiibaaW.Abs Go
set_option maxRecDepth 100000
set_option maxHeartbeats 2000000
set_option linter.unusedSimpArgs false
set_option linter.unusedVariables false

theorem sortOf_range (x y z : List Int) : 2 ≤ sortOf x y z ∧ sortOf x y z ≤ 5 := by
  unfold sortOf; split
  · omega
  · split
    · omega
    · split <;> omega

/-- chunk by chunk all of each row; q: the sort of the chunk ahead -/
def Cov (b o t : List Int) : Option Int → Nat → Nat → Nat → List Ck → Prop
  | _, i, j, k, [] => i = b.length ∧ j = o.length ∧ k = t.length
  | q, i, j, k, c :: r => c.b0 = i ∧ c.o0 = j ∧ c.t0 = k ∧ i ≤ c.b1 ∧ j ≤ c.o1 ∧ k ≤ c.t1 ∧ c.b1 + c.o1 + c.t1 ≠ i + j + k ∧ c.b1 ≤ b.length ∧ c.o1 ≤ o.length ∧ c.t1 ≤ t.length ∧
      1 ≤ c.s ∧ c.s ≤ 5 ∧ (c.s = 1 → cut b i c.b1 = cut o j c.o1 ∧ cut b i c.b1 = cut t k c.t1) ∧ (∀ x, q = some x → (x = 1 ↔ c.s ≠ 1)) ∧ Cov b o t (some c.s) c.b1 c.o1 c.t1 r

/-- what is known of pairs that are a common row -/
structure Good (b o : List Int) (mo : List (Int × Int)) : Prop where
  r : rightM b o (-1, -1) mo = true
theorem Good.find {b o : List Int} {mo : List (Int × Int)} (H : Good b o mo) {i : Nat} {v : Int} (h : findM mo i = some v) : 0 ≤ v ∧ v < o.length ∧ i < b.length ∧ b[i]? = o[v.toNat]? := by
  have := right_from b o mo (-1, -1) H.r _ (findM_mem h)
  simp only at this
  refine ⟨by omega, by omega, by omega, by simpa using this.2.2.2.2⟩
theorem Good.mono {b o : List Int} {mo : List (Int × Int)} (H : Good b o mo) {i j : Nat} {v w : Int} (h1 : findM mo i = some v) (h2 : findM mo j = some w) (hlt : i < j) : v < w :=
  right_mono H.r (findM_mem h1) (findM_mem h2) (by simpa using hlt)

theorem cut_eq {b o : List Int} {i j n : Nat} (hi : i + n ≤ b.length) (hj : j + n ≤ o.length) (h : ∀ m, m < n → b[i + m]? = o[j + m]?) : cut b i (i + n) = cut o j (j + n) := by
  apply List.ext_getElem?
  intro m
  unfold cut
  rw [List.getElem?_drop, List.getElem?_drop]
  by_cases hm : m < n
  · rw [List.getElem?_take, List.getElem?_take, if_pos (by omega), if_pos (by omega)]; exact h m hm
  · rw [List.getElem?_take, List.getElem?_take, if_neg (by omega), if_neg (by omega)]

theorem runLen_stop {nb : Nat} {mo mt : List (Int × Int)} (i j k n : Nat) : ¬ (i + runLen nb mo mt i j k n < nb ∧ findM mo (i + runLen nb mo mt i j k n : Nat) = some ((j + runLen nb mo mt i j k n : Nat) : Int) ∧ findM mt (i + runLen nb mo mt i j k n : Nat) = some ((k + runLen nb mo mt i j k n : Nat) : Int)) := by
  rw [runLen]
  split
  · rename_i hlt
    split
    · exact runLen_stop i j k (n + 1)
    · rename_i hc; exact fun h => hc h.2
  · rename_i hlt; exact fun h => hlt h.1
termination_by nb - (i + n)

/-- a run's facts -/
theorem run_facts {b o t : List Int} {mo mt : List (Int × Int)} (Ho : Good b o mo) (Ht : Good b t mt) {i j k : Nat} (h1 : findM mo i = some (j : Int)) (h2 : findM mt i = some (k : Int)) :
    let n := runLen b.length mo mt i j k 1
    1 ≤ n ∧ i + n ≤ b.length ∧ j + n ≤ o.length ∧ k + n ≤ t.length ∧ cut b i (i + n) = cut o j (j + n) ∧ cut b i (i + n) = cut t k (k + n) := by
  intro n
  have hib := (Ho.find h1).2.2.1
  have hge : 1 ≤ n := runLen_ge b.length mo mt i j k 1
  have hle : i + n ≤ b.length := runLen_le b.length mo mt i j k 1 (by omega)
  have hall : ∀ m, m < n → findM mo (i + m : Nat) = some ((j + m : Nat) : Int) ∧ findM mt (i + m : Nat) = some ((k + m : Nat) : Int) := fun m hm => by
    by_cases h0 : m = 0
    · subst h0; exact ⟨by simpa using h1, by simpa using h2⟩
    · exact runLen_all b.length mo mt i j k 1 m (by omega) hm
  have hj : j + n ≤ o.length := by
    have := (Ho.find (hall (n - 1) (by omega)).1).2.1
    omega
  have hk : k + n ≤ t.length := by
    have := (Ht.find (hall (n - 1) (by omega)).2).2.1
    omega
  refine ⟨hge, hle, hj, hk, cut_eq hle hj fun m hm => ?_, cut_eq hle hk fun m hm => ?_⟩
  · have := (Ho.find (hall m hm).1).2.2.2
    rwa [Int.toNat_natCast] at this
  · have := (Ht.find (hall m hm).2).2.2.2
    rwa [Int.toNat_natCast] at this

theorem cov_betw {b o t : List Int} {q : Option Int} {x y z i j k : Nat} {r : List Ck} (hx : x ≤ i) (hy : y ≤ j) (hz : z ≤ k) (hi : i ≤ b.length) (hj : j ≤ o.length) (hk : k ≤ t.length)
    (hq : ∀ s, q = some s → s = 1) (h1 : x = i → y = j → z = k → Cov b o t q i j k r) (h2 : ∀ s, s ≠ 1 → Cov b o t (some s) i j k r) : Cov b o t q x y z (betw b o t x y z i j k ++ r) := by
  unfold betw
  split
  · rename_i h
    obtain ⟨rfl, rfl, rfl⟩ := h
    exact h1 rfl rfl rfl
  · rename_i h
    have hs := sortOf_range (cut b x i) (cut o y j) (cut t z k)
    refine ⟨rfl, rfl, rfl, hx, hy, hz, ?_, hi, hj, hk, ?_, ?_, ?_, ?_, ?_⟩
    · simp only; omega
    · simp only; omega
    · simp only; omega
    · intro e; simp only at e; omega
    · intro s e; have := hq s e; simp only; constructor <;> intro <;> omega
    · refine h2 _ ?_; show sortOf (cut b x i) (cut o y j) (cut t z k) ≠ 1; omega

/-- the places that are done lie ahead of what follows -/
def Ahead (mo mt : List (Int × Int)) (i y z : Nat) : Prop := ∀ i' : Nat, i ≤ i' → (∀ v, findM mo i' = some v → (y : Int) ≤ v) ∧ (∀ v, findM mt i' = some v → (z : Int) ≤ v)

theorem cov_ofM {b o t : List Int} {mo mt : List (Int × Int)} (Ho : Good b o mo) (Ht : Good b t mt) : ∀ (i x y z : Nat) (q : Option Int), x ≤ i → i ≤ b.length → y ≤ o.length → z ≤ t.length → Ahead mo mt i y z →
    (∀ s, q = some s → s = 1 ∧ (x = i → ¬ (i < b.length ∧ findM mo i = some (y : Int) ∧ findM mt i = some (z : Int)))) → Cov b o t q x y z (ofM b o t mo mt i x y z) := by
  intro i x y z q hx hi hy hz ha hq
  by_cases hlt : i < b.length
  · cases e1 : findM mo i with
    | none =>
      rw [ofM_skip1 hlt e1]
      exact cov_ofM Ho Ht (i + 1) x y z q (by omega) (by omega) hy hz (fun i' h => ha i' (by omega)) (fun s e => ⟨(hq s e).1, fun h => by omega⟩)
    | some v =>
      cases e2 : findM mt i with
      | none =>
        rw [ofM_skip2 hlt e2]
        exact cov_ofM Ho Ht (i + 1) x y z q (by omega) (by omega) hy hz (fun i' h => ha i' (by omega)) (fun s e => ⟨(hq s e).1, fun h => by omega⟩)
      | some w =>
        have f1 := Ho.find e1
        have f2 := Ht.find e2
        obtain ⟨j, rfl⟩ : ∃ j : Nat, v = j := ⟨v.toNat, by omega⟩
        obtain ⟨k, rfl⟩ : ∃ k : Nat, w = k := ⟨w.toNat, by omega⟩
        rw [ofM_run hlt e1 e2]
        obtain ⟨n1, n2, n3, n4, n5, n6⟩ := run_facts Ho Ht e1 e2
        have nst := runLen_stop (nb := b.length) (mo := mo) (mt := mt) i j k 1
        have nall := runLen_all b.length mo mt i j k 1
        have nend : ∀ m, m < runLen b.length mo mt i j k 1 → findM mo (i + m : Nat) = some ((j + m : Nat) : Int) ∧ findM mt (i + m : Nat) = some ((k + m : Nat) : Int) := fun m hm => by
          by_cases h0 : m = 0
          · subst h0; exact ⟨by simpa using e1, by simpa using e2⟩
          · exact nall m (by omega) hm
        generalize runLen b.length mo mt i j k 1 = n at *
        have hay := (ha i (Nat.le_refl _)).1 _ e1
        have haz := (ha i (Nat.le_refl _)).2 _ e2
        have tail : Cov b o t (some 1) (i + n) (j + n) (k + n) (ofM b o t mo mt (i + n) (i + n) (j + n) (k + n)) := by
          refine cov_ofM Ho Ht (i + n) (i + n) (j + n) (k + n) (some 1) (by omega) n2 n3 n4 (fun i' h => ?_) (fun s e => ⟨by injection e with e; exact e.symm, fun _ => nst⟩)
          have m1 := nend (n - 1) (by omega)
          refine ⟨fun v hv => ?_, fun v hv => ?_⟩
          · have := Ho.mono m1.1 hv (by omega); omega
          · have := Ht.mono m1.2 hv (by omega); omega
        have run : ∀ q : Option Int, (∀ s, q = some s → s ≠ 1) → Cov b o t q i j k (⟨1, i, i + n, j, j + n, k, k + n⟩ :: ofM b o t mo mt (i + n) (i + n) (j + n) (k + n)) := fun q hq =>
          ⟨rfl, rfl, rfl, by simp, by simp, by simp, by simp only; omega, n2, n3, n4, by simp, by simp, fun _ => ⟨n5, n6⟩, fun s e => by have := hq s e; simp [this], tail⟩
        refine cov_betw hx (by omega) (by omega) (by omega) (by omega) (by omega) (fun s e => (hq s e).1) (fun hx1 hy1 hz1 => ?_) (fun s hs => run _ (fun s' e => by injection e with e; omega))
        refine run q fun s e => ?_
        exfalso
        refine (hq s e).2 hx1 ⟨hlt, ?_, ?_⟩
        · rw [e1, hy1]
        · rw [e2, hz1]
  · rw [ofM_end hlt]
    have := cov_betw (b := b) (o := o) (t := t) (q := q) (x := x) (y := y) (z := z) (i := b.length) (j := o.length) (k := t.length) (r := []) (by omega) hy hz (by omega) (by omega) (by omega) (fun s e => (hq s e).1)
      (fun _ _ _ => ⟨rfl, rfl, rfl⟩) (fun _ _ => ⟨rfl, rfl, rfl⟩)
    simpa using this
termination_by i => b.length - i
decreasing_by all_goals omega

theorem cov_all {b o t : List Int} {mo mt : List (Int × Int)} (Ho : Good b o mo) (Ht : Good b t mt) : Cov b o t none 0 0 0 (ofM b o t mo mt 0 0 0 0) :=
  cov_ofM Ho Ht 0 0 0 0 none (by omega) (by omega) (by omega) (by omega) (fun i' _ => ⟨fun v hv => by have := (Ho.find hv).1; omega, fun v hv => by have := (Ht.find hv).1; omega⟩) (fun s e => by cases e)

/-! the other way round -/
def turnS (s : Int) : Int := if s = 2 ∨ s = 3 then 5 - s else s
def Ck.turn (c : Ck) : Ck := ⟨turnS c.s, c.b0, c.b1, c.t0, c.t1, c.o0, c.o1⟩
theorem sortOf_turn (x y z : List Int) : sortOf x z y = turnS (sortOf x y z) := by
  unfold sortOf turnS
  by_cases h1 : y = z
  · subst h1; simp
  · have h1' : ¬ z = y := fun e => h1 e.symm
    by_cases h2 : x = y
    · by_cases h3 : x = z
      · exact absurd (h2.symm.trans h3) h1
      · simp [h1, h1', h2, h3]
    · by_cases h3 : x = z
      · simp [h1, h1', h2, h3]
      · simp [h1, h1', h2, h3]
theorem betw_turn (b o t : List Int) (x y z i j k : Nat) : betw b t o x z y i k j = (betw b o t x y z i j k).map Ck.turn := by
  unfold betw
  by_cases h : x = i ∧ y = j ∧ z = k
  · rw [if_pos h, if_pos ⟨h.1, h.2.2, h.2.1⟩]; rfl
  · rw [if_neg h, if_neg (fun e => h ⟨e.1, e.2.2, e.2.1⟩)]
    simp [Ck.turn, sortOf_turn (cut b x i) (cut o y j) (cut t z k)]
theorem runLen_turn (nb : Nat) (mo mt : List (Int × Int)) (i j k n : Nat) : runLen nb mt mo i k j n = runLen nb mo mt i j k n := by
  rw [runLen, runLen.eq_1 nb mo mt]
  split
  · rename_i h
    by_cases hc : findM mo (i + n : Nat) = some ((j + n : Nat) : Int) ∧ findM mt (i + n : Nat) = some ((k + n : Nat) : Int)
    · rw [if_pos hc, if_pos ⟨hc.2, hc.1⟩]; exact runLen_turn nb mo mt i j k (n + 1)
    · rw [if_neg hc, if_neg (fun e => hc ⟨e.2, e.1⟩)]
  · rfl
termination_by nb - (i + n)
theorem ofM_turn {b o t : List Int} {mo mt : List (Int × Int)} (Ho : Good b o mo) (Ht : Good b t mt) : ∀ (i x y z : Nat), ofM b t o mt mo i x z y = (ofM b o t mo mt i x y z).map Ck.turn := by
  intro i x y z
  by_cases hlt : i < b.length
  · cases e1 : findM mo i with
    | none =>
      rw [ofM_skip1 hlt e1, ofM_skip2 hlt e1]
      exact ofM_turn Ho Ht (i + 1) x y z
    | some v =>
      cases e2 : findM mt i with
      | none =>
        rw [ofM_skip2 hlt e2, ofM_skip1 hlt e2]
        exact ofM_turn Ho Ht (i + 1) x y z
      | some w =>
        have f1 := Ho.find e1
        have f2 := Ht.find e2
        obtain ⟨j, rfl⟩ : ∃ j : Nat, v = j := ⟨v.toNat, by omega⟩
        obtain ⟨k, rfl⟩ : ∃ k : Nat, w = k := ⟨w.toNat, by omega⟩
        have hn := runLen_ge b.length mo mt i j k 1
        rw [ofM_run hlt e1 e2, ofM_run hlt e2 e1, runLen_turn b.length mo mt i j k 1, List.map_append, List.map_cons, betw_turn, ofM_turn Ho Ht (i + runLen b.length mo mt i j k 1) _ (j + runLen b.length mo mt i j k 1)]
        simp [Ck.turn, turnS]
  · rw [ofM_end hlt, ofM_end hlt, betw_turn]
termination_by i => b.length - i
decreasing_by all_goals omega

/-! a row and itself -/
def ownP (n : Nat) : List (Int × Int) := (List.range n).map fun i : Nat => ((i : Int), (i : Int))
theorem ownP_mem {n : Nat} {p : Int × Int} (h : p ∈ ownP n) : ∃ i : Nat, i < n ∧ p = ((i : Int), (i : Int)) := by
  simp only [ownP, List.mem_map, List.mem_range] at h
  obtain ⟨i, hi, rfl⟩ := h; exact ⟨i, hi, rfl⟩
theorem findM_some_of {m : List (Int × Int)} {k v : Int} (h : (k, v) ∈ m) : ∃ w, findM m k = some w := by
  induction m with
  | nil => cases h
  | cons p r ih =>
    rw [findM]
    by_cases hp : p.1 = k
    · rw [if_pos hp]; exact ⟨_, rfl⟩
    · rw [if_neg hp]
      rcases List.mem_cons.1 h with e | e
      · exact absurd (by rw [← e]) hp
      · exact ih e
theorem findM_own {n i : Nat} (h : i < n) : findM (ownP n) i = some (i : Int) := by
  obtain ⟨w, hw⟩ := findM_some_of (m := ownP n) (k := i) (v := i) (by simp [ownP]; exact ⟨i, h, rfl⟩)
  obtain ⟨j, hj, e⟩ := ownP_mem (findM_mem hw)
  rw [hw]; injection e with e1 e2; rw [e2, ← e1]
theorem own_from (b : List Int) : ∀ (n i : Nat), i + n ≤ b.length → rightM b b ((i : Int) - 1, (i : Int) - 1) ((List.range' i n).map fun i : Nat => ((i : Int), (i : Int))) = true
  | 0, i, h => rfl
  | n + 1, i, h => by
    rw [List.range'_succ, List.map_cons, rightM_cons, Bool.and_eq_true]
    refine ⟨by simp [stepM]; omega, ?_⟩
    have := own_from b n (i + 1) (by omega)
    simpa using this
theorem own_right (b : List Int) : Good b b (ownP b.length) := by
  refine ⟨?_⟩
  have := own_from b b.length 0 (by omega)
  rw [ownP, List.range_eq_range']
  simpa using this
theorem runLen_own {nb : Nat} (i n : Nat) (h : i + n ≤ nb) : runLen nb (ownP nb) (ownP nb) i i i n = nb - i := by
  rw [runLen]
  by_cases hlt : i + n < nb
  · rw [dif_pos hlt, findM_own hlt]
    simp
    exact runLen_own i (n + 1) (by omega)
  · rw [dif_neg hlt]; omega
termination_by nb - (i + n)
theorem cut_full (b : List Int) : cut b 0 b.length = b := by simp [cut]
theorem self_runs (b : List Int) : ofM b b b (ownP b.length) (ownP b.length) 0 0 0 0 = if b.length = 0 then [] else [⟨1, 0, b.length, 0, b.length, 0, b.length⟩] := by
  by_cases h : b.length = 0
  · rw [if_pos h, ofM_end (by omega)]
    simp [betw, h]
  · rw [if_neg h, ofM_run (j := 0) (k := 0) (by omega) (by simpa using findM_own (n := b.length) (i := 0) (by omega)) (by simpa using findM_own (n := b.length) (i := 0) (by omega)), runLen_own 0 1 (by omega)]
    rw [ofM_end (by omega)]
    simp [betw]
theorem none_runs (b o t : List Int) (mt : List (Int × Int)) : ∀ i x y z, ofM b o t [] mt i x y z = betw b o t x y z b.length o.length t.length := by
  intro i x y z
  by_cases hlt : i < b.length
  · rw [ofM_skip1 hlt rfl]; exact none_runs b o t mt (i + 1) x y z
  · rw [ofM_end hlt]
termination_by i => b.length - i
decreasing_by omega
theorem self_none (b : List Int) : ofM b b b [] (ownP b.length) 0 0 0 0 = if b.length = 0 then [] else [⟨4, 0, b.length, 0, b.length, 0, b.length⟩] := by
  rw [none_runs]
  unfold betw
  by_cases h : b.length = 0
  · simp [h]
  · rw [if_neg h, if_neg (by omega)]
    simp [sortOf]

/-- with a side that is the base, paired with itself, no chunk is the other side's alone -/
theorem own_sorts {b t : List Int} {mt : List (Int × Int)} (Ht : Good b t mt) : ∀ (i x z : Nat), x ≤ i → ∀ c ∈ ofM b b t (ownP b.length) mt i x x z, c.s ≠ 2 ∧ c.s ≠ 5 := by
  intro i x z hx
  have hb : ∀ (x z i k : Nat), ∀ c ∈ betw b b t x x z i i k, c.s ≠ 2 ∧ c.s ≠ 5 := by
    intro x z i k c hc
    unfold betw at hc
    split at hc
    · cases hc
    · simp only [List.mem_singleton] at hc
      subst hc
      simp only [sortOf]
      split
      · omega
      · simp
  by_cases hlt : i < b.length
  · have e1 := findM_own hlt
    cases e2 : findM mt i with
    | none =>
      rw [ofM_skip2 hlt e2]
      exact own_sorts Ht (i + 1) x z (by omega)
    | some w =>
      have f2 := Ht.find e2
      obtain ⟨k, rfl⟩ : ∃ k : Nat, w = k := ⟨w.toNat, by omega⟩
      have hn := runLen_ge b.length (ownP b.length) mt i i k 1
      rw [ofM_run hlt e1 e2]
      intro c hc
      simp only [List.mem_append, List.mem_cons] at hc
      rcases hc with hc | rfl | hc
      · exact hb _ _ _ _ c hc
      · simp
      · exact own_sorts Ht (i + runLen b.length (ownP b.length) mt i i k 1) _ _ (by omega) c hc
  · rw [ofM_end hlt]; exact hb _ _ _ _
termination_by i => b.length - i
decreasing_by all_goals omega
end Go.Proofs.Ytbmkgpocnkiibaa.Lt
