import Derived.Test.YtbmkgpocnkiibaaA22
/- Longest common rows, in plain Lean. -/
namespace Go.Proofs.Ytbmkgpocnkiibaa.Lt
open Go.Proofs.YtbmkgpocnkiibaaW.Abs Go
set_option maxRecDepth 100000
set_option linter.unusedSimpArgs false
set_option linter.unusedVariables false

def lcs : List Int → List Int → Nat
  | [], _ => 0
  | _ :: _, [] => 0
  | x :: a, y :: b => if x = y then lcs a b + 1 else max (lcs a (y :: b)) (lcs (x :: a) b)
termination_by a b => a.length + b.length
/-- no common row is longer -/
theorem lcs_le : ∀ (a b l : List Int), l.Sublist a → l.Sublist b → l.length ≤ lcs a b
  | [], b, l, h1, h2 => by have := List.eq_nil_of_sublist_nil h1; subst this; simp
  | x :: a, [], l, h1, h2 => by have := List.eq_nil_of_sublist_nil h2; subst this; simp
  | x :: a, y :: b, l, h1, h2 => by
    rw [lcs]
    by_cases h : x = y
    · rw [if_pos h]; subst h
      cases l with
      | nil => simp
      | cons z l =>
        have t1 : l.Sublist a := by
          cases h1 with
          | cons _ h => exact (List.sublist_cons_self z l).trans h
          | cons_cons _ h => exact h
        have t2 : l.Sublist b := by
          cases h2 with
          | cons _ h => exact (List.sublist_cons_self z l).trans h
          | cons_cons _ h => exact h
        have := lcs_le a b l t1 t2
        simp only [List.length_cons]; omega
    · rw [if_neg h]
      cases h1 with
      | cons _ h1 => have := lcs_le a (y :: b) l h1 h2; omega
      | cons_cons _ h1 =>
        cases h2 with
        | cons _ h2 => have := lcs_le (x :: a) b _ (h1.cons_cons x) h2; omega
        | cons_cons _ h2 => exact absurd rfl h
termination_by a b => a.length + b.length
theorem lcs_ex : ∀ (a b : List Int), ∃ l : List Int, l.Sublist a ∧ l.Sublist b ∧ l.length = lcs a b
  | [], b => ⟨[], by simp, by simp, by simp [lcs]⟩
  | x :: a, [] => ⟨[], by simp, by simp, by simp [lcs]⟩
  | x :: a, y :: b => by
    rw [lcs]
    by_cases h : x = y
    · rw [if_pos h]; subst h
      obtain ⟨l, h1, h2, h3⟩ := lcs_ex a b
      exact ⟨x :: l, h1.cons_cons x, h2.cons_cons x, by simp [h3]⟩
    · rw [if_neg h]
      obtain ⟨l, h1, h2, h3⟩ := lcs_ex a (y :: b)
      obtain ⟨m, g1, g2, g3⟩ := lcs_ex (x :: a) b
      by_cases hm : lcs a (y :: b) ≤ lcs (x :: a) b
      · exact ⟨m, g1, g2.cons y, by omega⟩
      · exact ⟨l, h1.cons x, h2, by omega⟩
termination_by a b => a.length + b.length
theorem lcs_mono {a b c d : List Int} (h : ∀ l : List Int, l.Sublist a → l.Sublist b → ∃ m : List Int, m.Sublist c ∧ m.Sublist d ∧ l.length ≤ m.length) : lcs a b ≤ lcs c d := by
  obtain ⟨l, h1, h2, h3⟩ := lcs_ex a b
  obtain ⟨m, g1, g2, g3⟩ := h l h1 h2
  have := lcs_le c d m g1 g2
  omega
theorem lcs_comm (a b : List Int) : lcs a b = lcs b a :=
  Nat.le_antisymm (lcs_mono fun l h1 h2 => ⟨l, h2, h1, Nat.le_refl _⟩) (lcs_mono fun l h1 h2 => ⟨l, h2, h1, Nat.le_refl _⟩)
theorem lcs_rev (a b : List Int) : lcs a.reverse b.reverse = lcs a b :=
  Nat.le_antisymm (lcs_mono fun l h1 h2 => ⟨l.reverse, by simpa using h1.reverse, by simpa using h2.reverse, by simp⟩) (lcs_mono fun l h1 h2 => ⟨l.reverse, h1.reverse, h2.reverse, by simp⟩)
theorem lcs_nil (a : List Int) : lcs a [] = 0 := by rw [lcs_comm]; cases a <;> simp [lcs]
theorem lcs_snoc (a b : List Int) (x y : Int) : lcs (a ++ [x]) (b ++ [y]) = if x = y then lcs a b + 1 else max (lcs a (b ++ [y])) (lcs (a ++ [x]) b) := by
  rw [← lcs_rev (a ++ [x]), ← lcs_rev a b, ← lcs_rev a (b ++ [y]), ← lcs_rev (a ++ [x]) b]
  simp only [List.reverse_append, List.reverse_cons, List.reverse_nil, List.nil_append, List.cons_append]
  rw [lcs]
theorem lcs_self (a : List Int) : lcs a a = a.length := by
  have h1 := lcs_le a a a (List.Sublist.refl a) (List.Sublist.refl a)
  obtain ⟨l, h2, _, h3⟩ := lcs_ex a a
  have := h2.length_le
  omega
theorem lcs_bd (a b : List Int) : lcs a b ≤ a.length ∧ lcs a b ≤ b.length := by
  obtain ⟨l, h1, h2, h3⟩ := lcs_ex a b
  have := h1.length_le
  have := h2.length_le
  omega
/-- two parts of the one row: some place parts the other -/
theorem lcs_app (x1 x2 y1 y2 : List Int) : lcs x1 y1 + lcs x2 y2 ≤ lcs (x1 ++ x2) (y1 ++ y2) := by
  obtain ⟨l, h1, h2, h3⟩ := lcs_ex x1 y1
  obtain ⟨m, g1, g2, g3⟩ := lcs_ex x2 y2
  have := lcs_le (x1 ++ x2) (y1 ++ y2) (l ++ m) (h1.append g1) (h2.append g2)
  simp only [List.length_append] at this
  omega
theorem lcs_part (x1 x2 y : List Int) : ∃ k, k ≤ y.length ∧ lcs (x1 ++ x2) y = lcs x1 (y.take k) + lcs x2 (y.drop k) := by
  obtain ⟨l, h1, h2, h3⟩ := lcs_ex (x1 ++ x2) y
  obtain ⟨l1, l2, rfl, a1, a2⟩ := List.sublist_append_iff.1 h1
  obtain ⟨y1, y2, rfl, b1, b2⟩ := List.append_sublist_iff.1 h2
  have c1 := lcs_le x1 y1 l1 a1 b1
  have c2 := lcs_le x2 y2 l2 a2 b2
  have c3 := lcs_app x1 x2 y1 y2
  simp only [List.length_append] at h3
  refine ⟨y1.length, by simp, ?_⟩
  rw [List.take_left, List.drop_left]
  omega
theorem lcs_split (x1 x2 y : List Int) (k : Nat) : lcs x1 (y.take k) + lcs x2 (y.drop k) ≤ lcs (x1 ++ x2) y := by
  have := lcs_app x1 x2 (y.take k) (y.drop k)
  rwa [List.take_append_drop] at this
/-- what both begin or end with -/
theorem lcs_front : ∀ (c a b : List Int), lcs (c ++ a) (c ++ b) = c.length + lcs a b
  | [], a, b => by simp
  | x :: c, a, b => by simp only [List.cons_append, lcs, if_true, lcs_front c a b, List.length_cons]; omega
theorem lcs_back (c a b : List Int) : lcs (a ++ c) (b ++ c) = lcs a b + c.length := by
  rw [← lcs_rev (a ++ c), ← lcs_rev a b, List.reverse_append, List.reverse_append, lcs_front, List.length_reverse]; omega
/-- the document's step -/
theorem lcs_ref (a b : List Int) (x y : Int) : lcs (a ++ [x]) (b ++ [y]) = max (max (lcs a (b ++ [y])) (lcs (a ++ [x]) b)) (if x = y then lcs a b + 1 else 0) := by
  rw [lcs_snoc]
  have h1 : lcs a (b ++ [y]) ≤ lcs a b + 1 := by
    obtain ⟨l, h1, h2, h3⟩ := lcs_ex a (b ++ [y])
    obtain ⟨l1, l2, rfl, a1, a2⟩ := List.sublist_append_iff.1 h2
    have := lcs_le a b l1 ((List.sublist_append_left l1 l2).trans h1) a1
    have := a2.length_le
    simp at h3 this
    omega
  have h2 : lcs (a ++ [x]) b ≤ lcs a b + 1 := by
    obtain ⟨l, h1, h2, h3⟩ := lcs_ex (a ++ [x]) b
    obtain ⟨l1, l2, rfl, a1, a2⟩ := List.sublist_append_iff.1 h1
    have := lcs_le a b l1 a1 ((List.sublist_append_left l1 l2).trans h2)
    have := a2.length_le
    simp at h3 this
    omega
  split <;> omega
/-- one number against a row -/
theorem lcs_one (x : Int) : ∀ y : List Int, lcs [x] y = if x ∈ y then 1 else 0
  | [] => by simp [lcs]
  | z :: y => by
    rw [lcs]
    by_cases h : x = z
    · simp [h, lcs]
    · rw [if_neg h, lcs_one x y]; simp [h, lcs]
end Go.Proofs.Ytbmkgpocnkiibaa.Lt

/- The longest common row by halves, in plain Lean. -/
namespace Go.Proofs.Ytbmkgpocnkiibaa.Lt
open Go.Proofs.YtbmkgpocnkiibaaW.Abs Go
set_option maxRecDepth 100000
set_option linter.unusedSimpArgs false
set_option linter.unusedVariables false

/-- how much both begin with -/
def pre : List Int → List Int → Nat
  | x :: a, y :: b => if x = y then pre a b + 1 else 0
  | _, _ => 0
theorem pre_le : ∀ a b : List Int, pre a b ≤ a.length ∧ pre a b ≤ b.length
  | [], b => by simp [pre]
  | x :: a, [] => by simp [pre]
  | x :: a, y :: b => by have := pre_le a b; rw [pre]; split <;> simp <;> omega
theorem pre_take : ∀ a b : List Int, a.take (pre a b) = b.take (pre a b)
  | [], b => by simp [pre]
  | x :: a, [] => by simp [pre]
  | x :: a, y :: b => by
    rw [pre]; split
    · rename_i h; simp [h, pre_take a b]
    · simp
def suf (a b : List Int) : Nat := pre a.reverse b.reverse
theorem suf_le (a b : List Int) : suf a b ≤ a.length ∧ suf a b ≤ b.length := by have := pre_le a.reverse b.reverse; simpa [suf] using this
theorem suf_drop (a b : List Int) : a.drop (a.length - suf a b) = b.drop (b.length - suf a b) := by
  have h := pre_take a.reverse b.reverse
  have ⟨h1, h2⟩ := suf_le a b
  rw [List.take_reverse, List.take_reverse] at h
  have := congrArg List.reverse h
  simpa [suf] using this
/-- the first place where g is greatest -/
def best (g : Nat → Nat) : Nat → Nat
  | 0 => 0
  | n + 1 => if g (best g n) < g (n + 1) then n + 1 else best g n
theorem best_le (g : Nat → Nat) : ∀ n, best g n ≤ n
  | 0 => Nat.le_refl _
  | n + 1 => by have := best_le g n; rw [best]; split <;> omega
theorem best_max (g : Nat → Nat) : ∀ n k, k ≤ n → g k ≤ g (best g n)
  | 0, k, h => by have : k = 0 := by omega
                  subst this; exact Nat.le_refl _
  | n + 1, k, h => by
    rw [best]
    by_cases hk : k ≤ n
    · have := best_max g n k hk; split <;> omega
    · have : k = n + 1 := by omega
      subst this; split <;> omega
/-- where a number stands -/
def idx (x : Int) : List Int → Option Nat
  | [] => none
  | y :: r => if y = x then some 0 else (idx x r).map (· + 1)
theorem idx_some : ∀ (x : Int) (l : List Int) (k : Nat), idx x l = some k → l[k]? = some x
  | x, [], k, h => by simp [idx] at h
  | x, y :: r, k, h => by
    rw [idx] at h
    by_cases hy : y = x
    · simp [hy] at h; subst h; simp [hy]
    · rw [if_neg hy] at h
      cases hi : idx x r with
      | none => rw [hi] at h; simp at h
      | some j => rw [hi] at h; simp at h; subst h; simpa using idx_some x r j hi
theorem idx_none : ∀ (x : Int) (l : List Int), idx x l = none → x ∉ l
  | x, [], h => by simp
  | x, y :: r, h => by
    rw [idx] at h
    by_cases hy : y = x
    · simp [hy] at h
    · rw [if_neg hy] at h
      have := idx_none x r (by simpa using h)
      simp [this, Ne.symm hy]
def diag (n i k : Nat) : List (Nat × Nat) := (List.range n).map fun j => (i + j, k + j)
/-- as myers.halves goes -/
def hv : Nat → List Int → List Int → Nat → Nat → List (Nat × Nat)
  | 0, _, _, _, _ => []
  | f + 1, a, b, i, k =>
    let p := pre a b
    let a1 := a.drop p
    let b1 := b.drop p
    let e := suf a1 b1
    let x := a1.take (a1.length - e)
    let y := b1.take (b1.length - e)
    diag p i k ++ (if x = [] ∨ y = [] then [] else if x.length = 1 then (match idx (x.headD 0) y with | none => [] | some t => [(i + p, k + p + t)]) else
      let m := x.length / 2
      let t := best (fun t => lcs (x.take m) (y.take t) + lcs (x.drop m) (y.drop t)) y.length
      hv f (x.take m) (y.take t) (i + p) (k + p) ++ hv f (x.drop m) (y.drop t) (i + p + m) (k + p + t)) ++ diag e (i + p + x.length) (k + p + y.length)
/-- a row's parts: what both begin with, the middle, what both end with -/
theorem parts (a b : List Int) : ∃ c d : List Int, a = c ++ (((a.drop (pre a b)).take ((a.drop (pre a b)).length - suf (a.drop (pre a b)) (b.drop (pre a b)))) ++ d) ∧
    b = c ++ (((b.drop (pre a b)).take ((b.drop (pre a b)).length - suf (a.drop (pre a b)) (b.drop (pre a b)))) ++ d) ∧ c.length = pre a b ∧ d.length = suf (a.drop (pre a b)) (b.drop (pre a b)) := by
  have h1 := pre_take a b
  have ⟨h2, h3⟩ := pre_le a b
  generalize pre a b = p at *
  have g1 := suf_drop (a.drop p) (b.drop p)
  have ⟨g2, g3⟩ := suf_le (a.drop p) (b.drop p)
  generalize suf (a.drop p) (b.drop p) = e at *
  refine ⟨a.take p, (a.drop p).drop ((a.drop p).length - e), ?_, ?_, by simp; omega, by simp at g2 g3 ⊢; omega⟩
  · rw [List.take_append_drop, List.take_append_drop]
  · rw [g1, h1, List.take_append_drop, List.take_append_drop]
theorem hv_len : ∀ (f : Nat) (a b : List Int) (i k : Nat), a.length < f → (hv f a b i k).length = lcs a b
  | 0, a, b, i, k, h => by omega
  | f + 1, a, b, i, k, h => by
    obtain ⟨c, d, ea, eb, hc, hd⟩ := parts a b
    rw [hv]
    dsimp only
    generalize pre a b = p at *
    generalize suf (a.drop p) (b.drop p) = e at *
    generalize hx : (a.drop p).take ((a.drop p).length - e) = x at *
    generalize hy : (b.drop p).take ((b.drop p).length - e) = y at *
    have hal : x.length ≤ a.length := by rw [ea]; simp; omega
    have e0 : lcs a b = c.length + (lcs x y + d.length) := by rw [ea, eb, lcs_front, lcs_back]
    simp only [List.length_append, diag, List.length_map, List.length_range]
    rw [e0, hc, hd]
    have mid : (if x = [] ∨ y = [] then ([] : List (Nat × Nat)) else if x.length = 1 then (match idx (x.headD 0) y with | none => [] | some t => [(i + p, k + p + t)]) else
      hv f (x.take (x.length / 2)) (y.take (best (fun t => lcs (x.take (x.length / 2)) (y.take t) + lcs (x.drop (x.length / 2)) (y.drop t)) y.length)) (i + p) (k + p) ++ hv f (x.drop (x.length / 2)) (y.drop (best (fun t => lcs (x.take (x.length / 2)) (y.take t) + lcs (x.drop (x.length / 2)) (y.drop t)) y.length)) (i + p + x.length / 2) (k + p + best (fun t => lcs (x.take (x.length / 2)) (y.take t) + lcs (x.drop (x.length / 2)) (y.drop t)) y.length)).length = lcs x y := by
      by_cases hxy : x = [] ∨ y = []
      · rw [if_pos hxy]
        rcases hxy with rfl | rfl
        · simp [lcs]
        · simp [lcs_nil]
      · rw [if_neg hxy]
        by_cases h1 : x.length = 1
        · rw [if_pos h1]
          obtain ⟨z, rfl⟩ : ∃ z, x = [z] := by
            cases x with
            | nil => simp at h1
            | cons z r => cases r with | nil => exact ⟨z, rfl⟩ | cons _ _ => simp at h1
          rw [lcs_one]
          show (match idx z y with | none => [] | some t => [(i + p, k + p + t)]).length = _
          cases hi : idx z y with
          | none => simp [idx_none z y hi]
          | some t => simp [List.mem_of_getElem? (idx_some z y t hi)]
        · rw [if_neg h1]
          have hx0 : x.length ≠ 0 := fun h0 => hxy (.inl (List.eq_nil_of_length_eq_zero h0))
          generalize hm : x.length / 2 = m at *
          have hm1 : 1 ≤ m ∧ m < x.length := by omega
          generalize hg : (fun t => lcs (x.take m) (y.take t) + lcs (x.drop m) (y.drop t)) = g
          have bl := best_le g y.length
          have bm := best_max g y.length
          generalize best g y.length = t at *
          rw [List.length_append, hv_len f _ _ _ _ (by simp; omega), hv_len f _ _ _ _ (by simp; omega)]
          have s1 := lcs_split (x.take m) (x.drop m) y t
          obtain ⟨k', hk', s2⟩ := lcs_part (x.take m) (x.drop m) y
          rw [List.take_append_drop] at s1 s2
          have s3 := bm k' hk'
          rw [← hg] at s3
          dsimp only at s3
          omega
    rw [mid]
    omega
end Go.Proofs.Ytbmkgpocnkiibaa.Lt

/- The pairs by halves are a common row, in plain Lean. -/
namespace Go.Proofs.Ytbmkgpocnkiibaa.Lt
open Go.Proofs.YtbmkgpocnkiibaaW.Abs Go
set_option maxRecDepth 100000
set_option linter.unusedSimpArgs false
set_option linter.unusedVariables false

/-- a common row of A from i to i2, of B from k to k2 -/
def cr (A B : List Int) : Nat → Nat → Nat → Nat → List (Nat × Nat) → Prop
  | i, k, i2, k2, [] => i ≤ i2 ∧ k ≤ k2
  | i, k, i2, k2, (p, q) :: r => i ≤ p ∧ k ≤ q ∧ (∃ x, A[p]? = some x ∧ B[q]? = some x) ∧ cr A B (p + 1) (q + 1) i2 k2 r
theorem cr_le {A B : List Int} : ∀ (l : List (Nat × Nat)) (i k i2 k2 : Nat), cr A B i k i2 k2 l → i ≤ i2 ∧ k ≤ k2
  | [], i, k, i2, k2, h => h
  | (p, q) :: r, i, k, i2, k2, h => by
    obtain ⟨h1, h2, _, h3⟩ := h
    have := cr_le r _ _ _ _ h3
    omega
theorem cr_down {A B : List Int} : ∀ (l : List (Nat × Nat)) (i k i' k' i2 k2 : Nat), cr A B i k i2 k2 l → i' ≤ i → k' ≤ k → cr A B i' k' i2 k2 l
  | [], i, k, i', k', i2, k2, h, h1, h2 => ⟨by have := h.1; omega, by have := h.2; omega⟩
  | (p, q) :: r, i, k, i', k', i2, k2, h, h1, h2 => ⟨by have := h.1; omega, by have := h.2.1; omega, h.2.2⟩
theorem cr_app {A B : List Int} : ∀ (l m : List (Nat × Nat)) (i k i2 k2 i3 k3 : Nat), cr A B i k i2 k2 l → cr A B i2 k2 i3 k3 m → cr A B i k i3 k3 (l ++ m)
  | [], m, i, k, i2, k2, i3, k3, h, g => cr_down m i2 k2 i k i3 k3 g h.1 h.2
  | (p, q) :: r, m, i, k, i2, k2, i3, k3, h, g => ⟨h.1, h.2.1, h.2.2.1, cr_app r m _ _ _ _ _ _ h.2.2.2 g⟩
theorem cr_diag {A B : List Int} : ∀ (n i k : Nat) (c : List Int), c.length = n → (∀ j x, c[j]? = some x → A[i + j]? = some x) → (∀ j x, c[j]? = some x → B[k + j]? = some x) → cr A B i k (i + n) (k + n) (diag n i k)
  | 0, i, k, c, hc, ha, hb => ⟨Nat.le_refl _, Nat.le_refl _⟩
  | n + 1, i, k, c, hc, ha, hb => by
    obtain ⟨z, c', rfl⟩ : ∃ z c', c = z :: c' := by cases c with | nil => simp at hc | cons z c' => exact ⟨z, c', rfl⟩
    have ih := cr_diag n (i + 1) (k + 1) c' (by simpa using hc) (fun j x h => by have := ha (j + 1) x (by simpa using h); rwa [show i + (j + 1) = i + 1 + j by omega] at this) (fun j x h => by have := hb (j + 1) x (by simpa using h); rwa [show k + (j + 1) = k + 1 + j by omega] at this)
    have e : diag (n + 1) i k = (i, k) :: diag n (i + 1) (k + 1) := by
      simp only [diag, List.range_succ_eq_map, List.map_cons, List.map_map]
      congr 1
      apply List.map_congr_left
      intro j _
      simp only [Function.comp, Nat.succ_eq_add_one]
      congr 1 <;> omega
    rw [e]
    refine ⟨Nat.le_refl _, Nat.le_refl _, ⟨z, by simpa using ha 0 z rfl, by simpa using hb 0 z rfl⟩, ?_⟩
    rwa [show i + 1 + n = i + (n + 1) by omega, show k + 1 + n = k + (n + 1) by omega] at ih
/-- a row that stands in another from a place -/
def sits (A : List Int) (i : Nat) (a : List Int) : Prop := ∀ j x, a[j]? = some x → A[i + j]? = some x
theorem sits_app {A : List Int} {i : Nat} {a b : List Int} (h : sits A i (a ++ b)) : sits A i a ∧ sits A (i + a.length) b := by
  refine ⟨fun j x hj => h j x (by rw [List.getElem?_append_left (List.getElem?_eq_some_iff.1 hj).1]; exact hj), fun j x hj => ?_⟩
  have := h (a.length + j) x (by rw [List.getElem?_append_right (by omega)]; simpa using hj)
  rwa [show i + (a.length + j) = i + a.length + j by omega] at this
theorem sits_take {A : List Int} {i : Nat} {a : List Int} (h : sits A i a) (n : Nat) : sits A i (a.take n) ∧ sits A (i + min n a.length) (a.drop n) := by
  have : sits A i (a.take n ++ a.drop n) := by rwa [List.take_append_drop]
  have := sits_app this
  rwa [List.length_take] at this
theorem hv_cr {A B : List Int} : ∀ (f : Nat) (a b : List Int) (i k : Nat), a.length < f → sits A i a → sits B k b → cr A B i k (i + a.length) (k + b.length) (hv f a b i k)
  | 0, a, b, i, k, h, _, _ => by omega
  | f + 1, a, b, i, k, h, hA, hB => by
    obtain ⟨c, d, ea, eb, hc, hd⟩ := parts a b
    rw [hv]
    dsimp only
    generalize pre a b = p at *
    generalize suf (a.drop p) (b.drop p) = e at *
    generalize hx : (a.drop p).take ((a.drop p).length - e) = x at *
    generalize hy : (b.drop p).take ((b.drop p).length - e) = y at *
    have hal : a.length = p + x.length + e := by rw [ea]; simp; omega
    have hbl : b.length = p + y.length + e := by rw [eb]; simp; omega
    rw [ea] at hA
    rw [eb] at hB
    obtain ⟨a1, a2⟩ := sits_app hA
    obtain ⟨b1, b2⟩ := sits_app hB
    obtain ⟨a2, a3⟩ := sits_app a2
    obtain ⟨b2, b3⟩ := sits_app b2
    rw [hc] at a2 a3 b2 b3
    rw [hal, hbl, show i + (p + x.length + e) = i + p + x.length + e by omega, show k + (p + y.length + e) = k + p + y.length + e by omega]
    refine cr_app _ _ i k (i + p + x.length) (k + p + y.length) _ _ (cr_app _ _ i k (i + p) (k + p) _ _ (cr_diag p i k c hc a1 b1) ?_) (cr_diag e _ _ d hd a3 b3)
    by_cases hxy : x = [] ∨ y = []
    · rw [if_pos hxy]; exact ⟨by omega, by omega⟩
    · rw [if_neg hxy]
      by_cases h1 : x.length = 1
      · rw [if_pos h1]
        obtain ⟨z, rfl⟩ : ∃ z, x = [z] := by
          cases x with
          | nil => simp at h1
          | cons z r => cases r with | nil => exact ⟨z, rfl⟩ | cons _ _ => simp at h1
        show cr A B (i + p) (k + p) _ _ (match idx z y with | none => [] | some t => [(i + p, k + p + t)])
        cases hi : idx z y with
        | none => exact ⟨by omega, by omega⟩
        | some t =>
          have ht := idx_some z y t hi
          have := (List.getElem?_eq_some_iff.1 ht).1
          exact ⟨Nat.le_refl _, by omega, ⟨z, by simpa using a2 0 z rfl, b2 t z ht⟩, by simp, by omega⟩
      · rw [if_neg h1]
        have hx0 : x.length ≠ 0 := fun h0 => hxy (.inl (List.eq_nil_of_length_eq_zero h0))
        generalize hm : x.length / 2 = m at *
        have hm1 : 1 ≤ m ∧ m < x.length := by omega
        generalize hg : (fun t => lcs (x.take m) (y.take t) + lcs (x.drop m) (y.drop t)) = g
        have bl := best_le g y.length
        generalize best g y.length = t at *
        obtain ⟨s1, s2⟩ := sits_take a2 m
        obtain ⟨s3, s4⟩ := sits_take b2 t
        rw [Nat.min_eq_left (by omega)] at s2 s4
        have r1 := hv_cr f (x.take m) (y.take t) (i + p) (k + p) (by simp; omega) s1 s3
        have r2 := hv_cr f (x.drop m) (y.drop t) (i + p + m) (k + p + t) (by simp; omega) s2 s4
        have e1 : (x.take m).length = m := by simp; omega
        have e2 : (y.take t).length = t := by simp; omega
        have e3 : (x.drop m).length = x.length - m := by simp
        have e4 : (y.drop t).length = y.length - t := by simp
        rw [e1, e2] at r1
        rw [e3, e4, show i + p + m + (x.length - m) = i + p + x.length by omega, show k + p + t + (y.length - t) = k + p + y.length by omega] at r2
        exact cr_app _ _ _ _ _ _ _ _ r1 r2
end Go.Proofs.Ytbmkgpocnkiibaa.Lt

/- The pairs by halves: how they begin and end, in plain Lean. -/
namespace Go.Proofs.Ytbmkgpocnkiibaa.Lt
open Go.Proofs.YtbmkgpocnkiibaaW.Abs Go
set_option maxRecDepth 100000
set_option linter.unusedSimpArgs false
set_option linter.unusedVariables false

/-- the middle of a and of b -/
def midA (a b : List Int) : List Int := (a.drop (pre a b)).take ((a.drop (pre a b)).length - suf (a.drop (pre a b)) (b.drop (pre a b)))
def midB (a b : List Int) : List Int := (b.drop (pre a b)).take ((b.drop (pre a b)).length - suf (a.drop (pre a b)) (b.drop (pre a b)))
def endN (a b : List Int) : Nat := suf (a.drop (pre a b)) (b.drop (pre a b))
/-- where y is parted -/
def cutB (x y : List Int) : Nat := best (fun t => lcs (x.take (x.length / 2)) (y.take t) + lcs (x.drop (x.length / 2)) (y.drop t)) y.length
theorem hv_eq (f : Nat) (a b : List Int) (i k : Nat) : hv (f + 1) a b i k = diag (pre a b) i k ++ (if midA a b = [] ∨ midB a b = [] then [] else if (midA a b).length = 1 then (match idx ((midA a b).headD 0) (midB a b) with | none => [] | some t => [(i + pre a b, k + pre a b + t)]) else
      hv f ((midA a b).take ((midA a b).length / 2)) ((midB a b).take (cutB (midA a b) (midB a b))) (i + pre a b) (k + pre a b) ++ hv f ((midA a b).drop ((midA a b).length / 2)) ((midB a b).drop (cutB (midA a b) (midB a b))) (i + pre a b + (midA a b).length / 2) (k + pre a b + cutB (midA a b) (midB a b))) ++ diag (endN a b) (i + pre a b + (midA a b).length) (k + pre a b + (midB a b).length) := rfl
theorem mid_len (a b : List Int) : a.length = pre a b + (midA a b).length + endN a b ∧ b.length = pre a b + (midB a b).length + endN a b := by
  obtain ⟨c, d, ea, eb, hc, hd⟩ := parts a b
  have h1 := congrArg List.length ea
  have h2 := congrArg List.length eb
  simp only [List.length_append] at h1 h2
  change _ = _ + ((midA a b).length + _) at h1
  change _ = _ + ((midB a b).length + _) at h2
  change _ = endN a b at hd
  omega
theorem hv_fuel : ∀ (f g : Nat) (a b : List Int) (i k : Nat), a.length < f → a.length < g → hv f a b i k = hv g a b i k
  | 0, g, a, b, i, k, h, _ => by omega
  | f + 1, 0, a, b, i, k, _, h => by omega
  | f + 1, g + 1, a, b, i, k, h, h' => by
    rw [hv_eq, hv_eq]
    have ⟨ml, _⟩ := mid_len a b
    by_cases h2 : midA a b = [] ∨ midB a b = []
    · rw [if_pos h2, if_pos h2]
    · rw [if_neg h2, if_neg h2]
      by_cases h1 : (midA a b).length = 1
      · rw [if_pos h1, if_pos h1]
      · rw [if_neg h1, if_neg h1]
        have hx0 : (midA a b).length ≠ 0 := fun h0 => h2 (.inl (List.eq_nil_of_length_eq_zero h0))
        rw [hv_fuel f g (List.take _ _) _ _ _ (by simp; omega) (by simp; omega), hv_fuel f g (List.drop _ _) _ _ _ (by simp; omega) (by simp; omega)]
/-- the pairs of two rows -/
def hvO (a b : List Int) (i k : Nat) : List (Nat × Nat) := hv (a.length + 1) a b i k
theorem hvO_len (a b : List Int) (i k : Nat) : (hvO a b i k).length = lcs a b := hv_len _ a b i k (by omega)
theorem hvO_cr (a b : List Int) : cr a b 0 0 a.length b.length (hvO a b 0 0) := by
  have := hv_cr (A := a) (B := b) (a.length + 1) a b 0 0 (by omega) (fun j x h => by simpa using h) (fun j x h => by simpa using h)
  simpa [hvO] using this
theorem hvO_eq (a b : List Int) (i k : Nat) : hvO a b i k = diag (pre a b) i k ++ (if midA a b = [] ∨ midB a b = [] then [] else if (midA a b).length = 1 then (match idx ((midA a b).headD 0) (midB a b) with | none => [] | some t => [(i + pre a b, k + pre a b + t)]) else
      hvO ((midA a b).take ((midA a b).length / 2)) ((midB a b).take (cutB (midA a b) (midB a b))) (i + pre a b) (k + pre a b) ++ hvO ((midA a b).drop ((midA a b).length / 2)) ((midB a b).drop (cutB (midA a b) (midB a b))) (i + pre a b + (midA a b).length / 2) (k + pre a b + cutB (midA a b) (midB a b))) ++ diag (endN a b) (i + pre a b + (midA a b).length) (k + pre a b + (midB a b).length) := by
  have ⟨ml, _⟩ := mid_len a b
  rw [hvO, hv_eq]
  by_cases h2 : midA a b = [] ∨ midB a b = []
  · rw [if_pos h2, if_pos h2]
  · rw [if_neg h2, if_neg h2]
    by_cases h1 : (midA a b).length = 1
    · rw [if_pos h1, if_pos h1]
    · rw [if_neg h1, if_neg h1]
      have hx0 : (midA a b).length ≠ 0 := fun h0 => h2 (.inl (List.eq_nil_of_length_eq_zero h0))
      unfold hvO
      rw [hv_fuel a.length ((List.take ((midA a b).length / 2) (midA a b)).length + 1) (List.take _ _) _ _ _ (by simp; omega) (by omega), hv_fuel a.length ((List.drop ((midA a b).length / 2) (midA a b)).length + 1) (List.drop _ _) _ _ _ (by simp; omega) (by omega)]
theorem diag_len (n i k : Nat) : (diag n i k).length = n := by simp [diag]
theorem diag_at (n i k j : Nat) (h : j < n) : (diag n i k)[j]? = some (i + j, k + j) := by simp [diag, h]
/-- what both begin with is paired -/
theorem hvO_front (a b : List Int) (j : Nat) (h : j < pre a b) : (hvO a b 0 0)[j]? = some (j, j) := by
  rw [hvO_eq, List.append_assoc, List.getElem?_append_left (by rw [diag_len]; exact h), diag_at _ _ _ _ h]; simp
/-- what both end with is paired -/
theorem hvO_back (a b : List Int) (j : Nat) (h1 : 1 ≤ j) (h : j ≤ endN a b) : endN a b ≤ (hvO a b 0 0).length ∧ (hvO a b 0 0)[(hvO a b 0 0).length - j]? = some (a.length - j, b.length - j) := by
  have ⟨ml, ml2⟩ := mid_len a b
  have hd := diag_len (endN a b) (0 + pre a b + (midA a b).length) (0 + pre a b + (midB a b).length)
  have ha := diag_at (endN a b) (0 + pre a b + (midA a b).length) (0 + pre a b + (midB a b).length) (endN a b - j) (by omega)
  rw [hvO_eq]
  generalize diag (endN a b) (0 + pre a b + (midA a b).length) (0 + pre a b + (midB a b).length) = D at *
  rw [List.length_append, hd]
  refine ⟨by omega, ?_⟩
  rw [List.getElem?_append_right (by omega)]
  rw [show ∀ n : Nat, n + endN a b - j - n = endN a b - j by intro n; omega, ha]
  congr 2 <;> omega
theorem pre_self : ∀ a : List Int, pre a a = a.length
  | [] => rfl
  | x :: a => by simp [pre, pre_self a]
/-- a row and itself -/
theorem hvO_self (a : List Int) : hvO a a 0 0 = diag a.length 0 0 := by
  have ⟨ml, _⟩ := mid_len a a
  rw [pre_self] at ml
  have e1 : midA a a = [] := List.eq_nil_of_length_eq_zero (by omega)
  have e2 : endN a a = 0 := by omega
  rw [hvO_eq, pre_self, if_pos (.inl e1), e2]
  simp [diag]
end Go.Proofs.Ytbmkgpocnkiibaa.Lt

/- Rows that differ in one place, and where two rows begin alike, in plain Lean. -/
namespace Go.Proofs.Ytbmkgpocnkiibaa.Lt
open Go.Proofs.YtbmkgpocnkiibaaW.Abs Go
set_option maxRecDepth 100000
set_option linter.unusedSimpArgs false
set_option linter.unusedVariables false

theorem lcs_full {a b : List Int} (h : a.length ≤ lcs a b) (hb : b.length = a.length) : a = b := by
  obtain ⟨l, h1, h2, h3⟩ := lcs_ex a b
  have e1 := h1.eq_of_length_le (by omega)
  have e2 := h2.eq_of_length_le (by omega)
  rw [← e1, e2]
theorem lcs_set {a : List Int} {k : Nat} {v : Int} (hk : k < a.length) (hv : a[k]? ≠ some v) : lcs a (a.set k v) = a.length - 1 := by
  have h1 : a.length - 1 ≤ lcs a (a.set k v) := by
    have := lcs_le a (a.set k v) (a.take k ++ a.drop (k + 1)) ?_ ?_
    · simp at this; omega
    · have : (a.take k ++ a.drop (k + 1)).Sublist (a.take k ++ a.drop k) := List.Sublist.append (List.Sublist.refl _) (by rw [List.drop_eq_getElem_cons hk]; exact List.sublist_cons_self _ _)
      rwa [List.take_append_drop] at this
    · rw [List.set_eq_take_append_cons_drop, if_pos hk]
      exact List.Sublist.append (List.Sublist.refl _) (List.sublist_cons_self _ _)
  have h2 := (lcs_bd a (a.set k v)).1
  by_cases h : a.length ≤ lcs a (a.set k v)
  · have := lcs_full h (by simp)
    exact absurd (by rw [this]; simp [hk]) hv
  · omega
theorem pre_at : ∀ (a b : List Int) (j : Nat), j < pre a b → ∃ x, a[j]? = some x ∧ b[j]? = some x
  | [], b, j, h => by simp [pre] at h
  | x :: a, [], j, h => by simp [pre] at h
  | x :: a, y :: b, j, h => by
    rw [pre] at h
    by_cases hx : x = y
    · rw [if_pos hx] at h
      cases j with
      | zero => exact ⟨x, by simp, by simp [hx]⟩
      | succ j => simpa using pre_at a b j (by omega)
    · rw [if_neg hx] at h; omega
theorem pre_ne : ∀ (a b : List Int) (x y : Int), a[pre a b]? = some x → b[pre a b]? = some y → x ≠ y
  | [], b, x, y, h, _ => by simp at h
  | z :: a, [], x, y, _, h => by simp at h
  | z :: a, w :: b, x, y, h, g => by
    rw [pre] at h g
    by_cases hx : z = w
    · rw [if_pos hx] at h g; exact pre_ne a b x y (by simpa using h) (by simpa using g)
    · rw [if_neg hx] at h g; simp at h g; subst h; subst g; exact hx
/-- a row that is told of each place: the first that differs -/
theorem pre_eq {a b : List Int} {n : Nat} (h : ∀ j, j < n → ∃ x, a[j]? = some x ∧ b[j]? = some x) (he : a.length ≤ n ∨ b.length ≤ n ∨ ∃ x y, a[n]? = some x ∧ b[n]? = some y ∧ x ≠ y) : pre a b = n := by
  have ⟨l1, l2⟩ := pre_le a b
  by_cases h1 : n < pre a b
  · obtain ⟨x, g1, g2⟩ := pre_at a b n h1
    rcases he with he | he | ⟨p, q, e1, e2, e3⟩
    · have := (List.getElem?_eq_some_iff.1 g1).1; omega
    · have := (List.getElem?_eq_some_iff.1 g2).1; omega
    · rw [g1] at e1; rw [g2] at e2; cases e1; cases e2; exact absurd rfl e3
  · by_cases h2 : pre a b < n
    · obtain ⟨x, g1, g2⟩ := h _ h2
      exact absurd rfl (pre_ne a b x x g1 g2)
    · omega
/-- the table's step -/
theorem tab_step (a b : List Int) (x y : Int) (k : Nat) (hy : b[k]? = some y) : lcs (a ++ [x]) (b.take (k + 1)) = if x = y then lcs a (b.take k) + 1 else max (lcs (a ++ [x]) (b.take k)) (lcs a (b.take (k + 1))) := by
  have e : b.take (k + 1) = b.take k ++ [y] := by rw [List.take_add_one, hy]; rfl
  rw [e, lcs_snoc, Nat.max_comm]
end Go.Proofs.Ytbmkgpocnkiibaa.Lt

/- What the laws of longest common rows ask, in plain Lean. -/
namespace Go.Proofs.Ytbmkgpocnkiibaa.Lt
open Go.Proofs.YtbmkgpocnkiibaaW.Abs Go
set_option maxRecDepth 100000
set_option linter.unusedSimpArgs false
set_option linter.unusedVariables false

/-- each number falls in its kind -/
theorem hvO_back_len (a b : List Int) : (hvO a.reverse b.reverse 0 0).length = (hvO a b 0 0).length := by rw [hvO_len, hvO_len, lcs_rev]
theorem hvO_swap_len (a b : List Int) : (hvO b a 0 0).length = (hvO a b 0 0).length := by rw [hvO_len, hvO_len, lcs_comm]
/-- how the ends' loop of the law goes: places from the back that agree, as long as both places lie behind the front -/
theorem end_at (a b : List Int) (j : Nat) (h1 : 1 ≤ j) (h : j ≤ endN a b) : ∃ x, a[a.length - j]? = some x ∧ b[b.length - j]? = some x := by
  have ⟨ml, ml2⟩ := mid_len a b
  obtain ⟨c, d, ea, eb, hc, hd⟩ := parts a b
  change d.length = endN a b at hd
  change a = c ++ (midA a b ++ d) at ea
  change b = c ++ (midB a b ++ d) at eb
  obtain ⟨x, hx⟩ : ∃ x, d[d.length - j]? = some x := ⟨d[d.length - j]'(by omega), List.getElem?_eq_getElem _⟩
  refine ⟨x, ?_, ?_⟩
  · have : a[a.length - j]? = (c ++ (midA a b ++ d))[a.length - j]? := by rw [← ea]
    rw [this, List.getElem?_append_right (by omega), List.getElem?_append_right (by omega), ← hx]
    congr 1; omega
  · have : b[b.length - j]? = (c ++ (midB a b ++ d))[b.length - j]? := by rw [← eb]
    rw [this, List.getElem?_append_right (by omega), List.getElem?_append_right (by omega), ← hx]
    congr 1; omega
theorem end_ne (a b : List Int) (x y : Int) (hA : pre a b + (endN a b + 1) ≤ a.length) (hB : pre a b + (endN a b + 1) ≤ b.length) (hx : a[a.length - (endN a b + 1)]? = some x) (hy : b[b.length - (endN a b + 1)]? = some y) : x ≠ y := by
  refine pre_ne (a.drop (pre a b)).reverse (b.drop (pre a b)).reverse x y ?_ ?_
  · change (a.drop (pre a b)).reverse[endN a b]? = some x
    rw [List.getElem?_reverse (by simp; omega), List.getElem?_drop, ← hx]
    congr 1; simp; omega
  · change (b.drop (pre a b)).reverse[endN a b]? = some y
    rw [List.getElem?_reverse (by simp; omega), List.getElem?_drop, ← hy]
    congr 1; simp; omega
/-- the law's examples -/
theorem ex16 : hvO [1, 2, 3, 4] [2, 4, 1] 0 0 = [(1, 0), (3, 1)] := by decide +kernel
end Go.Proofs.Ytbmkgpocnkiibaa.Lt
