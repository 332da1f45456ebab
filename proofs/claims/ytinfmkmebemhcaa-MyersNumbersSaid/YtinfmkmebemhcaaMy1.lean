/- Longest common rows, in plain Lean. -/
import Derived.Test.YtinfmkmebemhcaaA22
namespace Go.Proofs.Ytinfmkmebemhcaa.Lt
open Go.Proofs.YtinfmkmebemhcaaW.Abs Go
set_option maxRecDepth 100000
set_option linter.unusedSimpArgs false
set_option linter.unusedVariables false

def lcs : List Int → List Int → Nat
  | [], _ => 0
  | _ :: _, [] => 0
  | x :: a, y :: b => if x = y then lcs a b + 1 else max (lcs a (y :: b)) (lcs (x :: a) b)
termination_by a b => a.length + b.length
/-- no common row is longer -/
theorem lcs_le : ∀ (a b l : List Int), l.Sublist a → l.Sublist b → l.length ≤ lcs a b
  | [], b, l, h1, h2 => by have := List.eq_nil_of_sublist_nil h1; subst this; simp
  | x :: a, [], l, h1, h2 => by have := List.eq_nil_of_sublist_nil h2; subst this; simp
  | x :: a, y :: b, l, h1, h2 => by
    rw [lcs]
    by_cases h : x = y
    · rw [if_pos h]; subst h
      cases l with
      | nil => simp
      | cons z l =>
        have t1 : l.Sublist a := by
          cases h1 with
          | cons _ h => exact (List.sublist_cons_self z l).trans h
          | cons_cons _ h => exact h
        have t2 : l.Sublist b := by
          cases h2 with
          | cons _ h => exact (List.sublist_cons_self z l).trans h
          | cons_cons _ h => exact h
        have := lcs_le a b l t1 t2
        simp only [List.length_cons]; omega
    · rw [if_neg h]
      cases h1 with
      | cons _ h1 => have := lcs_le a (y :: b) l h1 h2; omega
      | cons_cons _ h1 =>
        cases h2 with
        | cons _ h2 => have := lcs_le (x :: a) b _ (h1.cons_cons x) h2; omega
        | cons_cons _ h2 => exact absurd rfl h
termination_by a b => a.length + b.length
theorem lcs_ex : ∀ (a b : List Int), ∃ l : List Int, l.Sublist a ∧ l.Sublist b ∧ l.length = lcs a b
  | [], b => ⟨[], by simp, by simp, by simp [lcs]⟩
  | x :: a, [] => ⟨[], by simp, by simp, by simp [lcs]⟩
  | x :: a, y :: b => by
    rw [lcs]
    by_cases h : x = y
    · rw [if_pos h]; subst h
      obtain ⟨l, h1, h2, h3⟩ := lcs_ex a b
      exact ⟨x :: l, h1.cons_cons x, h2.cons_cons x, by simp [h3]⟩
    · rw [if_neg h]
      obtain ⟨l, h1, h2, h3⟩ := lcs_ex a (y :: b)
      obtain ⟨m, g1, g2, g3⟩ := lcs_ex (x :: a) b
      by_cases hm : lcs a (y :: b) ≤ lcs (x :: a) b
      · exact ⟨m, g1, g2.cons y, by omega⟩
      · exact ⟨l, h1.cons x, h2, by omega⟩
termination_by a b => a.length + b.length
theorem lcs_mono {a b c d : List Int} (h : ∀ l : List Int, l.Sublist a → l.Sublist b → ∃ m : List Int, m.Sublist c ∧ m.Sublist d ∧ l.length ≤ m.length) : lcs a b ≤ lcs c d := by
  obtain ⟨l, h1, h2, h3⟩ := lcs_ex a b
  obtain ⟨m, g1, g2, g3⟩ := h l h1 h2
  have := lcs_le c d m g1 g2
  omega
theorem lcs_comm (a b : List Int) : lcs a b = lcs b a :=
  Nat.le_antisymm (lcs_mono fun l h1 h2 => ⟨l, h2, h1, Nat.le_refl _⟩) (lcs_mono fun l h1 h2 => ⟨l, h2, h1, Nat.le_refl _⟩)
theorem lcs_rev (a b : List Int) : lcs a.reverse b.reverse = lcs a b :=
  Nat.le_antisymm (lcs_mono fun l h1 h2 => ⟨l.reverse, by simpa using h1.reverse, by simpa using h2.reverse, by simp⟩) (lcs_mono fun l h1 h2 => ⟨l.reverse, h1.reverse, h2.reverse, by simp⟩)
theorem lcs_nil (a : List Int) : lcs a [] = 0 := by rw [lcs_comm]; cases a <;> simp [lcs]
theorem lcs_snoc (a b : List Int) (x y : Int) : lcs (a ++ [x]) (b ++ [y]) = if x = y then lcs a b + 1 else max (lcs a (b ++ [y])) (lcs (a ++ [x]) b) := by
  rw [← lcs_rev (a ++ [x]), ← lcs_rev a b, ← lcs_rev a (b ++ [y]), ← lcs_rev (a ++ [x]) b]
  simp only [List.reverse_append, List.reverse_cons, List.reverse_nil, List.nil_append, List.cons_append]
  rw [lcs]
theorem lcs_self (a : List Int) : lcs a a = a.length := by
  have h1 := lcs_le a a a (List.Sublist.refl a) (List.Sublist.refl a)
  obtain ⟨l, h2, _, h3⟩ := lcs_ex a a
  have := h2.length_le
  omega
theorem lcs_bd (a b : List Int) : lcs a b ≤ a.length ∧ lcs a b ≤ b.length := by
  obtain ⟨l, h1, h2, h3⟩ := lcs_ex a b
  have := h1.length_le
  have := h2.length_le
  omega
/-- two parts of the one row: some place parts the other -/
theorem lcs_app (x1 x2 y1 y2 : List Int) : lcs x1 y1 + lcs x2 y2 ≤ lcs (x1 ++ x2) (y1 ++ y2) := by
  obtain ⟨l, h1, h2, h3⟩ := lcs_ex x1 y1
  obtain ⟨m, g1, g2, g3⟩ := lcs_ex x2 y2
  have := lcs_le (x1 ++ x2) (y1 ++ y2) (l ++ m) (h1.append g1) (h2.append g2)
  simp only [List.length_append] at this
  omega
theorem lcs_part (x1 x2 y : List Int) : ∃ k, k ≤ y.length ∧ lcs (x1 ++ x2) y = lcs x1 (y.take k) + lcs x2 (y.drop k) := by
  obtain ⟨l, h1, h2, h3⟩ := lcs_ex (x1 ++ x2) y
  obtain ⟨l1, l2, rfl, a1, a2⟩ := List.sublist_append_iff.1 h1
  obtain ⟨y1, y2, rfl, b1, b2⟩ := List.append_sublist_iff.1 h2
  have c1 := lcs_le x1 y1 l1 a1 b1
  have c2 := lcs_le x2 y2 l2 a2 b2
  have c3 := lcs_app x1 x2 y1 y2
  simp only [List.length_append] at h3
  refine ⟨y1.length, by simp, ?_⟩
  rw [List.take_left, List.drop_left]
  omega
theorem lcs_split (x1 x2 y : List Int) (k : Nat) : lcs x1 (y.take k) + lcs x2 (y.drop k) ≤ lcs (x1 ++ x2) y := by
  have := lcs_app x1 x2 (y.take k) (y.drop k)
  rwa [List.take_append_drop] at this
/-- what both begin or end with -/
theorem lcs_front : ∀ (c a b : List Int), lcs (c ++ a) (c ++ b) = c.length + lcs a b
  | [], a, b => by simp
  | x :: c, a, b => by simp only [List.cons_append, lcs, if_true, lcs_front c a b, List.length_cons]; omega
theorem lcs_back (c a b : List Int) : lcs (a ++ c) (b ++ c) = lcs a b + c.length := by
  rw [← lcs_rev (a ++ c), ← lcs_rev a b, List.reverse_append, List.reverse_append, lcs_front, List.length_reverse]; omega
/-- the document's step -/
theorem lcs_ref (a b : List Int) (x y : Int) : lcs (a ++ [x]) (b ++ [y]) = max (max (lcs a (b ++ [y])) (lcs (a ++ [x]) b)) (if x = y then lcs a b + 1 else 0) := by
  rw [lcs_snoc]
  have h1 : lcs a (b ++ [y]) ≤ lcs a b + 1 := by
    obtain ⟨l, h1, h2, h3⟩ := lcs_ex a (b ++ [y])
    obtain ⟨l1, l2, rfl, a1, a2⟩ := List.sublist_append_iff.1 h2
    have := lcs_le a b l1 ((List.sublist_append_left l1 l2).trans h1) a1
    have := a2.length_le
    simp at h3 this
    omega
  have h2 : lcs (a ++ [x]) b ≤ lcs a b + 1 := by
    obtain ⟨l, h1, h2, h3⟩ := lcs_ex (a ++ [x]) b
    obtain ⟨l1, l2, rfl, a1, a2⟩ := List.sublist_append_iff.1 h1
    have := lcs_le a b l1 a1 ((List.sublist_append_left l1 l2).trans h2)
    have := a2.length_le
    simp at h3 this
    omega
  split <;> omega
/-- one number against a row -/
theorem lcs_one (x : Int) : ∀ y : List Int, lcs [x] y = if x ∈ y then 1 else 0
  | [] => by simp [lcs]
  | z :: y => by
    rw [lcs]
    by_cases h : x = z
    · simp [h, lcs]
    · rw [if_neg h, lcs_one x y]; simp [h, lcs]
end Go.Proofs.Ytinfmkmebemhcaa.Lt
