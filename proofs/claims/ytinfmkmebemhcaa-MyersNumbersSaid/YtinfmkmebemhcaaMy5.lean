/- Rows that differ in one place, and where two rows begin alike, in plain Lean. -/
import Derived.Test.YtinfmkmebemhcaaMy4
namespace Go.Proofs.Ytinfmkmebemhcaa.Lt
open Go.Proofs.YtinfmkmebemhcaaW.Abs Go
set_option maxRecDepth 100000
set_option linter.unusedSimpArgs false
set_option linter.unusedVariables false

theorem lcs_full {a b : List Int} (h : a.length ≤ lcs a b) (hb : b.length = a.length) : a = b := by
  obtain ⟨l, h1, h2, h3⟩ := lcs_ex a b
  have e1 := h1.eq_of_length_le (by omega)
  have e2 := h2.eq_of_length_le (by omega)
  rw [← e1, e2]
theorem lcs_set {a : List Int} {k : Nat} {v : Int} (hk : k < a.length) (hv : a[k]? ≠ some v) : lcs a (a.set k v) = a.length - 1 := by
  have h1 : a.length - 1 ≤ lcs a (a.set k v) := by
    have := lcs_le a (a.set k v) (a.take k ++ a.drop (k + 1)) ?_ ?_
    · simp at this; omega
    · have : (a.take k ++ a.drop (k + 1)).Sublist (a.take k ++ a.drop k) := List.Sublist.append (List.Sublist.refl _) (by rw [List.drop_eq_getElem_cons hk]; exact List.sublist_cons_self _ _)
      rwa [List.take_append_drop] at this
    · rw [List.set_eq_take_append_cons_drop, if_pos hk]
      exact List.Sublist.append (List.Sublist.refl _) (List.sublist_cons_self _ _)
  have h2 := (lcs_bd a (a.set k v)).1
  by_cases h : a.length ≤ lcs a (a.set k v)
  · have := lcs_full h (by simp)
    exact absurd (by rw [this]; simp [hk]) hv
  · omega
theorem pre_at : ∀ (a b : List Int) (j : Nat), j < pre a b → ∃ x, a[j]? = some x ∧ b[j]? = some x
  | [], b, j, h => by simp [pre] at h
  | x :: a, [], j, h => by simp [pre] at h
  | x :: a, y :: b, j, h => by
    rw [pre] at h
    by_cases hx : x = y
    · rw [if_pos hx] at h
      cases j with
      | zero => exact ⟨x, by simp, by simp [hx]⟩
      | succ j => simpa using pre_at a b j (by omega)
    · rw [if_neg hx] at h; omega
theorem pre_ne : ∀ (a b : List Int) (x y : Int), a[pre a b]? = some x → b[pre a b]? = some y → x ≠ y
  | [], b, x, y, h, _ => by simp at h
  | z :: a, [], x, y, _, h => by simp at h
  | z :: a, w :: b, x, y, h, g => by
    rw [pre] at h g
    by_cases hx : z = w
    · rw [if_pos hx] at h g; exact pre_ne a b x y (by simpa using h) (by simpa using g)
    · rw [if_neg hx] at h g; simp at h g; subst h; subst g; exact hx
/-- a row that is told of each place: the first that differs -/
theorem pre_eq {a b : List Int} {n : Nat} (h : ∀ j, j < n → ∃ x, a[j]? = some x ∧ b[j]? = some x) (he : a.length ≤ n ∨ b.length ≤ n ∨ ∃ x y, a[n]? = some x ∧ b[n]? = some y ∧ x ≠ y) : pre a b = n := by
  have ⟨l1, l2⟩ := pre_le a b
  by_cases h1 : n < pre a b
  · obtain ⟨x, g1, g2⟩ := pre_at a b n h1
    rcases he with he | he | ⟨p, q, e1, e2, e3⟩
    · have := (List.getElem?_eq_some_iff.1 g1).1; omega
    · have := (List.getElem?_eq_some_iff.1 g2).1; omega
    · rw [g1] at e1; rw [g2] at e2; cases e1; cases e2; exact absurd rfl e3
  · by_cases h2 : pre a b < n
    · obtain ⟨x, g1, g2⟩ := h _ h2
      exact absurd rfl (pre_ne a b x x g1 g2)
    · omega
/-- the table's step -/
theorem tab_step (a b : List Int) (x y : Int) (k : Nat) (hy : b[k]? = some y) : lcs (a ++ [x]) (b.take (k + 1)) = if x = y then lcs a (b.take k) + 1 else max (lcs (a ++ [x]) (b.take k)) (lcs a (b.take (k + 1))) := by
  have e : b.take (k + 1) = b.take k ++ [y] := by rw [List.take_add_one, hy]; rfl
  rw [e, lcs_snoc, Nat.max_comm]
end Go.Proofs.Ytinfmkmebemhcaa.Lt
