/- The pairs by halves are a common row, in plain Lean. -/
import Derived.Test.YtinfmkmebemhcaaMy2
namespace Go.Proofs.Ytinfmkmebemhcaa.Lt
open Go.Proofs.YtinfmkmebemhcaaW.Abs Go
set_option maxRecDepth 100000
set_option linter.unusedSimpArgs false
set_option linter.unusedVariables false

/-- a common row of A from i to i2, of B from k to k2 -/
def cr (A B : List Int) : Nat → Nat → Nat → Nat → List (Nat × Nat) → Prop
  | i, k, i2, k2, [] => i ≤ i2 ∧ k ≤ k2
  | i, k, i2, k2, (p, q) :: r => i ≤ p ∧ k ≤ q ∧ (∃ x, A[p]? = some x ∧ B[q]? = some x) ∧ cr A B (p + 1) (q + 1) i2 k2 r
theorem cr_le {A B : List Int} : ∀ (l : List (Nat × Nat)) (i k i2 k2 : Nat), cr A B i k i2 k2 l → i ≤ i2 ∧ k ≤ k2
  | [], i, k, i2, k2, h => h
  | (p, q) :: r, i, k, i2, k2, h => by
    obtain ⟨h1, h2, _, h3⟩ := h
    have := cr_le r _ _ _ _ h3
    omega
theorem cr_down {A B : List Int} : ∀ (l : List (Nat × Nat)) (i k i' k' i2 k2 : Nat), cr A B i k i2 k2 l → i' ≤ i → k' ≤ k → cr A B i' k' i2 k2 l
  | [], i, k, i', k', i2, k2, h, h1, h2 => ⟨by have := h.1; omega, by have := h.2; omega⟩
  | (p, q) :: r, i, k, i', k', i2, k2, h, h1, h2 => ⟨by have := h.1; omega, by have := h.2.1; omega, h.2.2⟩
theorem cr_app {A B : List Int} : ∀ (l m : List (Nat × Nat)) (i k i2 k2 i3 k3 : Nat), cr A B i k i2 k2 l → cr A B i2 k2 i3 k3 m → cr A B i k i3 k3 (l ++ m)
  | [], m, i, k, i2, k2, i3, k3, h, g => cr_down m i2 k2 i k i3 k3 g h.1 h.2
  | (p, q) :: r, m, i, k, i2, k2, i3, k3, h, g => ⟨h.1, h.2.1, h.2.2.1, cr_app r m _ _ _ _ _ _ h.2.2.2 g⟩
theorem cr_diag {A B : List Int} : ∀ (n i k : Nat) (c : List Int), c.length = n → (∀ j x, c[j]? = some x → A[i + j]? = some x) → (∀ j x, c[j]? = some x → B[k + j]? = some x) → cr A B i k (i + n) (k + n) (diag n i k)
  | 0, i, k, c, hc, ha, hb => ⟨Nat.le_refl _, Nat.le_refl _⟩
  | n + 1, i, k, c, hc, ha, hb => by
    obtain ⟨z, c', rfl⟩ : ∃ z c', c = z :: c' := by cases c with | nil => simp at hc | cons z c' => exact ⟨z, c', rfl⟩
    have ih := cr_diag n (i + 1) (k + 1) c' (by simpa using hc) (fun j x h => by have := ha (j + 1) x (by simpa using h); rwa [show i + (j + 1) = i + 1 + j by omega] at this) (fun j x h => by have := hb (j + 1) x (by simpa using h); rwa [show k + (j + 1) = k + 1 + j by omega] at this)
    have e : diag (n + 1) i k = (i, k) :: diag n (i + 1) (k + 1) := by
      simp only [diag, List.range_succ_eq_map, List.map_cons, List.map_map]
      congr 1
      apply List.map_congr_left
      intro j _
      simp only [Function.comp, Nat.succ_eq_add_one]
      congr 1 <;> omega
    rw [e]
    refine ⟨Nat.le_refl _, Nat.le_refl _, ⟨z, by simpa using ha 0 z rfl, by simpa using hb 0 z rfl⟩, ?_⟩
    rwa [show i + 1 + n = i + (n + 1) by omega, show k + 1 + n = k + (n + 1) by omega] at ih
/-- a row that stands in another from a place -/
def sits (A : List Int) (i : Nat) (a : List Int) : Prop := ∀ j x, a[j]? = some x → A[i + j]? = some x
theorem sits_app {A : List Int} {i : Nat} {a b : List Int} (h : sits A i (a ++ b)) : sits A i a ∧ sits A (i + a.length) b := by
  refine ⟨fun j x hj => h j x (by rw [List.getElem?_append_left (List.getElem?_eq_some_iff.1 hj).1]; exact hj), fun j x hj => ?_⟩
  have := h (a.length + j) x (by rw [List.getElem?_append_right (by omega)]; simpa using hj)
  rwa [show i + (a.length + j) = i + a.length + j by omega] at this
theorem sits_take {A : List Int} {i : Nat} {a : List Int} (h : sits A i a) (n : Nat) : sits A i (a.take n) ∧ sits A (i + min n a.length) (a.drop n) := by
  have : sits A i (a.take n ++ a.drop n) := by rwa [List.take_append_drop]
  have := sits_app this
  rwa [List.length_take] at this
theorem hv_cr {A B : List Int} : ∀ (f : Nat) (a b : List Int) (i k : Nat), a.length < f → sits A i a → sits B k b → cr A B i k (i + a.length) (k + b.length) (hv f a b i k)
  | 0, a, b, i, k, h, _, _ => by omega
  | f + 1, a, b, i, k, h, hA, hB => by
    obtain ⟨c, d, ea, eb, hc, hd⟩ := parts a b
    rw [hv]
    dsimp only
    generalize pre a b = p at *
    generalize suf (a.drop p) (b.drop p) = e at *
    generalize hx : (a.drop p).take ((a.drop p).length - e) = x at *
    generalize hy : (b.drop p).take ((b.drop p).length - e) = y at *
    have hal : a.length = p + x.length + e := by rw [ea]; simp; omega
    have hbl : b.length = p + y.length + e := by rw [eb]; simp; omega
    rw [ea] at hA
    rw [eb] at hB
    obtain ⟨a1, a2⟩ := sits_app hA
    obtain ⟨b1, b2⟩ := sits_app hB
    obtain ⟨a2, a3⟩ := sits_app a2
    obtain ⟨b2, b3⟩ := sits_app b2
    rw [hc] at a2 a3 b2 b3
    rw [hal, hbl, show i + (p + x.length + e) = i + p + x.length + e by omega, show k + (p + y.length + e) = k + p + y.length + e by omega]
    refine cr_app _ _ i k (i + p + x.length) (k + p + y.length) _ _ (cr_app _ _ i k (i + p) (k + p) _ _ (cr_diag p i k c hc a1 b1) ?_) (cr_diag e _ _ d hd a3 b3)
    by_cases hxy : x = [] ∨ y = []
    · rw [if_pos hxy]; exact ⟨by omega, by omega⟩
    · rw [if_neg hxy]
      by_cases h1 : x.length = 1
      · rw [if_pos h1]
        obtain ⟨z, rfl⟩ : ∃ z, x = [z] := by
          cases x with
          | nil => simp at h1
          | cons z r => cases r with | nil => exact ⟨z, rfl⟩ | cons _ _ => simp at h1
        show cr A B (i + p) (k + p) _ _ (match idx z y with | none => [] | some t => [(i + p, k + p + t)])
        cases hi : idx z y with
        | none => exact ⟨by omega, by omega⟩
        | some t =>
          have ht := idx_some z y t hi
          have := (List.getElem?_eq_some_iff.1 ht).1
          exact ⟨Nat.le_refl _, by omega, ⟨z, by simpa using a2 0 z rfl, b2 t z ht⟩, by simp, by omega⟩
      · rw [if_neg h1]
        have hx0 : x.length ≠ 0 := fun h0 => hxy (.inl (List.eq_nil_of_length_eq_zero h0))
        generalize hm : x.length / 2 = m at *
        have hm1 : 1 ≤ m ∧ m < x.length := by omega
        generalize hg : (fun t => lcs (x.take m) (y.take t) + lcs (x.drop m) (y.drop t)) = g
        have bl := best_le g y.length
        generalize best g y.length = t at *
        obtain ⟨s1, s2⟩ := sits_take a2 m
        obtain ⟨s3, s4⟩ := sits_take b2 t
        rw [Nat.min_eq_left (by omega)] at s2 s4
        have r1 := hv_cr f (x.take m) (y.take t) (i + p) (k + p) (by simp; omega) s1 s3
        have r2 := hv_cr f (x.drop m) (y.drop t) (i + p + m) (k + p + t) (by simp; omega) s2 s4
        have e1 : (x.take m).length = m := by simp; omega
        have e2 : (y.take t).length = t := by simp; omega
        have e3 : (x.drop m).length = x.length - m := by simp
        have e4 : (y.drop t).length = y.length - t := by simp
        rw [e1, e2] at r1
        rw [e3, e4, show i + p + m + (x.length - m) = i + p + x.length by omega, show k + p + t + (y.length - t) = k + p + y.length by omega] at r2
        exact cr_app _ _ _ _ _ _ _ _ r1 r2
end Go.Proofs.Ytinfmkmebemhcaa.Lt
