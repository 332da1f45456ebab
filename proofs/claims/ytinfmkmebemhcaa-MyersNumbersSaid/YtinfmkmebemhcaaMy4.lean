/- The pairs by halves: how they begin and end, in plain Lean. -/
import Derived.Test.YtinfmkmebemhcaaMy3
namespace Go.Proofs.Ytinfmkmebemhcaa.Lt
open Go.Proofs.YtinfmkmebemhcaaW.Abs Go
set_option maxRecDepth 100000
set_option linter.unusedSimpArgs false
set_option linter.unusedVariables false

/-- the middle of a and of b -/
def midA (a b : List Int) : List Int := (a.drop (pre a b)).take ((a.drop (pre a b)).length - suf (a.drop (pre a b)) (b.drop (pre a b)))
def midB (a b : List Int) : List Int := (b.drop (pre a b)).take ((b.drop (pre a b)).length - suf (a.drop (pre a b)) (b.drop (pre a b)))
def endN (a b : List Int) : Nat := suf (a.drop (pre a b)) (b.drop (pre a b))
/-- where y is parted -/
def cutB (x y : List Int) : Nat := best (fun t => lcs (x.take (x.length / 2)) (y.take t) + lcs (x.drop (x.length / 2)) (y.drop t)) y.length
theorem hv_eq (f : Nat) (a b : List Int) (i k : Nat) : hv (f + 1) a b i k = diag (pre a b) i k ++ (if midA a b = [] ∨ midB a b = [] then [] else if (midA a b).length = 1 then (match idx ((midA a b).headD 0) (midB a b) with | none => [] | some t => [(i + pre a b, k + pre a b + t)]) else
      hv f ((midA a b).take ((midA a b).length / 2)) ((midB a b).take (cutB (midA a b) (midB a b))) (i + pre a b) (k + pre a b) ++ hv f ((midA a b).drop ((midA a b).length / 2)) ((midB a b).drop (cutB (midA a b) (midB a b))) (i + pre a b + (midA a b).length / 2) (k + pre a b + cutB (midA a b) (midB a b))) ++ diag (endN a b) (i + pre a b + (midA a b).length) (k + pre a b + (midB a b).length) := rfl
theorem mid_len (a b : List Int) : a.length = pre a b + (midA a b).length + endN a b ∧ b.length = pre a b + (midB a b).length + endN a b := by
  obtain ⟨c, d, ea, eb, hc, hd⟩ := parts a b
  have h1 := congrArg List.length ea
  have h2 := congrArg List.length eb
  simp only [List.length_append] at h1 h2
  change _ = _ + ((midA a b).length + _) at h1
  change _ = _ + ((midB a b).length + _) at h2
  change _ = endN a b at hd
  omega
theorem hv_fuel : ∀ (f g : Nat) (a b : List Int) (i k : Nat), a.length < f → a.length < g → hv f a b i k = hv g a b i k
  | 0, g, a, b, i, k, h, _ => by omega
  | f + 1, 0, a, b, i, k, _, h => by omega
  | f + 1, g + 1, a, b, i, k, h, h' => by
    rw [hv_eq, hv_eq]
    have ⟨ml, _⟩ := mid_len a b
    by_cases h2 : midA a b = [] ∨ midB a b = []
    · rw [if_pos h2, if_pos h2]
    · rw [if_neg h2, if_neg h2]
      by_cases h1 : (midA a b).length = 1
      · rw [if_pos h1, if_pos h1]
      · rw [if_neg h1, if_neg h1]
        have hx0 : (midA a b).length ≠ 0 := fun h0 => h2 (.inl (List.eq_nil_of_length_eq_zero h0))
        rw [hv_fuel f g (List.take _ _) _ _ _ (by simp; omega) (by simp; omega), hv_fuel f g (List.drop _ _) _ _ _ (by simp; omega) (by simp; omega)]
/-- the pairs of two rows -/
def hvO (a b : List Int) (i k : Nat) : List (Nat × Nat) := hv (a.length + 1) a b i k
theorem hvO_len (a b : List Int) (i k : Nat) : (hvO a b i k).length = lcs a b := hv_len _ a b i k (by omega)
theorem hvO_cr (a b : List Int) : cr a b 0 0 a.length b.length (hvO a b 0 0) := by
  have := hv_cr (A := a) (B := b) (a.length + 1) a b 0 0 (by omega) (fun j x h => by simpa using h) (fun j x h => by simpa using h)
  simpa [hvO] using this
theorem hvO_eq (a b : List Int) (i k : Nat) : hvO a b i k = diag (pre a b) i k ++ (if midA a b = [] ∨ midB a b = [] then [] else if (midA a b).length = 1 then (match idx ((midA a b).headD 0) (midB a b) with | none => [] | some t => [(i + pre a b, k + pre a b + t)]) else
      hvO ((midA a b).take ((midA a b).length / 2)) ((midB a b).take (cutB (midA a b) (midB a b))) (i + pre a b) (k + pre a b) ++ hvO ((midA a b).drop ((midA a b).length / 2)) ((midB a b).drop (cutB (midA a b) (midB a b))) (i + pre a b + (midA a b).length / 2) (k + pre a b + cutB (midA a b) (midB a b))) ++ diag (endN a b) (i + pre a b + (midA a b).length) (k + pre a b + (midB a b).length) := by
  have ⟨ml, _⟩ := mid_len a b
  rw [hvO, hv_eq]
  by_cases h2 : midA a b = [] ∨ midB a b = []
  · rw [if_pos h2, if_pos h2]
  · rw [if_neg h2, if_neg h2]
    by_cases h1 : (midA a b).length = 1
    · rw [if_pos h1, if_pos h1]
    · rw [if_neg h1, if_neg h1]
      have hx0 : (midA a b).length ≠ 0 := fun h0 => h2 (.inl (List.eq_nil_of_length_eq_zero h0))
      unfold hvO
      rw [hv_fuel a.length ((List.take ((midA a b).length / 2) (midA a b)).length + 1) (List.take _ _) _ _ _ (by simp; omega) (by omega), hv_fuel a.length ((List.drop ((midA a b).length / 2) (midA a b)).length + 1) (List.drop _ _) _ _ _ (by simp; omega) (by omega)]
theorem diag_len (n i k : Nat) : (diag n i k).length = n := by simp [diag]
theorem diag_at (n i k j : Nat) (h : j < n) : (diag n i k)[j]? = some (i + j, k + j) := by simp [diag, h]
/-- what both begin with is paired -/
theorem hvO_front (a b : List Int) (j : Nat) (h : j < pre a b) : (hvO a b 0 0)[j]? = some (j, j) := by
  rw [hvO_eq, List.append_assoc, List.getElem?_append_left (by rw [diag_len]; exact h), diag_at _ _ _ _ h]; simp
/-- what both end with is paired -/
theorem hvO_back (a b : List Int) (j : Nat) (h1 : 1 ≤ j) (h : j ≤ endN a b) : endN a b ≤ (hvO a b 0 0).length ∧ (hvO a b 0 0)[(hvO a b 0 0).length - j]? = some (a.length - j, b.length - j) := by
  have ⟨ml, ml2⟩ := mid_len a b
  have hd := diag_len (endN a b) (0 + pre a b + (midA a b).length) (0 + pre a b + (midB a b).length)
  have ha := diag_at (endN a b) (0 + pre a b + (midA a b).length) (0 + pre a b + (midB a b).length) (endN a b - j) (by omega)
  rw [hvO_eq]
  generalize diag (endN a b) (0 + pre a b + (midA a b).length) (0 + pre a b + (midB a b).length) = D at *
  rw [List.length_append, hd]
  refine ⟨by omega, ?_⟩
  rw [List.getElem?_append_right (by omega)]
  rw [show ∀ n : Nat, n + endN a b - j - n = endN a b - j by intro n; omega, ha]
  congr 2 <;> omega
theorem pre_self : ∀ a : List Int, pre a a = a.length
  | [] => rfl
  | x :: a => by simp [pre, pre_self a]
/-- a row and itself -/
theorem hvO_self (a : List Int) : hvO a a 0 0 = diag a.length 0 0 := by
  have ⟨ml, _⟩ := mid_len a a
  rw [pre_self] at ml
  have e1 : midA a a = [] := List.eq_nil_of_length_eq_zero (by omega)
  have e2 : endN a a = 0 := by omega
  rw [hvO_eq, pre_self, if_pos (.inl e1), e2]
  simp [diag]
end Go.Proofs.Ytinfmkmebemhcaa.Lt
