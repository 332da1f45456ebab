/- What the laws of longest common rows ask, in plain Lean. -/
import Derived.Test.YtinfmkmebemhcaaMy5
namespace Go.Proofs.Ytinfmkmebemhcaa.Lt
open Go.Proofs.YtinfmkmebemhcaaW.Abs Go
set_option maxRecDepth 100000
set_option linter.unusedSimpArgs false
set_option linter.unusedVariables false

/-- each number falls in its kind -/
theorem hvO_back_len (a b : List Int) : (hvO a.reverse b.reverse 0 0).length = (hvO a b 0 0).length := by rw [hvO_len, hvO_len, lcs_rev]
theorem hvO_swap_len (a b : List Int) : (hvO b a 0 0).length = (hvO a b 0 0).length := by rw [hvO_len, hvO_len, lcs_comm]
/-- how the ends' loop of the law goes: places from the back that agree, as long as both places lie behind the front -/
theorem end_at (a b : List Int) (j : Nat) (h1 : 1 ≤ j) (h : j ≤ endN a b) : ∃ x, a[a.length - j]? = some x ∧ b[b.length - j]? = some x := by
  have ⟨ml, ml2⟩ := mid_len a b
  obtain ⟨c, d, ea, eb, hc, hd⟩ := parts a b
  change d.length = endN a b at hd
  change a = c ++ (midA a b ++ d) at ea
  change b = c ++ (midB a b ++ d) at eb
  obtain ⟨x, hx⟩ : ∃ x, d[d.length - j]? = some x := ⟨d[d.length - j]'(by omega), List.getElem?_eq_getElem _⟩
  refine ⟨x, ?_, ?_⟩
  · have : a[a.length - j]? = (c ++ (midA a b ++ d))[a.length - j]? := by rw [← ea]
    rw [this, List.getElem?_append_right (by omega), List.getElem?_append_right (by omega), ← hx]
    congr 1; omega
  · have : b[b.length - j]? = (c ++ (midB a b ++ d))[b.length - j]? := by rw [← eb]
    rw [this, List.getElem?_append_right (by omega), List.getElem?_append_right (by omega), ← hx]
    congr 1; omega
theorem end_ne (a b : List Int) (x y : Int) (hA : pre a b + (endN a b + 1) ≤ a.length) (hB : pre a b + (endN a b + 1) ≤ b.length) (hx : a[a.length - (endN a b + 1)]? = some x) (hy : b[b.length - (endN a b + 1)]? = some y) : x ≠ y := by
  refine pre_ne (a.drop (pre a b)).reverse (b.drop (pre a b)).reverse x y ?_ ?_
  · change (a.drop (pre a b)).reverse[endN a b]? = some x
    rw [List.getElem?_reverse (by simp; omega), List.getElem?_drop, ← hx]
    congr 1; simp; omega
  · change (b.drop (pre a b)).reverse[endN a b]? = some y
    rw [List.getElem?_reverse (by simp; omega), List.getElem?_drop, ← hy]
    congr 1; simp; omega
/-- the law's examples -/
theorem ex16 : hvO [1, 2, 3, 4] [2, 4, 1] 0 0 = [(1, 0), (3, 1)] := by decide +kernel
end Go.Proofs.Ytinfmkmebemhcaa.Lt
