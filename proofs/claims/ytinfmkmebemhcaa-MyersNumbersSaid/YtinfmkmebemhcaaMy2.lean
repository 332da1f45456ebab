/- The longest common row by halves, in plain Lean. -/
import Derived.Test.YtinfmkmebemhcaaMy1
namespace Go.Proofs.Ytinfmkmebemhcaa.Lt
open Go.Proofs.YtinfmkmebemhcaaW.Abs Go
set_option maxRecDepth 100000
set_option linter.unusedSimpArgs false
set_option linter.unusedVariables false

/-- how much both begin with -/
def pre : List Int → List Int → Nat
  | x :: a, y :: b => if x = y then pre a b + 1 else 0
  | _, _ => 0
theorem pre_le : ∀ a b : List Int, pre a b ≤ a.length ∧ pre a b ≤ b.length
  | [], b => by simp [pre]
  | x :: a, [] => by simp [pre]
  | x :: a, y :: b => by have := pre_le a b; rw [pre]; split <;> simp <;> omega
theorem pre_take : ∀ a b : List Int, a.take (pre a b) = b.take (pre a b)
  | [], b => by simp [pre]
  | x :: a, [] => by simp [pre]
  | x :: a, y :: b => by
    rw [pre]; split
    · rename_i h; simp [h, pre_take a b]
    · simp
def suf (a b : List Int) : Nat := pre a.reverse b.reverse
theorem suf_le (a b : List Int) : suf a b ≤ a.length ∧ suf a b ≤ b.length := by have := pre_le a.reverse b.reverse; simpa [suf] using this
theorem suf_drop (a b : List Int) : a.drop (a.length - suf a b) = b.drop (b.length - suf a b) := by
  have h := pre_take a.reverse b.reverse
  have ⟨h1, h2⟩ := suf_le a b
  rw [List.take_reverse, List.take_reverse] at h
  have := congrArg List.reverse h
  simpa [suf] using this
/-- the first place where g is greatest -/
def best (g : Nat → Nat) : Nat → Nat
  | 0 => 0
  | n + 1 => if g (best g n) < g (n + 1) then n + 1 else best g n
theorem best_le (g : Nat → Nat) : ∀ n, best g n ≤ n
  | 0 => Nat.le_refl _
  | n + 1 => by have := best_le g n; rw [best]; split <;> omega
theorem best_max (g : Nat → Nat) : ∀ n k, k ≤ n → g k ≤ g (best g n)
  | 0, k, h => by have : k = 0 := by omega
                  subst this; exact Nat.le_refl _
  | n + 1, k, h => by
    rw [best]
    by_cases hk : k ≤ n
    · have := best_max g n k hk; split <;> omega
    · have : k = n + 1 := by omega
      subst this; split <;> omega
/-- where a number stands -/
def idx (x : Int) : List Int → Option Nat
  | [] => none
  | y :: r => if y = x then some 0 else (idx x r).map (· + 1)
theorem idx_some : ∀ (x : Int) (l : List Int) (k : Nat), idx x l = some k → l[k]? = some x
  | x, [], k, h => by simp [idx] at h
  | x, y :: r, k, h => by
    rw [idx] at h
    by_cases hy : y = x
    · simp [hy] at h; subst h; simp [hy]
    · rw [if_neg hy] at h
      cases hi : idx x r with
      | none => rw [hi] at h; simp at h
      | some j => rw [hi] at h; simp at h; subst h; simpa using idx_some x r j hi
theorem idx_none : ∀ (x : Int) (l : List Int), idx x l = none → x ∉ l
  | x, [], h => by simp
  | x, y :: r, h => by
    rw [idx] at h
    by_cases hy : y = x
    · simp [hy] at h
    · rw [if_neg hy] at h
      have := idx_none x r (by simpa using h)
      simp [this, Ne.symm hy]
def diag (n i k : Nat) : List (Nat × Nat) := (List.range n).map fun j => (i + j, k + j)
/-- as myers.halves goes -/
def hv : Nat → List Int → List Int → Nat → Nat → List (Nat × Nat)
  | 0, _, _, _, _ => []
  | f + 1, a, b, i, k =>
    let p := pre a b
    let a1 := a.drop p
    let b1 := b.drop p
    let e := suf a1 b1
    let x := a1.take (a1.length - e)
    let y := b1.take (b1.length - e)
    diag p i k ++ (if x = [] ∨ y = [] then [] else if x.length = 1 then (match idx (x.headD 0) y with | none => [] | some t => [(i + p, k + p + t)]) else
      let m := x.length / 2
      let t := best (fun t => lcs (x.take m) (y.take t) + lcs (x.drop m) (y.drop t)) y.length
      hv f (x.take m) (y.take t) (i + p) (k + p) ++ hv f (x.drop m) (y.drop t) (i + p + m) (k + p + t)) ++ diag e (i + p + x.length) (k + p + y.length)
/-- a row's parts: what both begin with, the middle, what both end with -/
theorem parts (a b : List Int) : ∃ c d : List Int, a = c ++ (((a.drop (pre a b)).take ((a.drop (pre a b)).length - suf (a.drop (pre a b)) (b.drop (pre a b)))) ++ d) ∧
    b = c ++ (((b.drop (pre a b)).take ((b.drop (pre a b)).length - suf (a.drop (pre a b)) (b.drop (pre a b)))) ++ d) ∧ c.length = pre a b ∧ d.length = suf (a.drop (pre a b)) (b.drop (pre a b)) := by
  have h1 := pre_take a b
  have ⟨h2, h3⟩ := pre_le a b
  generalize pre a b = p at *
  have g1 := suf_drop (a.drop p) (b.drop p)
  have ⟨g2, g3⟩ := suf_le (a.drop p) (b.drop p)
  generalize suf (a.drop p) (b.drop p) = e at *
  refine ⟨a.take p, (a.drop p).drop ((a.drop p).length - e), ?_, ?_, by simp; omega, by simp at g2 g3 ⊢; omega⟩
  · rw [List.take_append_drop, List.take_append_drop]
  · rw [g1, h1, List.take_append_drop, List.take_append_drop]
theorem hv_len : ∀ (f : Nat) (a b : List Int) (i k : Nat), a.length < f → (hv f a b i k).length = lcs a b
  | 0, a, b, i, k, h => by omega
  | f + 1, a, b, i, k, h => by
    obtain ⟨c, d, ea, eb, hc, hd⟩ := parts a b
    rw [hv]
    dsimp only
    generalize pre a b = p at *
    generalize suf (a.drop p) (b.drop p) = e at *
    generalize hx : (a.drop p).take ((a.drop p).length - e) = x at *
    generalize hy : (b.drop p).take ((b.drop p).length - e) = y at *
    have hal : x.length ≤ a.length := by rw [ea]; simp; omega
    have e0 : lcs a b = c.length + (lcs x y + d.length) := by rw [ea, eb, lcs_front, lcs_back]
    simp only [List.length_append, diag, List.length_map, List.length_range]
    rw [e0, hc, hd]
    have mid : (if x = [] ∨ y = [] then ([] : List (Nat × Nat)) else if x.length = 1 then (match idx (x.headD 0) y with | none => [] | some t => [(i + p, k + p + t)]) else
      hv f (x.take (x.length / 2)) (y.take (best (fun t => lcs (x.take (x.length / 2)) (y.take t) + lcs (x.drop (x.length / 2)) (y.drop t)) y.length)) (i + p) (k + p) ++ hv f (x.drop (x.length / 2)) (y.drop (best (fun t => lcs (x.take (x.length / 2)) (y.take t) + lcs (x.drop (x.length / 2)) (y.drop t)) y.length)) (i + p + x.length / 2) (k + p + best (fun t => lcs (x.take (x.length / 2)) (y.take t) + lcs (x.drop (x.length / 2)) (y.drop t)) y.length)).length = lcs x y := by
      by_cases hxy : x = [] ∨ y = []
      · rw [if_pos hxy]
        rcases hxy with rfl | rfl
        · simp [lcs]
        · simp [lcs_nil]
      · rw [if_neg hxy]
        by_cases h1 : x.length = 1
        · rw [if_pos h1]
          obtain ⟨z, rfl⟩ : ∃ z, x = [z] := by
            cases x with
            | nil => simp at h1
            | cons z r => cases r with | nil => exact ⟨z, rfl⟩ | cons _ _ => simp at h1
          rw [lcs_one]
          show (match idx z y with | none => [] | some t => [(i + p, k + p + t)]).length = _
          cases hi : idx z y with
          | none => simp [idx_none z y hi]
          | some t => simp [List.mem_of_getElem? (idx_some z y t hi)]
        · rw [if_neg h1]
          have hx0 : x.length ≠ 0 := fun h0 => hxy (.inl (List.eq_nil_of_length_eq_zero h0))
          generalize hm : x.length / 2 = m at *
          have hm1 : 1 ≤ m ∧ m < x.length := by omega
          generalize hg : (fun t => lcs (x.take m) (y.take t) + lcs (x.drop m) (y.drop t)) = g
          have bl := best_le g y.length
          have bm := best_max g y.length
          generalize best g y.length = t at *
          rw [List.length_append, hv_len f _ _ _ _ (by simp; omega), hv_len f _ _ _ _ (by simp; omega)]
          have s1 := lcs_split (x.take m) (x.drop m) y t
          obtain ⟨k', hk', s2⟩ := lcs_part (x.take m) (x.drop m) y
          rw [List.take_append_drop] at s1 s2
          have s3 := bm k' hk'
          rw [← hg] at s3
          dsimp only at s3
          omega
    rw [mid]
    omega
end Go.Proofs.Ytinfmkmebemhcaa.Lt
