/- The plain law: a plan's document has the plan's pieces. -/
import Derived.Test.YtgahmpfpnclefaaDoc8
namespace Go.Proofs.Ytgahmpfpnclefaa.Lt
open Go.Proofs.YtgahmpfpnclefaaW.Abs Go
set_option maxRecDepth 100000
set_option linter.unusedSimpArgs false
set_option linter.unusedVariables false

mutual
/-- all pieces -/
def fullP : T → List Pc
  | .mk k s _ kids =>
    if k = 1 then (if s = [] then [] else [⟨1, s⟩])
    else if k = 2 ∨ k = 3 ∨ k = 4 then [⟨k, []⟩]
    else if k = 5 ∨ k = 7 then ⟨k, []⟩ :: fullL kids ++ [⟨k + 1, []⟩]
    else fullL kids
def fullL : List T → List Pc
  | [] => []
  | t :: r => fullP t ++ fullL r
end
mutual
def size : T → Int
  | .mk _ _ _ kids => 1 + sizeL kids
def sizeL : List T → Int
  | [] => 0
  | t :: r => size t + sizeL r
end

theorem plainL_row (nil : Bool) (l : List T) : plain (row nil l) = plainL l := by simp [row, plain]
mutual
theorem plain_built : ∀ t : T, plain (built t) = fullP t
  | .mk k s nil kids => by
    have ih := plain_builtL kids
    have w6 : IntKind.i64.wrap 6 = 6 := by decide
    have w8 : IntKind.i64.wrap 8 = 8 := by decide
    simp only [built, fullP]
    by_cases h1 : k = 1
    · subst h1; simp only [if_true, text, none']
      by_cases hs : s = [] <;> simp [hs, plain, plainL]
    by_cases h2 : k = 2
    · subst h2; simp [piece1, plain, plainL]
    by_cases h3 : k = 3
    · subst h3; simp [piece1, plain, plainL]
    by_cases h4 : k = 4
    · subst h4; simp [piece1, plain, plainL]
    by_cases h5 : k = 5
    · subst h5; simp [nest, plain, plainL, plainL_row, ih, w6]
    by_cases h7 : k = 7
    · subst h7; simp [group, plain, plainL, plainL_row, ih, w8]
    simp [h1, h2, h3, h4, h5, h7, plainL_row, ih]
theorem plain_builtL : ∀ l : List T, plainL (builtL l) = fullL l
  | [] => by simp [builtL, plainL, fullL]
  | t :: r => by simp [builtL, plainL, fullL, plain_built t, plain_builtL r]
end

mutual
theorem size_pos : ∀ t : T, 1 ≤ size t
  | .mk _ _ _ kids => by have := sizeL_pos kids; simp only [size]; omega
theorem sizeL_pos : ∀ l : List T, 0 ≤ sizeL l
  | [] => by simp [sizeL]
  | t :: r => by have := size_pos t; have := sizeL_pos r; simp only [sizeL]; omega
end
mutual
theorem full_len : ∀ t : T, ((fullP t).length : Int) ≤ 2 * size t
  | .mk k s nil kids => by
    have ih := full_lenL kids
    have := sizeL_pos kids
    simp only [fullP, size]
    split
    · split <;> simp <;> omega
    split
    · simp; omega
    split
    · simp; omega
    · omega
theorem full_lenL : ∀ l : List T, ((fullL l).length : Int) ≤ 2 * sizeL l
  | [] => by simp [fullL, sizeL]
  | t :: r => by have := full_len t; have := full_lenL r; simp [fullL, sizeL]; omega
end

theorem szL_ge : ∀ (l : List T) (m n : Int), 1 ≤ n → n ≤ szL l m n
  | [], m, n, h => by simp [szL]
  | t :: r, m, n, h => by
    simp only [szL]; split
    · have h1 := sz_bd t (m - n) (by omega)
      have := szL_ge r m (n + sz t (m - n)) (by omega)
      omega
    · omega
mutual
theorem sz_eq : ∀ (t : T) (m : Int), sz t m < m → sz t m = size t
  | .mk _ _ _ kids, m, h => by simp only [sz, size] at h ⊢; exact szL_eq kids m 1 (by omega) h
theorem szL_eq : ∀ (l : List T) (m n : Int), 1 ≤ n → szL l m n < m → szL l m n = n + sizeL l
  | [], m, n, h0, h => by simp [szL, sizeL]
  | t :: r, m, n, h0, h => by
    simp only [szL, sizeL] at h ⊢
    split at h
    · rename_i hn
      have h1 := sz_bd t (m - n) (by omega)
      have h2 := szL_ge r m (n + sz t (m - n)) (by omega)
      have h3 := sz_eq t (m - n) (by omega)
      rw [if_pos hn, szL_eq r m _ (by omega) h]; omega
    · omega
end
mutual
theorem pcs_eq : ∀ (t : T) (m : Int), ((fullP t).length : Int) < m → pcs t m = fullP t
  | .mk k s nil kids, m, h => by
    simp only [pcs, fullP] at h ⊢
    by_cases h1 : k = 1
    · simp only [if_pos h1]
    simp only [if_neg h1] at h ⊢
    by_cases h2 : k = 2 ∨ k = 3 ∨ k = 4
    · simp only [if_pos h2]
    simp only [if_neg h2] at h ⊢
    by_cases h5 : k = 5 ∨ k = 7
    · simp only [if_pos h5] at h ⊢
      rw [pcsL_eq kids m _ (by simp at h ⊢; omega)]; simp
    · simp only [if_neg h5] at h ⊢
      rw [pcsL_eq kids m _ (by simpa using h)]; simp
theorem pcsL_eq : ∀ (l : List T) (m : Int) (acc : List Pc), (acc.length : Int) + (fullL l).length < m → pcsL l m acc = acc ++ fullL l
  | [], m, acc, h => by simp [pcsL, fullL]
  | t :: r, m, acc, h => by
    simp only [fullL, List.length_append] at h
    simp only [pcsL, fullL]
    rw [if_pos (by omega), pcs_eq t _ (by omega), pcsL_eq r m _ (by simp; omega)]
    simp
end

/-- few parts: the plan's pieces are its document's -/
theorem few_pieces {t : T} (h : few t = true) : plain (built t) = pcs t 1000 ∧ (pcs t 1000).length < 800 := by
  simp only [few, Bool.and_eq_true, decide_eq_true_eq] at h
  have h1 := sz_eq t 400 h.2
  have h2 := full_len t
  have h3 := pcs_eq t 1000 (by omega)
  rw [h3]
  exact ⟨plain_built t, by omega⟩
end Go.Proofs.Ytgahmpfpnclefaa.Lt
