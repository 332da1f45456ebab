/- package line's functions, plainly: lines, starts, a place. -/
import Derived.Test.YtdekcmaakdpmaaaXWords
import Derived.Lib.Bytes
import Derived.Lib.Bytealg
namespace Go.Proofs.Ytdekcmaakdpmaaa.Q
open Go.RowKit Go.Proofs.YtdekcmaakdpmaaaW.PrintWords
set_option linter.unusedVariables false
set_option linter.unusedSimpArgs false

def bytesOk (l : List Int) : Bool := l.all fun x => decide (0 ≤ x) && decide (x < 256)
def glue (x : Int) : List (List Int) → List (List Int)
  | [] => [[x]]
  | l :: ls => (x :: l) :: ls
def splitL : List Int → List (List Int)
  | [] => []
  | x :: xs => if x = 10 then [x] :: splitL xs else glue x (splitL xs)
def startsL : Int → List Int → List Int
  | _, [] => []
  | i, x :: xs => if x = 10 then (i + 1) :: startsL (i + 1) xs else startsL (i + 1) xs
/-- the first line's length -/
def nl : List Int → Nat
  | [] => 0
  | x :: xs => if x = 10 then 1 else nl xs + 1
def line_Split.f (l0 : List Int) : Option (List (List Int)) := if (bytesOk l0 && decide (l0.length ≤ 1000000)) = true then some (splitL l0) else none
def line_Starts.f (l0 : List Int) : Option (List Int) := if (bytesOk l0 && decide (l0.length ≤ 1000000)) = true then some (0 :: startsL 0 l0) else none
def upL : List Int → Bool
  | [] => true
  | x :: xs => xs.all (fun y => decide (x ≤ y)) && upL xs
def placeL (l : List Int) (a : Int) : Int × Int := if l.countP (fun x => decide (x ≤ a)) = 0 then (0, 0) else ((l.countP (fun x => decide (x ≤ a)) : Int) - 1, wrap64 (a - l.getD (l.countP (fun x => decide (x ≤ a)) - 1) 0))
def line_Place.f (l0 : List Int) (a1 : Int) : Option (Int × Int) := if (upL l0 && decide (l0.length ≤ 1000000)) = true then some (placeL l0 a1) else none
def line_Join.f (l0 : List (List Int)) : Option (List Int) := if (decide (l0.length ≤ 1000000) && decide (l0.flatten.length ≤ 1000000000)) = true then some l0.flatten else none

theorem nl_le : ∀ l : List Int, nl l ≤ l.length
  | [] => Nat.le_refl _
  | x :: xs => by
    unfold nl
    split
    · simp
    · have := nl_le xs; simp; omega
theorem nl_pos {l : List Int} (h : l ≠ []) : 0 < nl l := by
  cases l with
  | nil => exact absurd rfl h
  | cons x xs => unfold nl; split <;> omega
theorem glue_ne (x : Int) (ls : List (List Int)) : glue x ls ≠ [] := by cases ls <;> simp [glue]
theorem splitL_ne {l : List Int} (h : l ≠ []) : splitL l ≠ [] := by
  cases l with
  | nil => exact absurd rfl h
  | cons x xs => unfold splitL; split; simp; exact glue_ne _ _
theorem splitL_cons (x : Int) (xs : List Int) : splitL (x :: xs) = if x = 10 then [x] :: splitL xs else glue x (splitL xs) := by rw [splitL]
theorem nl_cons (x : Int) (xs : List Int) : nl (x :: xs) = if x = 10 then 1 else nl xs + 1 := by rw [nl]
theorem splitL_step : ∀ {l : List Int}, l ≠ [] → splitL l = l.take (nl l) :: splitL (l.drop (nl l))
  | [], h => absurd rfl h
  | x :: xs, _ => by
    rw [splitL_cons, nl_cons]
    by_cases hx : x = 10
    · rw [if_pos hx, if_pos hx]; rfl
    · rw [if_neg hx, if_neg hx]
      by_cases hxs : xs = []
      · subst hxs; rfl
      · rw [splitL_step hxs]; rfl
theorem splitL_flat : ∀ l : List Int, (splitL l).flatten = l
  | [] => rfl
  | x :: xs => by
    have ih := splitL_flat xs
    unfold splitL
    split
    · simp [ih]
    · cases h : splitL xs with
      | nil => rw [h] at ih; simp at ih; simp [glue, ← ih]
      | cons a b => rw [h] at ih; simp at ih; simp [glue, ih]
theorem splitL_len : ∀ l : List Int, (splitL l).length ≤ l.length
  | [] => Nat.le_refl _
  | x :: xs => by
    have ih := splitL_len xs
    unfold splitL
    split
    · simp; exact ih
    · cases h : splitL xs with
      | nil => simp [glue]
      | cons a b => rw [h] at ih; simp [glue] at ih ⊢; omega
theorem startsL_len : ∀ (i : Int) (l : List Int), (startsL i l).length ≤ l.length
  | _, [] => Nat.le_refl _
  | i, x :: xs => by
    have := startsL_len (i + 1) xs
    unfold startsL
    split <;> simp <;> omega
theorem startsL_app : ∀ (i : Int) (a b : List Int), startsL i (a ++ b) = startsL i a ++ startsL (i + a.length) b
  | i, [], b => by simp [startsL]
  | i, x :: xs, b => by
    have ih := startsL_app (i + 1) xs b
    have e : i + 1 + (xs.length : Int) = i + ((x :: xs).length : Int) := by simp; omega
    rw [e] at ih
    simp only [List.cons_append]
    rw [startsL, startsL]
    by_cases h : x = 10
    · rw [if_pos h, if_pos h, ih]; rfl
    · rw [if_neg h, if_neg h, ih]
/-- a line: no newline but at its end -/
theorem take_nl : ∀ (l : List Int), (10 : Int) ∈ l → ∃ p, l.take (nl l) = p ++ [10] ∧ (10 : Int) ∉ p
  | [], h => by simp at h
  | x :: xs, h => by
    unfold nl
    by_cases hx : x = 10
    · subst hx; exact ⟨[], by simp, by simp⟩
    · rw [if_neg hx]
      have hm : (10 : Int) ∈ xs := by
        rcases List.mem_cons.1 h with h | h
        · exact absurd h.symm hx
        · exact h
      obtain ⟨p, hp, hn⟩ := take_nl xs hm
      exact ⟨x :: p, by rw [List.take_succ_cons, hp]; rfl, by simp [hn]; exact fun h => hx h.symm⟩
theorem nl_none : ∀ (l : List Int), (10 : Int) ∉ l → nl l = l.length
  | [], _ => rfl
  | x :: xs, h => by
    unfold nl
    rw [if_neg (fun e => h (by simp [e])), nl_none xs (fun e => h (by simp [e]))]
    rfl
theorem startsL_none : ∀ (i : Int) (l : List Int), (10 : Int) ∉ l → startsL i l = []
  | _, [], _ => rfl
  | i, x :: xs, h => by
    unfold startsL
    rw [if_neg (fun e => h (by simp [e]))]
    exact startsL_none _ _ (fun e => h (by simp [e]))
theorem byte_ten {x : Int} (h0 : 0 ≤ x) (h1 : x < 256) : (UInt8.ofNat x.toNat == (10 : Int).toNat.toUInt8) = decide (x = 10) := by
  by_cases h : x = 10
  · subst h; rfl
  · rw [decide_eq_false h]
    apply beq_eq_false_iff_ne.2
    intro e
    have e2 := congrArg UInt8.toNat e
    have : (UInt8.ofNat x.toNat).toNat = x.toNat := by rw [UInt8.toNat_ofNat']; omega
    rw [this] at e2
    have : (Nat.toUInt8 (10 : Int).toNat).toNat = 10 := rfl
    omega
theorem idx_eq : ∀ (l : List Int), bytesOk l = true → Lib.indexByte (Lib.bytesOf l) (10 : Int).toNat.toUInt8 = if (10 : Int) ∈ l then (nl l : Int) - 1 else -1
  | [], _ => rfl
  | x :: xs, h => by
    have hx : (0 ≤ x ∧ x < 256) ∧ bytesOk xs = true := by simpa [bytesOk] using h
    have ih := idx_eq xs hx.2
    show (if (UInt8.ofNat x.toNat == (10 : Int).toNat.toUInt8) = true then (0 : Int) else if (Lib.indexByte (Lib.bytesOf xs) (10 : Int).toNat.toUInt8 == -1) = true then -1 else Lib.indexByte (Lib.bytesOf xs) (10 : Int).toNat.toUInt8 + 1) = _
    rw [byte_ten hx.1.1 hx.1.2, ih]
    by_cases e : x = 10
    · subst e; simp [nl]
    · rw [decide_eq_false e]
      by_cases hm : (10 : Int) ∈ xs
      · have hne : xs ≠ [] := by intro e2; rw [e2] at hm; simp at hm
        have := nl_pos hne
        have hx2 : (10 : Int) ∈ x :: xs := List.mem_cons_of_mem _ hm
        rw [if_pos hm, if_pos hx2]
        have e3 : (((nl xs : Int) - 1) == -1) = false := beq_eq_false_iff_ne.2 (by omega)
        rw [e3]
        simp [nl, e]
      · have hx2 : ¬ (10 : Int) ∈ x :: xs := by
          intro h2
          rcases List.mem_cons.1 h2 with h2 | h2
          · exact e h2.symm
          · exact hm h2
        rw [if_neg hm, if_neg hx2]
        simp
/-- the lines as slices: where each begins -/
def linesV : Option Addr → Nat → List (List Int) → List (Option Addr × Nat × List Int)
  | _, _, [] => []
  | A, c, l :: ls => (A, c, l) :: linesV (if c = l.length then A else A.map (·.add (l.length * 1))) (c - l.length) ls
theorem linesV_snd : ∀ (A : Option Addr) (c : Nat) (ls : List (List Int)), (linesV A c ls).map (fun x => x.2.2) = ls
  | _, _, [] => rfl
  | A, c, l :: ls => by simp [linesV, linesV_snd]
/-- what the lines are: each but the last ends in a newline and has no other -/
theorem splitL_lines : ∀ (m : Nat) (l : List Int), l.length ≤ m → ∀ P x R, splitL l = P ++ x :: R → (∀ y ∈ P, ∃ p, y = p ++ [(10 : Int)] ∧ (10 : Int) ∉ p) ∧ ((∃ p, x = p ++ [(10 : Int)] ∧ (10 : Int) ∉ p) ∨ (x ≠ [] ∧ (10 : Int) ∉ x ∧ R = []))
  | m, l, hm, P, x, R, h => by
    by_cases hne : l = []
    · subst hne; simp [splitL] at h
    · have hnp := nl_pos hne
      have hnle := nl_le l
      have hl2 : (l.drop (nl l)).length = l.length - nl l := List.length_drop
      have hm0 : 0 < m := by have := List.length_pos_iff.2 hne; omega
      rw [splitL_step hne] at h
      have hfirst : (∃ p, l.take (nl l) = p ++ [(10 : Int)] ∧ (10 : Int) ∉ p) ∨ (l.take (nl l) ≠ [] ∧ (10 : Int) ∉ l.take (nl l) ∧ splitL (l.drop (nl l)) = []) := by
        by_cases ht : (10 : Int) ∈ l
        · exact .inl (take_nl l ht)
        · refine .inr ?_
          rw [nl_none l ht, List.take_length, List.drop_length]
          exact ⟨hne, ht, rfl⟩
      cases P with
      | nil =>
        simp only [List.nil_append, List.cons.injEq] at h
        obtain ⟨rfl, rfl⟩ := h
        exact ⟨by simp, hfirst⟩
      | cons y P =>
        simp only [List.cons_append, List.cons.injEq] at h
        obtain ⟨rfl, h⟩ := h
        have h2 := splitL_lines (m - 1) (l.drop (nl l)) (by omega) P x R h
        refine ⟨fun z hz => ?_, h2.2⟩
        rcases List.mem_cons.1 hz with rfl | hz
        · rcases hfirst with h3 | h3
          · exact h3
          · rw [h3.2.2] at h; simp at h
        · exact h2.1 z hz
  termination_by m => m
theorem startsL_end {i : Int} {p : List Int} (h : (10 : Int) ∉ p) : startsL i (p ++ [10]) = [i + (p.length : Int) + 1] := by
  rw [startsL_app, startsL_none _ _ h]
  simp [startsL]
theorem starts_last : ∀ (P : List (List Int)) (i : Int), (∀ y ∈ P, ∃ p, y = p ++ [(10 : Int)] ∧ (10 : Int) ∉ p) → ∃ Q, i :: startsL i P.flatten = Q ++ [i + (P.flatten.length : Int)]
  | [], i, _ => ⟨[], by simp [startsL]⟩
  | y :: P, i, h => by
    obtain ⟨p, rfl, hp⟩ := h y (List.mem_cons_self ..)
    obtain ⟨Q, hQ⟩ := starts_last P (i + ((p ++ [(10 : Int)]).length : Int)) (fun z hz => h z (List.mem_cons_of_mem _ hz))
    refine ⟨i :: Q, ?_⟩
    have e : i + ((p ++ [(10 : Int)]).length : Int) = i + (p.length : Int) + 1 := by simp; omega
    rw [List.flatten_cons, startsL_app, startsL_end hp, ← e, List.singleton_append, hQ]
    simp
    omega
end Go.Proofs.Ytdekcmaakdpmaaa.Q
