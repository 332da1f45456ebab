/- Where lines begin and end, plainly. -/
import Derived.Test.YtdekcmaakdpmaaaLinePure
namespace Go.Proofs.Ytdekcmaakdpmaaa.Pure
open Go.RowKit Go.Proofs.Ytdekcmaakdpmaaa.Q Go.Proofs.YtdekcmaakdpmaaaW.PrintWords Go.Proofs.YtdekcmaakdpmaaaW.PrintLast Go.Proofs.YtdekcmaakdpmaaaW.PrintMore
set_option linter.unusedVariables false

theorem rd_last {y : List Int} (h : y ≠ []) : y.getLast? = some (rd y ((y.length : Int) - 1)) := by
  have hp := List.length_pos_iff.2 h
  rw [List.getLast?_eq_getElem?]
  unfold rd
  have e : ((y.length : Int) - 1).toNat = y.length - 1 := by omega
  rw [e, List.getD_eq_getElem?_getD, List.getElem?_eq_getElem (by omega)]
  rfl
theorem split_count : ∀ (m : Nat) (y : List Int) (i : Int), y.length ≤ m → (splitL y).length + (if y = [] ∨ y.getLast? = some 10 then 1 else 0) = (startsL i y).length + 1
  | m, y, i, hm => by
    by_cases hne : y = []
    · subst hne; simp [splitL, startsL]
    · have hnp := nl_pos hne
      have hnle := nl_le y
      have hl2 : (y.drop (nl y)).length = y.length - nl y := List.length_drop
      have hm0 : 0 < m := by have := List.length_pos_iff.2 hne; omega
      rw [splitL_step hne, List.length_cons]
      by_cases ht : (10 : Int) ∈ y
      · obtain ⟨p, hp, hpn⟩ := take_nl y ht
        have hst : startsL i y = (i + (p.length : Int) + 1) :: startsL (i + (p.length : Int) + 1) (y.drop (nl y)) := by
          conv => lhs; rw [← List.take_append_drop (nl y) y]
          rw [startsL_app, hp, startsL_end hpn]
          simp [Int.add_assoc]
        rw [hst, List.length_cons]
        have ih := split_count (m - 1) (y.drop (nl y)) (i + (p.length : Int) + 1) (by omega)
        have hc : (y = [] ∨ y.getLast? = some 10) ↔ (y.drop (nl y) = [] ∨ (y.drop (nl y)).getLast? = some 10) := by
          have e : y.getLast? = ((y.drop (nl y)).getLast?).or (y.take (nl y)).getLast? := by
            conv => lhs; rw [← List.take_append_drop (nl y) y]
            rw [List.getLast?_append]
          rw [e, hp]
          by_cases hr : y.drop (nl y) = []
          · rw [hr]; simp [hne]
          · have := rd_last hr
            rw [this]
            simp [hne, hr]
        simp only [hc]
        omega
      · rw [nl_none y ht, List.drop_length, startsL_none _ _ ht]
        have hn : ¬ (y = [] ∨ y.getLast? = some 10) := by
          rintro (h | h)
          · exact hne h
          · exact ht (List.mem_of_getLast? h)
        rw [if_neg hn]
        simp [splitL]
  termination_by m => m
theorem line_at : ∀ (m : Nat) (y : List Int) (i : Int) (n : Nat), y.length ≤ m → n < (splitL y).length →
    (n + 1 < (i :: startsL i y).length → (i :: startsL i y).getD (n + 1) 0 = (i :: startsL i y).getD n 0 + ((splitL y).getD n []).length) ∧ ((i :: startsL i y).length ≤ n + 1 → (i :: startsL i y).getD n 0 + ((splitL y).getD n []).length = i + y.length)
  | m, y, i, n, hm, hn => by
    by_cases hne : y = []
    · subst hne; simp [splitL] at hn
    · have hnp := nl_pos hne
      have hnle := nl_le y
      have hl2 : (y.drop (nl y)).length = y.length - nl y := List.length_drop
      have hm0 : 0 < m := by have := List.length_pos_iff.2 hne; omega
      have hl1 : (y.take (nl y)).length = nl y := by rw [List.length_take]; omega
      rw [splitL_step hne] at hn ⊢
      by_cases ht : (10 : Int) ∈ y
      · obtain ⟨p, hp, hpn⟩ := take_nl y ht
        have hpl : (nl y : Int) = (p.length : Int) + 1 := by rw [← hl1, hp]; simp
        have hst : startsL i y = (i + (nl y : Int)) :: startsL (i + (nl y : Int)) (y.drop (nl y)) := by
          conv => lhs; rw [← List.take_append_drop (nl y) y]
          rw [startsL_app, hl1, hp, startsL_end hpn, List.singleton_append]
          congr 1
          omega
        rw [hst]
        cases n with
        | zero =>
          simp [hl1]
        | succ n =>
          have ih := line_at (m - 1) (y.drop (nl y)) (i + (nl y : Int)) n (by omega) (by simpa using hn)
          simp only [List.getD_cons_succ, List.length_cons] at ih ⊢
          refine ⟨fun h => ih.1 (by omega), fun h => ?_⟩
          rw [ih.2 (by omega), hl2]
          omega
      · rw [nl_none y ht, List.drop_length] at hn ⊢
        rw [startsL_none _ _ ht, List.take_length]
        have h0 : n = 0 := by simp [splitL] at hn; exact hn
        subst h0
        simp
  termination_by m => m
theorem starts_in (y : List Int) : ∀ z ∈ (0 : Int) :: startsL 0 y, 0 ≤ z ∧ z ≤ y.length := by
  intro z hz
  rcases List.mem_cons.1 hz with rfl | hz
  · omega
  · have h1 := starts_gt 0 y z hz
    have h2 := starts_le 0 y z hz
    omega
theorem place_of (y : List Int) (hl : y.length ≤ 20000) (p : Int) (h0 : 0 ≤ p) (h1 : p ≤ y.length) :
    ∃ N : Nat, N + 1 ≤ (0 :: startsL 0 y).length ∧ N + 1 = ((0 : Int) :: startsL 0 y).countP (fun x => decide (x ≤ p)) ∧ placeL (0 :: startsL 0 y) p = ((N : Int), p - (0 :: startsL 0 y).getD N 0) ∧ 0 ≤ (0 :: startsL 0 y).getD N 0 ∧ (0 :: startsL 0 y).getD N 0 ≤ p ∧ (∀ j, j < (0 :: startsL 0 y).length → N + 1 ≤ j → p < (0 :: startsL 0 y).getD j 0) := by
  have hu := starts_up y
  have hin := starts_in y
  have hle : ((0 : Int) :: startsL 0 y).countP (fun x => decide (x ≤ p)) ≤ (0 :: startsL 0 y).length := List.countP_le_length
  have hc := fun j => up_count (l := 0 :: startsL 0 y) p hu j
  have hpos : 0 < ((0 : Int) :: startsL 0 y).countP (fun x => decide (x ≤ p)) := (hc 0 (by simp)).1 (by simpa using h0)
  unfold placeL
  generalize ((0 : Int) :: startsL 0 y).countP (fun x => decide (x ≤ p)) = C at *
  generalize (0 : Int) :: startsL 0 y = s at *
  obtain ⟨N, rfl⟩ : ∃ N, C = N + 1 := ⟨C - 1, by omega⟩
  have hmem : s.getD N 0 ∈ s := by rw [List.getD_eq_getElem?_getD, List.getElem?_eq_getElem (by omega)]; exact List.getElem_mem _
  have hb := hin _ hmem
  have hsp := (hc N (by omega)).2 (by omega)
  refine ⟨N, hle, rfl, ?_, hb.1, hsp, fun j hj hjn => ?_⟩
  · rw [if_neg (by omega), Nat.add_sub_cancel, w64 (by omega) (by omega)]
    congr 1
    omega
  · have := mt (hc j hj).1 (by omega)
    omega
/-- a place, cut down to what is there -/
theorem cut_place (a : Int) (n : Nat) (h : n ≤ 20000) : ∃ p : Int, wrap64 (Int.tmod (IntKind.u64.wrap a) (IntKind.u64.wrap (wrap64 ((n : Int) + 1)))) = p ∧ 0 ≤ p ∧ p ≤ n ∧ ¬ IntKind.u64.wrap (wrap64 ((n : Int) + 1)) = 0 := by
  have hd : IntKind.u64.wrap (wrap64 ((n : Int) + 1)) = (n : Int) + 1 := by rw [w64 (by omega) (by omega), u64_small (by omega) (by omega)]
  have hu := u64_nonneg a
  rw [hd, Int.tmod_eq_emod_of_nonneg hu]
  have e1 := Int.emod_nonneg (IntKind.u64.wrap a) (show (n : Int) + 1 ≠ 0 by omega)
  have e2 := Int.emod_lt_of_pos (IntKind.u64.wrap a) (show (0 : Int) < (n : Int) + 1 by omega)
  refine ⟨_, w64 (by omega) (by omega), e1, by omega, by omega⟩
end Go.Proofs.Ytdekcmaakdpmaaa.Pure
