/- For all bytes (the first 20000 of them) the lines and the starts that the program tells are the document's, the bytes are not changed, and the lines are new: proved of the printed functions. Conditions: none beyond the statement's own. -/
import Derived.Test.YtdekcmaakdpmaaaQ4
import Derived.Test.YtdekcmaakdpmaaaLinePure
namespace Go.Proofs.Ytdekcmaakdpmaaa.Pure
open Go.RowKit Go.Proofs.Ytdekcmaakdpmaaa.Q Go.Proofs.YtdekcmaakdpmaaaW.PrintWords Go.Proofs.YtdekcmaakdpmaaaW.PrintLast Go.Proofs.YtdekcmaakdpmaaaW.PrintMore

theorem splits_xor (x0 : List Int) (N M : Nat) (hN : N < 1099511627776) (hM : M < 1099511627776) : ∀ (d : Nat) (x4 : List (List Int)) (i : Nat), x4.length = N → (∀ l ∈ x4, l.length ≤ M) → i ≤ N → N - i ≤ d →
    Ev (fun k => scarflaw02_LineSplits.l1 k x0 (strOfNums x0) x4 i) true
  | d, x4, i, h1, h2, hi, hd => by
    by_cases c : i < N
    · have hd0 : 0 < d := by omega
      have inner : ∀ (m : Nat) (x4 : List (List Int)) (j : Nat), x4.length = N → (∀ l ∈ x4, l.length ≤ M) → (x4.getD i []).length - j ≤ m → j ≤ (x4.getD i []).length → Ev (fun k => scarflaw02_LineSplits.l2 k x0 (strOfNums x0) x4 i j) true := by
        intro m
        induction m with
        | zero =>
          intro x4 j h1 h2 hm hj
          have hr : rd_L2 x4 (i : Int) = x4.getD i [] := by unfold rd_L2; simp
          refine Ev.step (fun k => ?_) (splits_xor x0 N M hN hM (d - 1) x4 (i + 1) h1 h2 (by omega) (by omega))
          rw [scarflaw02_LineSplits.l2, if_pos (by omega), if_pos (by omega), hr, if_neg (by omega), w64 (by omega) (by omega)]
          rfl
        | succ m ih =>
          intro x4 j h1 h2 hm hj
          have hr : rd_L2 x4 (i : Int) = x4.getD i [] := by unfold rd_L2; simp
          have hmem : x4.getD i [] ∈ x4 := by rw [List.getD_eq_getElem?_getD, List.getElem?_eq_getElem (by omega)]; exact List.getElem_mem _
          have hlM := h2 _ hmem
          by_cases cj : j < (x4.getD i []).length
          · have hg : ∀ v : List Int, v.length = (x4.getD i []).length → ((x4.set i v).getD i []).length = (x4.getD i []).length := by
              intro v hv
              rw [List.getD_eq_getElem?_getD, List.getElem?_set_self (by omega)]
              exact hv
            obtain ⟨v, hv⟩ : ∃ v, v = (x4.getD i []).set j (Go.bits .xor .u8 (rd (x4.getD i []) (j : Int)) 255) := ⟨_, rfl⟩
            have hvl : v.length = (x4.getD i []).length := by rw [hv, List.length_set]
            have := ih (x4.set i v) (j + 1) (by rw [List.length_set]; exact h1) (fun l hl => by
              rcases List.mem_or_eq_of_mem_set hl with hl | rfl
              · exact h2 l hl
              · omega) (by rw [hg v hvl]; omega) (by rw [hg v hvl]; omega)
            refine Ev.step (fun k => ?_) this
            rw [scarflaw02_LineSplits.l2, if_pos (by omega), if_pos (by omega), hr, if_pos (by omega), if_pos (by omega), w64 (by omega) (by omega)]
            simp only [Int.toNat_natCast]
            rw [← hv]
            rfl
          · refine Ev.step (fun k => ?_) (splits_xor x0 N M hN hM (d - 1) x4 (i + 1) h1 h2 (by omega) (by omega))
            rw [scarflaw02_LineSplits.l2, if_pos (by omega), if_pos (by omega), hr, if_neg (by omega), w64 (by omega) (by omega)]
            rfl
      refine Ev.step (fun k => ?_) (inner _ x4 0 h1 h2 (Nat.le_refl _) (Nat.zero_le _))
      rw [scarflaw02_LineSplits.l1, if_pos (by omega)]
      rfl
    · refine Ev.step (fun k => ?_) (Ev.now _)
      rw [scarflaw02_LineSplits.l1, if_neg (by omega)]
      simp
  termination_by d => d
theorem splits_l0 (x0 : List Int) (x4 : List (List Int)) (s : List Int) (hs : s.length < 1099511627776) (h : Ev (fun k => scarflaw02_LineSplits.l1 k x0 (strOfNums x0) x4 0) true) : ∀ (d i : Nat), i ≤ s.length → s.length - i ≤ d → Ev (fun k => scarflaw02_LineSplits.l0 k x0 (strOfNums x0) x4 s s i) true
  | d, i, hi, hd => by
    by_cases c : i < s.length
    · have hd0 : 0 < d := by omega
      refine Ev.step (fun k => ?_) (splits_l0 x0 x4 s hs h (d - 1) (i + 1) (by omega) (by omega))
      rw [scarflaw02_LineSplits.l0, if_pos (by omega), if_pos (by omega), if_pos (by omega), if_pos rfl, w64 (by omega) (by omega)]
      rfl
    · refine Ev.step (fun k => ?_) h
      rw [scarflaw02_LineSplits.l0, if_neg (by omega)]
  termination_by d => d
theorem LineSplits : scarflaw02_LineSplits.Pure := by
  intro l0 _ _ hw
  apply Ev.rounds
  obtain ⟨y, hy⟩ : ∃ y, y = l0.take 20000 := ⟨_, rfl⟩
  have hb : bytesOk y = true := by rw [hy]; exact bytes_ok hw _
  have hl : y.length ≤ 20000 := by rw [hy, List.length_take]; omega
  have hS := splitL_len y
  have hfl := splitL_flat y
  have hrow : ∀ l ∈ splitL y, l.length ≤ 20000 := by
    intro l hm
    have := mem_flat_len hm
    rw [hfl] at this
    omega
  have hT := starts_len0 y hl
  refine Ev.congr (f := fun k => (scarfref02_Starts.f k y).bind fun t131 => (scarfref02_Split.f k y).bind fun t135 => (scarfref02_Same.f k (splitL y) t135).bind fun t138 => (if t138 = true then (scarflaw02_LineSplits.j0 k y (strOfNums y) (splitL y) (0 :: startsL 0 y) t131 (((0 :: startsL 0 y).length : Int) != (t131.length : Int))) else (scarflaw02_LineSplits.j0 k y (strOfNums y) (splitL y) (0 :: startsL 0 y) t131 true))) (fun k => ?_) ?_
  · unfold scarflaw02_LineSplits.f
    rw [← hy, Option.bind_some, split_is hb (by omega), Option.bind_some, starts_is hb (by omega), Option.bind_some]
    rfl
  · refine Ev.bind (refStarts y (by omega)) (Ev.bind (refSplit y (by omega)) (Ev.bind (same_refl _ (by omega)) ?_))
    simp only [if_true]
    have hx := splits_xor y (splitL y).length 20000 (by omega) (by omega) _ (splitL y) 0 rfl hrow (Nat.zero_le _) (Nat.le_refl _)
    refine Ev.step (fun k => ?_) (splits_l0 y (splitL y) (0 :: startsL 0 y) (by omega) hx _ 0 (Nat.zero_le _) (Nat.le_refl _))
    rw [scarflaw02_LineSplits.j0, if_neg (by simp)]
    rfl
end Go.Proofs.Ytdekcmaakdpmaaa.Pure
