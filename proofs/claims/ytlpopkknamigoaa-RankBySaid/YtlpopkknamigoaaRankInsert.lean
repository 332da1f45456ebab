/- Plain lists: the insertion of a place into a row of places that is in order. -/
import Derived.Test.YtlpopkknamigoaaRankSort
namespace Go.Proofs.Ytlpopkknamigoaa.Rk
open Go.RowKit Go.Proofs.YtlpopkknamigoaaW.PrintWords Go.Proofs.YtlpopkknamigoaaW.PrintMore

/-- a row of the first i places, in order; the place i goes behind 'at' of them: behind none that is greater, ahead of none that is less or alike -/
theorem insert_sorted {lt : Int → Int → Bool} (o : Ord lt) {i at_ : Nat} {row : List Int} (h : Sorted lt i row) (ha : at_ ≤ i) (hgt : ∀ j, at_ ≤ j → j < i → lt i (row.getD j 0) = true)
    (hle : at_ = 0 ∨ lt i (row.getD (at_ - 1) 0) = false) : Sorted lt (i + 1) (row.take at_ ++ ((i : Int) :: row.drop at_)) := by
  have hlen : row.length = i := h.length
  refine ⟨?_, ?_⟩
  · rw [places_succ]
    refine (List.perm_middle.trans ?_).trans (List.perm_append_comm (l₁ := [(i : Int)]))
    rw [List.take_append_drop]
    exact h.1.cons _
  · have hsplit : (row.take at_ ++ row.drop at_).Pairwise (R lt) := by rw [List.take_append_drop]; exact h.2
    rw [List.pairwise_append] at hsplit
    rw [List.pairwise_append]
    have hgt' : ∀ y ∈ row.drop at_, R lt i y := by
      intro y hy
      obtain ⟨j, hj, rfl⟩ := List.mem_iff_getElem.1 hy
      rw [List.length_drop] at hj
      rw [List.getElem_drop]
      have := hgt (at_ + j) (by omega) (by omega)
      rw [List.getD_eq_getElem?_getD, List.getElem?_eq_getElem (by omega)] at this
      exact .inl this
    have hle' : ∀ x ∈ row.take at_, R lt x i := by
      intro x hx
      rcases hle with h0 | h0
      · subst h0; simp at hx
      · by_cases e0 : at_ = 0
        · subst e0; simp at hx
        · have hm : row.getD (at_ - 1) 0 ∈ row := getD_mem _ _ (by omega)
          have hb := (h.mem.1 hm)
          have hR : R lt (row.getD (at_ - 1) 0) i := .inr ⟨h0, hb.2⟩
          obtain ⟨j, hj, rfl⟩ := List.mem_iff_getElem.1 hx
          rw [List.length_take] at hj
          rw [List.getElem_take]
          by_cases e : j = at_ - 1
          · subst e
            rw [List.getD_eq_getElem?_getD, List.getElem?_eq_getElem (by omega)] at hR
            exact hR
          · refine R.trans o ?_ hR
            rw [List.getD_eq_getElem?_getD, List.getElem?_eq_getElem (by omega)]
            exact List.pairwise_iff_getElem.1 h.2 j (at_ - 1) (by omega) (by omega) (by omega)
    refine ⟨hsplit.1, List.Pairwise.cons hgt' hsplit.2.1, ?_⟩
    intro x hx y hy
    rcases List.mem_cons.1 hy with rfl | hy
    · exact hle' x hx
    · exact hsplit.2.2 x hx y hy

theorem Sorted.nil (lt : Int → Int → Bool) : Sorted lt 0 [] := ⟨by simp [places], List.Pairwise.nil⟩

/-- the order of places by numbers -/
def ltI (l : List Int) (a b : Int) : Bool := decide (rd l a < rd l b)
theorem ltI_ord (l : List Int) : Ord (ltI l) :=
  ⟨fun a => by simp [ltI], fun a b c h k => by simp only [ltI, decide_eq_true_eq] at *; omega, fun a b c h k => by simp only [ltI, decide_eq_false_iff_not] at *; omega⟩
end Go.Proofs.Ytlpopkknamigoaa.Rk
