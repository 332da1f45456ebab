/- Plain lists: what the search for a number's place comes to. -/
import Derived.Test.YtlpopkknamigoaaQ5
import Derived.Test.YtlpopkknamigoaaRankInts1
namespace Go.Proofs.Ytlpopkknamigoaa.Rk
open Go.RowKit Go.Proofs.Ytlpopkknamigoaa.Q Go.Proofs.YtlpopkknamigoaaW.PrintWords Go.Proofs.YtlpopkknamigoaaW.PrintLast Go.Proofs.YtlpopkknamigoaaW.PrintMore

theorem mid_eq (lo hi : Nat) (h : lo < hi) (hb : hi < 1099511627776) : wrap64 ((lo : Int) + wrap64 (Int.tdiv (wrap64 ((hi : Int) - lo)) 2)) = ((lo + (hi - lo) / 2 : Nat) : Int) := by
  have e1 : wrap64 ((hi : Int) - lo) = ((hi - lo : Nat) : Int) := by rw [w64 (by omega) (by omega)]; omega
  have e2 : Int.tdiv ((hi - lo : Nat) : Int) 2 = (((hi - lo) / 2 : Nat) : Int) := by rw [Int.tdiv_eq_ediv_of_nonneg (by omega)]; omega
  rw [e1, e2, w64_nat _ (by omega), wr3 _ _ (by omega) (by omega)]

theorem place_l0 (l : List Int) (n : Int) (hl : l.length < 1099511627776) (d : Nat) : ∀ lo hi : Nat, lo ≤ hi → hi ≤ l.length → hi - lo ≤ d → (lo = 0 ∨ l.getD (lo - 1) 0 < n) → (hi = l.length ∨ n ≤ l.getD hi 0) →
    ∃ p : Nat, Ev (fun k => rank_Place.l0 k l n lo hi) (p : Int) ∧ p ≤ l.length ∧ (p = 0 ∨ l.getD (p - 1) 0 < n) ∧ (p = l.length ∨ n ≤ l.getD p 0) := by
  induction d with
  | zero =>
    intro lo hi h1 h2 h3 hlo hhi
    obtain rfl : lo = hi := by omega
    exact ⟨lo, Ev.step (fun k => by rw [rank_Place.l0, if_neg (by omega)]) (Ev.now _), h2, hlo, hhi⟩
  | succ d ih =>
    intro lo hi h1 h2 h3 hlo hhi
    by_cases c : lo < hi
    · have hm := mid_eq lo hi c (by omega)
      have hmid : lo + (hi - lo) / 2 < hi := by omega
      have hmid' : lo ≤ lo + (hi - lo) / 2 := by omega
      generalize lo + (hi - lo) / 2 = mid at *
      have eq : ∀ k, rank_Place.l0 (k + 1) l n lo hi = if rd l mid < n then rank_Place.l0 k l n (wrap64 ((mid : Int) + 1)) hi else rank_Place.l0 k l n lo mid := by
        intro k
        rw [rank_Place.l0, if_pos (by omega), hm, if_pos (by omega), if_pos (by omega)]
      by_cases e : rd l mid < n
      · obtain ⟨p, hp, h⟩ := ih (mid + 1) hi (by omega) h2 (by omega) (.inr (by simpa [rd] using e)) hhi
        exact ⟨p, Ev.step (fun k => by rw [eq, if_pos e, w64_succ mid (by omega)]) hp, h⟩
      · obtain ⟨p, hp, h⟩ := ih lo mid hmid' (by omega) (by omega) hlo (.inr (by simpa [rd] using e))
        exact ⟨p, Ev.step (fun k => by rw [eq, if_neg e]) hp, h⟩
    · obtain rfl : lo = hi := by omega
      exact ⟨lo, Ev.step (fun k => by rw [rank_Place.l0, if_neg (by omega)]) (Ev.now _), h2, hlo, hhi⟩

theorem place_runs (l : List Int) (n : Int) (hl : l.length < 1099511627776) : ∃ p : Nat, Ev (fun k => rank_Place.f k l n) (p : Int) ∧ p ≤ l.length ∧ (p = 0 ∨ l.getD (p - 1) 0 < n) ∧ (p = l.length ∨ n ≤ l.getD p 0) := by
  obtain ⟨p, h⟩ := place_l0 l n hl l.length 0 l.length (by omega) (by omega) (by omega) (.inl rfl) (.inl rfl)
  exact ⟨p, h⟩

theorem sorted_values {l r : List Int} (h : Sorted (ltI l) l.length r) : (r.map (rd l)).Pairwise (· ≤ ·) := by
  rw [List.pairwise_map]
  refine h.2.imp ?_
  intro a b hab
  rcases hab with h | ⟨h, _⟩ <;> simp [ltI] at h <;> omega
end Go.Proofs.Ytlpopkknamigoaa.Rk
