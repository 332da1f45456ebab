/- For all bytes and any two places: there are as many starts as newlines, and one more; the lines are as many, less one where nothing is behind the last newline; a later place is on a later line or farther on the same: proved of the printed functions. Conditions: none beyond the statement's own. -/
import Derived.Test.YtdekcmaakdpmaaaQ7
import Derived.Test.YtdekcmaakdpmaaaLinePure2
namespace Go.Proofs.Ytdekcmaakdpmaaa.Pure
open Go.RowKit Go.Proofs.Ytdekcmaakdpmaaa.Q Go.Proofs.YtdekcmaakdpmaaaW.PrintWords Go.Proofs.YtdekcmaakdpmaaaW.PrintLast Go.Proofs.YtdekcmaakdpmaaaW.PrintMore

theorem counts_j3 (y : List Int) (hb : bytesOk y = true) (hl : y.length ≤ 20000) (p q : Int) (h0 : 0 ≤ p) (hpq : p ≤ q) (h1 : q ≤ y.length) (x7 x10 : Int) (e7 : ((0 :: startsL 0 y).length : Int) = x7) (e10 : ((splitL y).length : Int) = x10) :
    Ev (fun k => scarflaw02_LineCounts.j3 k y p q x7 (0 :: startsL 0 y) x10) true := by
  have hT := starts_len0 y hl
  have hu := starts_up y
  obtain ⟨N, hN, hNc, hNp, hN0, hN1, hN2⟩ := place_of y hl p h0 (by omega)
  obtain ⟨M, hM, hMc, hMp, hM0, hM1, hM2⟩ := place_of y hl q (by omega) h1
  have hNM : N ≤ M := by
    have : ((0 : Int) :: startsL 0 y).countP (fun x => decide (x ≤ p)) ≤ ((0 : Int) :: startsL 0 y).countP (fun x => decide (x ≤ q)) := List.countP_mono_left (fun x _ hx => by
      have h2 : x ≤ p := by simpa using hx
      have h3 : x ≤ q := by omega
      simpa using h3)
    omega
  refine Ev.step (fun k => ?_) (Ev.now _)
  rw [scarflaw02_LineCounts.j3, place_is hu hT, Option.bind_some, place_is hu hT, Option.bind_some, hNp, hMp]
  simp only [scarflaw02_known.f, Option.bind_some, if_true]
  rw [if_pos e7, split_is hb (by omega), Option.bind_some, if_pos e10]
  by_cases c : (N : Int) < (M : Int)
  · rw [if_pos c]
  · obtain rfl : N = M := by omega
    rw [if_neg c, if_pos rfl, decide_eq_true (by omega)]
theorem counts_j2 (y : List Int) (hb : bytesOk y = true) (hl : y.length ≤ 20000) (a b : Int) (x7 x10 : Int) (e7 : ((0 :: startsL 0 y).length : Int) = x7) (e10 : ((splitL y).length : Int) = x10) :
    Ev (fun k => scarflaw02_LineCounts.j2 k y a b x7 (0 :: startsL 0 y) x10) true := by
  obtain ⟨p, hp, p0, p1, hd⟩ := cut_place a y.length hl
  obtain ⟨q, hq, q0, q1, _⟩ := cut_place b y.length hl
  by_cases c : p > q
  · refine Ev.step (fun k => ?_) (counts_j3 y hb hl q p q0 (by omega) p1 x7 x10 e7 e10)
    rw [scarflaw02_LineCounts.j2, if_neg hd, hp, hq, if_pos c]
  · refine Ev.step (fun k => ?_) (counts_j3 y hb hl p q p0 (by omega) q1 x7 x10 e7 e10)
    rw [scarflaw02_LineCounts.j2, if_neg hd, hp, hq, if_neg c]
theorem counts_end (y : List Int) (hb : bytesOk y = true) (hl : y.length ≤ 20000) (a b : Int) (x7 : Int) (e7 : ((0 :: startsL 0 y).length : Int) = x7) :
    Ev (fun k => (line_Starts.f y).bind fun t183 => (if (y.length : Int) = 0 then (scarflaw02_LineCounts.j1 k y a b x7 t183 x7 true) else (if 0 ≤ (wrap64 ((y.length : Int) - 1)) then (if (wrap64 ((y.length : Int) - 1)) < (y.length : Int) then (scarflaw02_LineCounts.j1 k y a b x7 t183 x7 ((rd y (wrap64 ((y.length : Int) - 1))) == 10)) else (none)) else (none)))) true := by
  have hT := starts_len0 y hl
  have hc := split_count y.length y 0 (Nat.le_refl _)
  have hlen : (0 :: startsL 0 y).length = (startsL 0 y).length + 1 := rfl
  by_cases hne : y = []
  · have h0 : (y.length : Int) = 0 := by rw [hne]; rfl
    rw [if_pos (.inl hne)] at hc
    refine Ev.congr (fun k => by rw [starts_is hb (by omega), Option.bind_some, if_pos h0]) ?_
    refine Ev.step (fun k => ?_) (counts_j2 y hb hl a b x7 (x7 - 1) e7 (by omega))
    rw [scarflaw02_LineCounts.j1, if_pos rfl, w64 (by omega) (by omega)]
  · have hp := List.length_pos_iff.2 hne
    have hw : wrap64 ((y.length : Int) - 1) = (y.length : Int) - 1 := w64 (by omega) (by omega)
    refine Ev.congr (fun k => by rw [starts_is hb (by omega), Option.bind_some, if_neg (by omega), hw, if_pos (by omega), if_pos (by omega)]) ?_
    by_cases h10 : rd y ((y.length : Int) - 1) = 10
    · rw [if_pos (.inr (by rw [rd_last hne, h10]))] at hc
      refine Ev.step (fun k => ?_) (counts_j2 y hb hl a b x7 (x7 - 1) e7 (by omega))
      rw [scarflaw02_LineCounts.j1, if_pos (by simp [h10]), w64 (by omega) (by omega)]
    · rw [if_neg (by rintro (h | h); exact hne h; rw [rd_last hne] at h; exact h10 (Option.some.inj h))] at hc
      refine Ev.step (fun k => ?_) (counts_j2 y hb hl a b x7 x7 e7 (by omega))
      rw [scarflaw02_LineCounts.j1, if_neg (by simp [h10])]
theorem counts_l0 (y : List Int) (hb : bytesOk y = true) (hl : y.length ≤ 20000) (a b : Int) : ∀ (T P : List Int), P ++ T = y → Ev (fun k => scarflaw02_LineCounts.l0 k y a b ((0 :: startsL 0 P).length : Int) P.length) true
  | [], P, h => by
    rw [List.append_nil] at h
    subst h
    refine Ev.step (fun k => ?_) (counts_end P hb hl a b _ rfl)
    rw [scarflaw02_LineCounts.l0, if_neg (by omega)]
  | x :: T, P, h => by
    have hlen := congrArg List.length h
    rw [List.length_append, List.length_cons] at hlen
    have hP := startsL_len 0 P
    have hw : wrap64 ((P.length : Int) + 1) = ((P ++ [x]).length : Int) := by rw [w64 (by omega) (by omega)]; simp
    have ih := counts_l0 y hb hl a b T (P ++ [x]) (by rw [← h]; simp)
    rw [startsL_app] at ih
    have hr : rd y (P.length : Int) = x := by rw [← h]; exact rd_at P T x
    by_cases hx : x = 10
    · rw [startsL, if_pos hx] at ih
      refine Ev.step (fun k => ?_) ih
      rw [scarflaw02_LineCounts.l0, if_pos (by omega), if_pos (by omega), hr, if_pos hx, hw, w64 (by simp; omega) (by simp; omega)]
      simp [startsL]
    · rw [startsL, if_neg hx] at ih
      refine Ev.step (fun k => ?_) ih
      rw [scarflaw02_LineCounts.l0, if_pos (by omega), if_pos (by omega), hr, if_neg hx, hw]
      simp [startsL]
theorem LineCounts : scarflaw02_LineCounts.Pure := by
  intro l0 a b _ _ hw _ _
  apply Ev.rounds
  have hb := bytes_ok hw 20000
  have hl : (l0.take 20000).length ≤ 20000 := by rw [List.length_take]; omega
  exact counts_l0 _ hb hl a b _ [] rfl
end Go.Proofs.Ytdekcmaakdpmaaa.Pure
