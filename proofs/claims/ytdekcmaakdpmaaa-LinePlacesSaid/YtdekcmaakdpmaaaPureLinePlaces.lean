/- For all bytes, every place, and all starts that rise: a place's line and column that the program tells are the document's: proved of the printed functions. Conditions: none beyond the statement's own. -/
import Derived.Test.YtdekcmaakdpmaaaQ6
import Derived.Test.YtdekcmaakdpmaaaLinePure
namespace Go.Proofs.Ytdekcmaakdpmaaa.Pure
open Go.RowKit Go.Proofs.Ytdekcmaakdpmaaa.Q Go.Proofs.YtdekcmaakdpmaaaW.PrintWords Go.Proofs.YtdekcmaakdpmaaaW.PrintLast Go.Proofs.YtdekcmaakdpmaaaW.PrintMore

theorem places_end (x11 : List Int) (a : Int) (p : Int × Int) (hu : upL x11 = true) (hl : x11.length ≤ 1000000) :
    Ev (fun k => (line_Place.f x11 a).bind fun bt168 => ((scarfref02_Place.f k x11 a).bind fun bt170 => ((scarflaw02_known.f).bind fun t172 => (if t172 = true then (if p.1 = p.1 then (if p.2 = p.2 then (if bt168.1 = bt170.1 then (some (bt168.2 == bt170.2)) else (some false)) else (some false)) else (some false)) else (some false))))) true := by
  refine Ev.congr (f := fun k => (scarfref02_Place.f k x11 a).bind fun bt170 => ((scarflaw02_known.f).bind fun t172 => (if t172 = true then (if p.1 = p.1 then (if p.2 = p.2 then (if (placeL x11 a).1 = bt170.1 then (some ((placeL x11 a).2 == bt170.2)) else (some false)) else (some false)) else (some false)) else (some false)))) (fun k => by rw [place_is hu hl, Option.bind_some]) ?_
  refine Ev.bind (refPlace a hu hl) ?_
  refine Ev.congr (fun k => ?_) (Ev.now true)
  simp [scarflaw02_known.f]
theorem places_l0 (a : Int) (l2 : List Int) (hl2 : l2.length < 140737488355328) (p : Int × Int) : ∀ (d i : Nat) (x11 : List Int) (s : Int), x11.length = i → upL x11 = true → (∀ y ∈ x11, y ≤ s) → -1 ≤ s → s ≤ 1000 * i → i ≤ 1000 → i ≤ l2.length → 1000 - i ≤ d →
    Ev (fun k => scarflaw02_LinePlaces.l0 k a l2 p.1 p.2 p.1 p.2 x11 s i) true
  | d, i, x11, s, h1, h2, h3, h4, h5, h6, h7, hd => by
    by_cases c : i < l2.length
    · by_cases c2 : i < 1000
      · have hd0 : 0 < d := by omega
        obtain ⟨m, hm⟩ : ∃ m, m = Int.tmod (IntKind.u64.wrap (rd l2 i)) 1000 := ⟨_, rfl⟩
        have hu : 0 ≤ IntKind.u64.wrap (rd l2 i) := by
          exact u64_nonneg _
        have hm0 : 0 ≤ m ∧ m < 1000 := by
          rw [hm, Int.tmod_eq_emod_of_nonneg hu]
          exact ⟨Int.emod_nonneg _ (by decide), Int.emod_lt_of_pos _ (by decide)⟩
        have e1 : wrap64 (s + 1) = s + 1 := w64 (by omega) (by omega)
        have e2 : wrap64 m = m := w64 (by omega) (by omega)
        have e3 : wrap64 (s + 1 + m) = s + 1 + m := w64 (by omega) (by omega)
        have ih := places_l0 a l2 hl2 p (d - 1) (i + 1) (x11 ++ [s + 1 + m]) (s + 1 + m) (by simp [h1]) (up_snoc h2 (fun y hy => by have := h3 y hy; omega)) (fun y hy => by
          rcases List.mem_append.1 hy with hy | hy
          · have := h3 y hy; omega
          · rw [List.mem_singleton.1 hy]; omega) (by omega) (by omega) (by omega) (by omega) (by omega)
        refine Ev.step (fun k => ?_) ih
        rw [scarflaw02_LinePlaces.l0, if_pos (by omega), if_pos (by omega), if_pos (by omega), if_pos (by omega), ← hm, e1, e2, e3, w64 (by omega) (by omega)]
        rfl
      · refine Ev.step (fun k => ?_) (places_end x11 a p h2 (by omega))
        rw [scarflaw02_LinePlaces.l0, if_pos (by omega), if_neg (by omega)]
    · refine Ev.step (fun k => ?_) (places_end x11 a p h2 (by omega))
      rw [scarflaw02_LinePlaces.l0, if_neg (by omega)]
  termination_by d => d
theorem LinePlaces : scarflaw02_LinePlaces.Pure := by
  intro l0 a l2 _ _ hw _ hl2 hl2' _
  apply Ev.rounds
  obtain ⟨y, hy⟩ : ∃ y, y = l0.take 20000 := ⟨_, rfl⟩
  have hb : bytesOk y = true := by rw [hy]; exact bytes_ok hw _
  have hl : y.length ≤ 20000 := by rw [hy, List.length_take]; omega
  have hT := starts_len0 y hl
  refine Ev.congr (f := fun k => (scarfref02_Starts.f k y).bind fun t159 => (scarfref02_Place.f k t159 a).bind fun bt162 => scarflaw02_LinePlaces.l0 k a l2 (placeL (0 :: startsL 0 y) a).1 (placeL (0 :: startsL 0 y) a).2 bt162.1 bt162.2 [] (-1) 0) (fun k => ?_) ?_
  · unfold scarflaw02_LinePlaces.f
    rw [← hy, Option.bind_some, starts_is hb (by omega), Option.bind_some, place_is (starts_up y) hT, Option.bind_some]
  · refine Ev.bind (refStarts y (by omega)) (Ev.bind (refPlace a (starts_up y) hT) ?_)
    exact places_l0 a l2 (by omega) (placeL (0 :: startsL 0 y) a) 1000 0 [] (-1) rfl rfl (by simp) (by omega) (by omega) (by omega) (by omega) (by omega)
end Go.Proofs.Ytdekcmaakdpmaaa.Pure
