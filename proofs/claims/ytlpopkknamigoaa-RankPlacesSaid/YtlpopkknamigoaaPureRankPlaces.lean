/- For every list of numbers and every number: where the number stands in the list told in order is the document's, and of the list itself it is within it: proved of the printed functions. Conditions: none beyond the statement's own. -/
import Derived.Test.YtlpopkknamigoaaQ11
import Derived.Test.YtlpopkknamigoaaRankPlace2
import Derived.Test.YtlpopkknamigoaaRankKnown
namespace Go.Proofs.Ytlpopkknamigoaa.Pure
open Go.RowKit Go.Proofs.Ytlpopkknamigoaa.Q Go.Proofs.YtlpopkknamigoaaW.PrintWords Go.Proofs.YtlpopkknamigoaaW.PrintLast Go.Proofs.YtlpopkknamigoaaW.PrintMore Go.Proofs.Ytlpopkknamigoaa.Rk

theorem places_end (l : List Int) (n : Int) (hl : l.length < 1099511627776) {p : Nat} (hp : p ≤ l.length) {r : List Int} (hs : Sorted (ltI l) l.length r) :
    Ev (fun k => (scarflaw03_known.f k).bind fun t379 => (if t379 = true then (if (p : Int) ≥ 0 then (if (p : Int) ≤ (l.length : Int) then ((rank_Place.f k (r.map (rd l)) n).bind fun t380 => ((scarfref03_Place.f k (r.map (rd l)) n).bind fun t381 => (some (t380 == t381)))) else (some false)) else (some false)) else (some false))) true := by
  have hlen : (r.map (rd l)).length < 1099511627776 := by rw [List.length_map, hs.length]; exact hl
  obtain ⟨q, hq, h1, h2, h3⟩ := place_runs (r.map (rd l)) n hlen
  have hr := refPlace_runs (r.map (rd l)) n hlen
  rw [place_count (sorted_values hs) h1 h2 h3] at hr
  refine Ev.bind known03 ?_
  simp only [if_true]
  refine Ev.congr (fun k => by rw [if_pos (by omega), if_pos (by omega)]) ?_
  refine Ev.bind hq (Ev.bind hr ?_)
  simp only [beq_self_eq_true]
  exact Ev.now _

theorem places_l0 (l : List Int) (n : Int) (hl : l.length < 1099511627776) {p : Nat} (hp : p ≤ l.length) {r : List Int} (hs : Sorted (ltI l) l.length r) (d : Nat) : ∀ i : Nat, i ≤ r.length → r.length - i ≤ d →
    Ev (fun k => scarflaw03_RankPlaces.l0 k l n p ((r.take i).map (rd l)) r i) true ∧ Ev (fun k => scarflaw03_RankPlaces.l1 k l n p ((r.take i).map (rd l)) r i) true := by
  have hrl := hs.length
  have fin : Ev (fun k => scarflaw03_RankPlaces.l0 k l n p ((r.take r.length).map (rd l)) r r.length) true ∧ Ev (fun k => scarflaw03_RankPlaces.l1 k l n p ((r.take r.length).map (rd l)) r r.length) true := by
    rw [List.take_length]
    constructor
    · refine Ev.step (fun k => ?_) (places_end l n hl hp hs)
      rw [scarflaw03_RankPlaces.l0, if_neg (by omega)]
    · refine Ev.step (fun k => ?_) (places_end l n hl hp hs)
      rw [scarflaw03_RankPlaces.l1, if_neg (by omega)]
  induction d with
  | zero => intro i hi hd; obtain rfl : i = r.length := by omega
            exact fin
  | succ d ih =>
    intro i hi hd
    by_cases c : i < r.length
    · have hm := hs.mem.1 (getD_mem r i c)
      have ht : (r.take (i + 1)).map (rd l) = (r.take i).map (rd l) ++ [rd l (rd r i)] := by
        rw [List.take_succ_eq_append_getElem c, List.map_append, rd_nat r i, List.getD_eq_getElem?_getD, List.getElem?_eq_getElem c]
        rfl
      obtain ⟨n0, n1⟩ := ih (i + 1) (by omega) (by omega)
      rw [ht] at n0 n1
      constructor
      · refine Ev.step (fun k => ?_) n0
        rw [scarflaw03_RankPlaces.l0, if_pos (by omega), if_pos (by omega), if_pos (by rw [rd_nat]; omega), if_pos (by rw [rd_nat]; omega), if_pos (by rw [List.length_map, List.length_take]; omega), w64_succ i (by omega)]
      · refine Ev.step (fun k => ?_) n1
        rw [scarflaw03_RankPlaces.l1, if_pos (by omega), if_pos (by omega), if_pos (by rw [rd_nat]; omega), if_pos (by rw [rd_nat]; omega), if_pos (by rw [List.length_map, List.length_take]; omega), w64_succ i (by omega)]
    · obtain rfl : i = r.length := by omega
      exact fin

theorem RankPlaces : scarflaw03_RankPlaces.Pure := by
  intro l n hl hsz _ _
  apply Ev.rounds
  by_cases c : (l.length : Int) > 300
  · have hlen : (l.take 300).length < 1099511627776 := by rw [List.length_take]; omega
    obtain ⟨p, hp, h1, _⟩ := place_runs (l.take 300) n hlen
    obtain ⟨r, hr, hs⟩ := refInts_runs (l.take 300) hlen
    refine Ev.congr (fun k => ?_) (Ev.bind (f := fun k t => (scarfref03_Ints.f k (l.take 300)).bind fun t' => scarflaw03_RankPlaces.l0 k (l.take 300) n t ([] : List Int) t' 0) hp (Ev.bind (f := fun k t' => scarflaw03_RankPlaces.l0 k (l.take 300) n p ([] : List Int) t' 0) hr (places_l0 (l.take 300) n hlen h1 hs r.length 0 (by omega) (by omega)).1))
    unfold scarflaw03_RankPlaces.f
    rw [if_pos c, if_pos (by omega)]
  · have hlen : l.length < 1099511627776 := by omega
    obtain ⟨p, hp, h1, _⟩ := place_runs l n hlen
    obtain ⟨r, hr, hs⟩ := refInts_runs l hlen
    refine Ev.congr (fun k => ?_) (Ev.bind (f := fun k t => (scarfref03_Ints.f k l).bind fun t' => scarflaw03_RankPlaces.l1 k l n t ([] : List Int) t' 0) hp (Ev.bind (f := fun k t' => scarflaw03_RankPlaces.l1 k l n p ([] : List Int) t' 0) hr (places_l0 l n hlen h1 hs r.length 0 (by omega) (by omega)).2))
    unfold scarflaw03_RankPlaces.f
    rw [if_neg c]
end Go.Proofs.Ytlpopkknamigoaa.Pure
