/- For every list of numbers the order that the program tells is the document's, and the list isn't changed: proved of the printed functions. Conditions: none beyond the statement's own. -/
import Derived.Test.YtlpopkknamigoaaQ5
import Derived.Test.YtlpopkknamigoaaRankInts2
import Derived.Test.YtlpopkknamigoaaRankKnown
namespace Go.Proofs.Ytlpopkknamigoaa.Pure
open Go.RowKit Go.Proofs.Ytlpopkknamigoaa.Q Go.Proofs.YtlpopkknamigoaaW.PrintWords Go.Proofs.YtlpopkknamigoaaW.PrintLast Go.Proofs.YtlpopkknamigoaaW.PrintMore Go.Proofs.Ytlpopkknamigoaa.Rk

theorem rankInts_tail (l : List Int) (h : l.length < 1099511627776) : Ev (fun k => (scarflaw03_known.f k).bind fun t => (if t = true then ((rank_Ints.f k l).bind fun t209 => ((scarfref03_Ints.f k l).bind fun t212 => ((scarfref03_Same.f k t209 t212).bind fun t215 => (if t215 = true then ((scarfref03_Same.f k l l).bind fun t216 => (some t216)) else (some false))))) else (some false))) true := by
  refine Ev.bind known03 ?_
  simp only [if_true]
  obtain ⟨r, hr, hs⟩ := ints_runs l h
  obtain ⟨q, hq, hs'⟩ := refInts_runs l h
  obtain rfl := hs.unique (ltI_ord l) hs'
  refine Ev.bind hr (Ev.bind hq (Ev.bind (same_refl r (by rw [hs.length]; exact h)) ?_))
  simp only [if_true]
  exact Ev.bind (same_refl l h) (Ev.now _)

theorem RankInts : scarflaw03_RankInts.Pure := by
  intro l hl hsz _
  apply Ev.rounds
  by_cases c : (l.length : Int) > 300
  · refine Ev.congr (fun k => ?_) (rankInts_tail (l.take 300) (by rw [List.length_take]; omega))
    unfold scarflaw03_RankInts.f
    rw [if_pos c, if_pos (by omega)]
    simp only [Option.bind_some, List.nil_append, List.length_nil, Nat.zero_add]
    rw [if_pos (by rw [List.length_take]; omega)]
  · refine Ev.congr (fun k => ?_) (rankInts_tail l (by omega))
    unfold scarflaw03_RankInts.f
    rw [if_neg c]
    simp only [Option.bind_some, List.nil_append, List.length_nil, Nat.zero_add]
    rw [if_pos (by omega)]
end Go.Proofs.Ytlpopkknamigoaa.Pure
