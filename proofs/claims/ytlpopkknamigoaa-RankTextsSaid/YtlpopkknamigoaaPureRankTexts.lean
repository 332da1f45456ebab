/- For every list of texts the order that the program tells is the document's: proved of the printed functions. Conditions: none beyond the statement's own. -/
import Derived.Test.YtlpopkknamigoaaQ6
import Derived.Test.YtlpopkknamigoaaRankTexts2
import Derived.Test.YtlpopkknamigoaaRankKnown
namespace Go.Proofs.Ytlpopkknamigoaa.Pure
open Go.RowKit Go.Proofs.Ytlpopkknamigoaa.Q Go.Proofs.YtlpopkknamigoaaW.PrintWords Go.Proofs.YtlpopkknamigoaaW.PrintLast Go.Proofs.YtlpopkknamigoaaW.PrintMore Go.Proofs.Ytlpopkknamigoaa.Rk

theorem rankTexts_tail (m : List ByteArray) (h : m.length < 1099511627776) (hS : Small m) : Ev (fun k => scarflaw03_RankTexts.j1 k m) true := by
  refine Ev.step (f := fun k => (scarflaw03_known.f k).bind fun t247 => (if t247 = true then ((rank_Texts.f k m).bind fun t248 => ((scarfref03_Texts.f k m).bind fun t251 => ((scarfref03_Same.f k t248 t251).bind fun t254 => (some t254)))) else (some false))) (fun k => by rw [scarflaw03_RankTexts.j1]) ?_
  refine Ev.bind known03 ?_
  simp only [if_true]
  obtain ⟨r, hr, hs⟩ := texts_runs m h
  obtain ⟨q, hq, hs'⟩ := refTexts_runs m h hS
  obtain rfl := hs.unique (ltS_ord m) hs'
  exact Ev.bind hr (Ev.bind hq (Ev.bind (sameT_refl r (by rw [hs.length]; exact h)) (Ev.now _)))

theorem rankTexts_l0 (l : List ByteArray) (d : Nat) : ∀ (i : Nat) (m : List ByteArray), i ≤ 200 → 200 - i ≤ d → m.length = i → Small m → Ev (fun k => scarflaw03_RankTexts.l0 k l m i) true := by
  induction d with
  | zero =>
    intro i m hi hd hm hS
    by_cases c : i < l.length
    · exact Ev.step (fun k => by rw [scarflaw03_RankTexts.l0, if_pos (by omega), if_neg (by omega)]) (rankTexts_tail m (by omega) hS)
    · exact Ev.step (fun k => by rw [scarflaw03_RankTexts.l0, if_neg (by omega)]) (rankTexts_tail m (by omega) hS)
  | succ d ih =>
    intro i m hi hd hm hS
    by_cases c : i < l.length
    · by_cases c2 : i < 200
      · have hmn : mn ((rdOf ByteArray.empty l (i : Int)).size : Int) 200 = ((min (rdOf ByteArray.empty l (i : Int)).size 200 : Nat) : Int) := by unfold mn; split <;> omega
        refine Ev.step (f := fun k => scarflaw03_RankTexts.l0 k l (m ++ [(rdOf ByteArray.empty l (i : Int)).extract 0 (min (rdOf ByteArray.empty l (i : Int)).size 200)]) ((i + 1 : Nat) : Int)) (fun k => ?_) (ih (i + 1) _ (by omega) (by omega) (by simp; omega) ?_)
        · rw [scarflaw03_RankTexts.l0, if_pos (by omega), if_pos (by omega), if_pos (by omega), hmn, if_pos (by omega), if_pos (by omega), if_pos (by omega), w64_succ i (by omega), Int.toNat_natCast]
        · intro s hs
          rw [List.mem_append] at hs
          rcases hs with hs | hs
          · exact hS s hs
          · rw [List.mem_singleton] at hs
            subst hs
            rw [ByteArray.size_extract]; omega
      · exact Ev.step (fun k => by rw [scarflaw03_RankTexts.l0, if_pos (by omega), if_neg (by omega)]) (rankTexts_tail m (by omega) hS)
    · exact Ev.step (fun k => by rw [scarflaw03_RankTexts.l0, if_neg (by omega)]) (rankTexts_tail m (by omega) hS)

theorem RankTexts : scarflaw03_RankTexts.Pure := by
  intro l _ _ _
  apply Ev.rounds
  exact rankTexts_l0 l 200 0 [] (by omega) (by omega) rfl (fun s h => by simp at h)
end Go.Proofs.Ytlpopkknamigoaa.Pure
