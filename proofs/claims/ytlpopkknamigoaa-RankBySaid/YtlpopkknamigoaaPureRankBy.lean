/- For every list of numbers and every number: things that are alike by their first number stay as they stood, both ways round, and each place is told once: proved of the printed functions. Conditions: none beyond the statement's own. -/
import Derived.Test.YtlpopkknamigoaaQ10
import Derived.Test.YtlpopkknamigoaaRankBy2
namespace Go.Proofs.Ytlpopkknamigoaa.Pure
open Go.RowKit Go.Proofs.Ytlpopkknamigoaa.Q Go.Proofs.YtlpopkknamigoaaW.PrintWords Go.Proofs.YtlpopkknamigoaaW.PrintLast Go.Proofs.YtlpopkknamigoaaW.PrintMore Go.Proofs.Ytlpopkknamigoaa.Rk

theorem most_ok (a : Int) : ¬ IntKind.u64.wrap (wrap64 (1 + (wrap64 (Int.tmod (IntKind.u64.wrap a) 7)))) = 0 := by
  have hw : ∀ b : Int, IntKind.u64.wrap b = b % 18446744073709551616 := fun b => rfl
  rw [hw, hw]
  have h0 : 0 ≤ a % 18446744073709551616 := by omega
  generalize a % 18446744073709551616 = b at *
  have e : Int.tmod b 7 = b % 7 := Int.tmod_eq_emod_of_nonneg h0
  have e1 : wrap64 (Int.tmod b 7) = b % 7 := by rw [e, w64 (by omega) (by omega)]
  have e2 : wrap64 (1 + b % 7) = 1 + b % 7 := by rw [w64 (by omega) (by omega)]
  rw [e1, e2]
  omega

theorem RankBy : scarflaw03_RankBy.Pure := by
  intro l a hl hsz _ _
  apply Ev.rounds
  by_cases c : (l.length : Int) > 300
  · refine Ev.congr (fun k => ?_) (by_build (l := l.take 300) (m := wrap64 (1 + (wrap64 (Int.tmod (IntKind.u64.wrap a) 7)))) (by rw [List.length_take]; omega) (most_ok a) (l.take 300).length [] Numbered.nil (by simp) (by simp))
    unfold scarflaw03_RankBy.f
    rw [if_pos c, if_pos (by omega)]
    rfl
  · refine Ev.congr (fun k => ?_) (by_build (l := l) (m := wrap64 (1 + (wrap64 (Int.tmod (IntKind.u64.wrap a) 7)))) (by omega) (most_ok a) l.length [] Numbered.nil (by simp) (by simp))
    unfold scarflaw03_RankBy.f
    rw [if_neg c]
    rfl
end Go.Proofs.Ytlpopkknamigoaa.Pure
