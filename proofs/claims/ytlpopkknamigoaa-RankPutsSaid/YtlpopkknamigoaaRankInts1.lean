/- Plain lists: what the program's and the reference's order of numbers come to. -/
import Derived.Test.YtlpopkknamigoaaQ3
import Derived.Test.YtlpopkknamigoaaRankInsert
namespace Go.Proofs.Ytlpopkknamigoaa.Rk
open Go.RowKit Go.Proofs.Ytlpopkknamigoaa.Q Go.Proofs.YtlpopkknamigoaaW.PrintWords Go.Proofs.YtlpopkknamigoaaW.PrintLast Go.Proofs.YtlpopkknamigoaaW.PrintMore

theorem byInt_eq (x0 : List Int) (k : Nat) : (∀ x5 x7 x8, rank_By_int___Ints_1.l1 k x0 x5 x7 x8 = l1 (fun a b => rank_Ints_1.f (rd x0 a) (rd x0 b)) x0.length k x5 x7 x8) ∧
    (∀ x5 x7 x8 x9, rank_By_int___Ints_1.l2 k x0 x5 x7 x8 x9 = l2 (fun a b => rank_Ints_1.f (rd x0 a) (rd x0 b)) x0.length k x5 x7 x8 x9) ∧
    (∀ x5 x7 x8 x9 x10 x11 x12 x13 x14, rank_By_int___Ints_1.l3 k x0 x5 x7 x8 x9 x10 x11 x12 x13 x14 = l3 (fun a b => rank_Ints_1.f (rd x0 a) (rd x0 b)) x0.length k x5 x7 x8 x9 x10 x11 x12 x13 x14) := by
  induction k with
  | zero => exact ⟨fun _ _ _ => by rw [rank_By_int___Ints_1.l1, l1_zero], fun _ _ _ _ => by rw [rank_By_int___Ints_1.l2, l2_zero], fun _ _ _ _ _ _ _ _ _ => by rw [rank_By_int___Ints_1.l3, l3_zero]⟩
  | succ k ih =>
    obtain ⟨i1, i2, i3⟩ := ih
    refine ⟨fun x5 x7 x8 => ?_, fun x5 x7 x8 x9 => ?_, fun x5 x7 x8 x9 x10 x11 x12 x13 x14 => ?_⟩
    · rw [rank_By_int___Ints_1.l1, l1_succ, i2]
    · rw [rank_By_int___Ints_1.l2, l2_succ, i3, i1]
    · rw [rank_By_int___Ints_1.l3, l3_succ]; simp only [i2, i3]
theorem byInt_l0 (x0 : List Int) (k : Nat) : ∀ x5 x19 x20, rank_By_int___Ints_1.l0 k x0 x5 x19 x20 = l0 (fun a b => rank_Ints_1.f (rd x0 a) (rd x0 b)) x0.length k x5 x19 x20 := by
  induction k with
  | zero => intro _ _ _; rw [rank_By_int___Ints_1.l0, l0]
  | succ k ih => intro x5 x19 x20; rw [rank_By_int___Ints_1.l0, l0, ih, (byInt_eq x0 k).1]
theorem ints_runs (l : List Int) (h : l.length < 1099511627776) : ∃ r, Ev (fun k => rank_Ints.f k l) r ∧ Sorted (ltI l) l.length r := by
  obtain ⟨r, hr, hs⟩ := by_runs (f := fun a b => rank_Ints_1.f (rd l a) (rd l b)) (ltI_ord l) (N := l.length) (fun a b _ _ _ _ => rfl) h
  refine ⟨r, Ev.congr (fun k => ?_) hr, hs⟩
  unfold rank_Ints.f rank_By_int___Ints_1.f byLoop
  simp only [byInt_l0, Option.bind_some, Option.bind_fun_some]
end Go.Proofs.Ytlpopkknamigoaa.Rk
