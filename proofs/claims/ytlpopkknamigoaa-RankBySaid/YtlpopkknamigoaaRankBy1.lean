/- Plain lists: what the order of pairs by their first number, and by the other way round, comes to. -/
import Derived.Test.YtlpopkknamigoaaQ7
import Derived.Test.YtlpopkknamigoaaQ9
import Derived.Test.YtlpopkknamigoaaRankInsert
namespace Go.Proofs.Ytlpopkknamigoaa.Rk
open Go.RowKit Go.Proofs.Ytlpopkknamigoaa.Q Go.Proofs.YtlpopkknamigoaaW.PrintWords Go.Proofs.YtlpopkknamigoaaW.PrintLast Go.Proofs.YtlpopkknamigoaaW.PrintMore

/-- a walk with more rounds, all of them counted twice -/
theorem Ev.twice {α : Type} {g h : Nat → Option α} {r : α} (hle : ∀ k, LeO (g k) (h (2 * k))) (hm : ∀ k, LeO (h k) (h (k + 1))) (hg : Ev g r) : Ev h r := by
  obtain ⟨K, hK⟩ := hg
  exact Ev.of hm (hle K r (hK K (Nat.le_refl _)))

def fstLt (x0 : List S33) (a b : Int) : Option Bool := scarflaw03_RankBy_1.f (rd_T33 x0 a).f0 (rd_T33 x0 a).f1 (rd_T33 x0 b).f0 (rd_T33 x0 b).f1
def fstGt (x0 : List S33) (a b : Int) : Option Bool := scarflaw03_RankBy_2.f (rd_T33 x0 a).f0 (rd_T33 x0 a).f1 (rd_T33 x0 b).f0 (rd_T33 x0 b).f1

theorem pair1_le (x0 : List S33) (k : Nat) : (∀ x5 x7 x8, LeO (l1 (fstLt x0) x0.length k x5 x7 x8) (scarflaw03_pair___RankBy_1.l1 (2 * k) x0 x5 x7 x8)) ∧
    (∀ x5 x7 x8 x9, LeO (l2 (fstLt x0) x0.length k x5 x7 x8 x9) (scarflaw03_pair___RankBy_1.l2 (2 * k) x0 x5 x7 x8 x9)) ∧
    (∀ x5 x7 x8 x9 x10 x11 x12 x13 x14, LeO (l3 (fstLt x0) x0.length k x5 x7 x8 x9 x10 x11 x12 x13 x14) (scarflaw03_pair___RankBy_1.l3 (2 * k) x0 x5 x7 x8 x9 x10 x11 x12 x13 x14)) := by
  induction k with
  | zero => exact ⟨fun _ _ _ => by rw [l1_zero]; exact LeO.none _, fun _ _ _ _ => by rw [l2_zero]; exact LeO.none _, fun _ _ _ _ _ _ _ _ _ => by rw [l3_zero]; exact LeO.none _⟩
  | succ k ih =>
    obtain ⟨i1, i2, i3⟩ := ih
    obtain ⟨_, m1, m2, m3, _⟩ := scarflaw03_pair___RankBy_1.mono_l (2 * k)
    rw [show 2 * (k + 1) = 2 * k + 1 + 1 by omega]
    refine ⟨fun x5 x7 x8 => ?_, fun x5 x7 x8 x9 => ?_, fun x5 x7 x8 x9 x10 x11 x12 x13 x14 => ?_⟩
    · rw [l1_succ, scarflaw03_pair___RankBy_1.l1]
      exact LeO.ite ((i2 _ _ _ _).trans (m2 _ _ _ _ _)) (LeO.refl _)
    · rw [l2_succ, scarflaw03_pair___RankBy_1.l2]
      exact LeO.ite ((i3 _ _ _ _ _ _ _ _ _).trans (m3 _ _ _ _ _ _ _ _ _ _)) ((i1 _ _ _).trans (m1 _ _ _ _))
    · rw [l3_succ, scarflaw03_pair___RankBy_1.l3]
      refine LeO.ite ?_ ((i2 _ _ _ _).trans (m2 _ _ _ _ _))
      refine LeO.ite ?_ ?_
      · by_cases c : x13 ≥ x11
        · rw [if_pos c, if_pos c, scarflaw03_pair___RankBy_1.j4, if_pos rfl]
          exact LeO.ite (LeO.ite (LeO.ite (LeO.ite (i3 _ _ _ _ _ _ _ _ _) (LeO.none _)) (LeO.none _)) (LeO.none _)) (LeO.none _)
        · rw [if_neg c, if_neg c]
          by_cases c1 : 0 ≤ x13
          rotate_left
          · rw [if_neg c1]; exact LeO.none _
          by_cases c2 : x13 < (x5.length : Int)
          rotate_left
          · rw [if_pos c1, if_neg c2]; exact LeO.none _
          rw [if_pos c1, if_pos c1, if_pos c2, if_pos c2]
          refine LeO.ite (LeO.ite ?_ (LeO.none _)) (LeO.none _)
          by_cases c3 : 0 ≤ x12
          rotate_left
          · rw [if_neg c3]; exact LeO.none _
          by_cases c4 : x12 < (x5.length : Int)
          rotate_left
          · rw [if_pos c3, if_neg c4]; exact LeO.none _
          rw [if_pos c3, if_pos c3, if_pos c4, if_pos c4]
          refine LeO.ite (LeO.ite (LeO.bind (LeO.refl _) fun t => ?_) (LeO.none _)) (LeO.none _)
          rw [scarflaw03_pair___RankBy_1.j4]
          cases t with
          | true =>
            rw [if_pos rfl, if_neg (show ¬ ((!true) = true) by decide), if_pos c1, if_pos c2]
            exact LeO.ite (LeO.ite (i3 _ _ _ _ _ _ _ _ _) (LeO.none _)) (LeO.none _)
          | false =>
            rw [if_neg (show ¬ (false = true) by decide), if_pos (show (!false) = true by decide), if_pos c3, if_pos c4]
            exact LeO.ite (LeO.ite (i3 _ _ _ _ _ _ _ _ _) (LeO.none _)) (LeO.none _)
      · rw [scarflaw03_pair___RankBy_1.j4, if_neg (show ¬ (false = true) by decide)]
        exact LeO.ite (LeO.ite (LeO.ite (LeO.ite (i3 _ _ _ _ _ _ _ _ _) (LeO.none _)) (LeO.none _)) (LeO.none _)) (LeO.none _)
theorem pair1_l0 (x0 : List S33) (k : Nat) : ∀ x5 x19 x20, LeO (l0 (fstLt x0) x0.length k x5 x19 x20) (scarflaw03_pair___RankBy_1.l0 (2 * k) x0 x5 x19 x20) := by
  induction k with
  | zero => intro _ _ _; rw [l0]; exact LeO.none _
  | succ k ih =>
    intro x5 x19 x20
    obtain ⟨m0, m1, _⟩ := scarflaw03_pair___RankBy_1.mono_l (2 * k)
    rw [show 2 * (k + 1) = 2 * k + 1 + 1 by omega, l0, scarflaw03_pair___RankBy_1.l0]
    exact LeO.ite (LeO.ite (LeO.ite ((ih _ _ _).trans (m0 _ _ _ _)) (LeO.none _)) (LeO.none _)) (LeO.ite (LeO.ite (((pair1_le x0 k).1 _ _ _).trans (m1 _ _ _ _)) (LeO.none _)) (LeO.none _))
def ltA (x0 : List S33) (a b : Int) : Bool := decide ((rd_T33 x0 a).f0 < (rd_T33 x0 b).f0)
theorem ltA_ord (x0 : List S33) : Ord (ltA x0) :=
  ⟨fun a => by simp [ltA], fun a b c h k => by simp only [ltA, decide_eq_true_eq] at *; omega, fun a b c h k => by simp only [ltA, decide_eq_false_iff_not] at *; omega⟩
theorem pair1_runs (p : List S33) (h : p.length < 1099511627776) : ∃ r, Ev (fun k => scarflaw03_pair___RankBy_1.f k p) r ∧ Sorted (ltA p) p.length r := by
  obtain ⟨r, hr, hs⟩ := by_runs (f := fstLt p) (ltA_ord p) (N := p.length) (fun a b _ _ _ _ => rfl) h
  refine ⟨r, Ev.twice (fun k => ?_) (fun k => scarflaw03_pair___RankBy_1.mono p k) hr, hs⟩
  unfold scarflaw03_pair___RankBy_1.f byLoop
  exact LeO.ite (LeO.ite (LeO.bind (LeO.refl _) fun y => pair1_l0 p k _ _ _) (LeO.none _)) (LeO.none _)
theorem pair2_le (x0 : List S33) (k : Nat) : (∀ x5 x7 x8, LeO (l1 (fstGt x0) x0.length k x5 x7 x8) (scarflaw03_pair___RankBy_2.l1 (2 * k) x0 x5 x7 x8)) ∧
    (∀ x5 x7 x8 x9, LeO (l2 (fstGt x0) x0.length k x5 x7 x8 x9) (scarflaw03_pair___RankBy_2.l2 (2 * k) x0 x5 x7 x8 x9)) ∧
    (∀ x5 x7 x8 x9 x10 x11 x12 x13 x14, LeO (l3 (fstGt x0) x0.length k x5 x7 x8 x9 x10 x11 x12 x13 x14) (scarflaw03_pair___RankBy_2.l3 (2 * k) x0 x5 x7 x8 x9 x10 x11 x12 x13 x14)) := by
  induction k with
  | zero => exact ⟨fun _ _ _ => by rw [l1_zero]; exact LeO.none _, fun _ _ _ _ => by rw [l2_zero]; exact LeO.none _, fun _ _ _ _ _ _ _ _ _ => by rw [l3_zero]; exact LeO.none _⟩
  | succ k ih =>
    obtain ⟨i1, i2, i3⟩ := ih
    obtain ⟨_, m1, m2, m3, _⟩ := scarflaw03_pair___RankBy_2.mono_l (2 * k)
    rw [show 2 * (k + 1) = 2 * k + 1 + 1 by omega]
    refine ⟨fun x5 x7 x8 => ?_, fun x5 x7 x8 x9 => ?_, fun x5 x7 x8 x9 x10 x11 x12 x13 x14 => ?_⟩
    · rw [l1_succ, scarflaw03_pair___RankBy_2.l1]
      exact LeO.ite ((i2 _ _ _ _).trans (m2 _ _ _ _ _)) (LeO.refl _)
    · rw [l2_succ, scarflaw03_pair___RankBy_2.l2]
      exact LeO.ite ((i3 _ _ _ _ _ _ _ _ _).trans (m3 _ _ _ _ _ _ _ _ _ _)) ((i1 _ _ _).trans (m1 _ _ _ _))
    · rw [l3_succ, scarflaw03_pair___RankBy_2.l3]
      refine LeO.ite ?_ ((i2 _ _ _ _).trans (m2 _ _ _ _ _))
      refine LeO.ite ?_ ?_
      · by_cases c : x13 ≥ x11
        · rw [if_pos c, if_pos c, scarflaw03_pair___RankBy_2.j4, if_pos rfl]
          exact LeO.ite (LeO.ite (LeO.ite (LeO.ite (i3 _ _ _ _ _ _ _ _ _) (LeO.none _)) (LeO.none _)) (LeO.none _)) (LeO.none _)
        · rw [if_neg c, if_neg c]
          by_cases c1 : 0 ≤ x13
          rotate_left
          · rw [if_neg c1]; exact LeO.none _
          by_cases c2 : x13 < (x5.length : Int)
          rotate_left
          · rw [if_pos c1, if_neg c2]; exact LeO.none _
          rw [if_pos c1, if_pos c1, if_pos c2, if_pos c2]
          refine LeO.ite (LeO.ite ?_ (LeO.none _)) (LeO.none _)
          by_cases c3 : 0 ≤ x12
          rotate_left
          · rw [if_neg c3]; exact LeO.none _
          by_cases c4 : x12 < (x5.length : Int)
          rotate_left
          · rw [if_pos c3, if_neg c4]; exact LeO.none _
          rw [if_pos c3, if_pos c3, if_pos c4, if_pos c4]
          refine LeO.ite (LeO.ite (LeO.bind (LeO.refl _) fun t => ?_) (LeO.none _)) (LeO.none _)
          rw [scarflaw03_pair___RankBy_2.j4]
          cases t with
          | true =>
            rw [if_pos rfl, if_neg (show ¬ ((!true) = true) by decide), if_pos c1, if_pos c2]
            exact LeO.ite (LeO.ite (i3 _ _ _ _ _ _ _ _ _) (LeO.none _)) (LeO.none _)
          | false =>
            rw [if_neg (show ¬ (false = true) by decide), if_pos (show (!false) = true by decide), if_pos c3, if_pos c4]
            exact LeO.ite (LeO.ite (i3 _ _ _ _ _ _ _ _ _) (LeO.none _)) (LeO.none _)
      · rw [scarflaw03_pair___RankBy_2.j4, if_neg (show ¬ (false = true) by decide)]
        exact LeO.ite (LeO.ite (LeO.ite (LeO.ite (i3 _ _ _ _ _ _ _ _ _) (LeO.none _)) (LeO.none _)) (LeO.none _)) (LeO.none _)
theorem pair2_l0 (x0 : List S33) (k : Nat) : ∀ x5 x19 x20, LeO (l0 (fstGt x0) x0.length k x5 x19 x20) (scarflaw03_pair___RankBy_2.l0 (2 * k) x0 x5 x19 x20) := by
  induction k with
  | zero => intro _ _ _; rw [l0]; exact LeO.none _
  | succ k ih =>
    intro x5 x19 x20
    obtain ⟨m0, m1, _⟩ := scarflaw03_pair___RankBy_2.mono_l (2 * k)
    rw [show 2 * (k + 1) = 2 * k + 1 + 1 by omega, l0, scarflaw03_pair___RankBy_2.l0]
    exact LeO.ite (LeO.ite (LeO.ite ((ih _ _ _).trans (m0 _ _ _ _)) (LeO.none _)) (LeO.none _)) (LeO.ite (LeO.ite (((pair2_le x0 k).1 _ _ _).trans (m1 _ _ _ _)) (LeO.none _)) (LeO.none _))
def gtA (x0 : List S33) (a b : Int) : Bool := decide ((rd_T33 x0 a).f0 > (rd_T33 x0 b).f0)
theorem gtA_ord (x0 : List S33) : Ord (gtA x0) :=
  ⟨fun a => by simp [gtA], fun a b c h k => by simp only [gtA, decide_eq_true_eq] at *; omega, fun a b c h k => by simp only [gtA, decide_eq_false_iff_not] at *; omega⟩
theorem pair2_runs (p : List S33) (h : p.length < 1099511627776) : ∃ r, Ev (fun k => scarflaw03_pair___RankBy_2.f k p) r ∧ Sorted (gtA p) p.length r := by
  obtain ⟨r, hr, hs⟩ := by_runs (f := fstGt p) (gtA_ord p) (N := p.length) (fun a b _ _ _ _ => rfl) h
  refine ⟨r, Ev.twice (fun k => ?_) (fun k => scarflaw03_pair___RankBy_2.mono p k) hr, hs⟩
  unfold scarflaw03_pair___RankBy_2.f byLoop
  exact LeO.ite (LeO.ite (LeO.bind (LeO.refl _) fun y => pair2_l0 p k _ _ _) (LeO.none _)) (LeO.none _)
end Go.Proofs.Ytlpopkknamigoaa.Rk
