/- Plain lists: what the program's and the reference's order of numbers come to. -/
import Derived.Test.YtlpopkknamigoaaQ3
import Derived.Test.YtlpopkknamigoaaQ5
import Derived.Test.YtlpopkknamigoaaQ1
import Derived.Test.YtlpopkknamigoaaRankInsert
namespace Go.Proofs.Ytlpopkknamigoaa.Rk
open Go.RowKit Go.Proofs.Ytlpopkknamigoaa.Q Go.Proofs.YtlpopkknamigoaaW.PrintWords Go.Proofs.YtlpopkknamigoaaW.PrintLast Go.Proofs.YtlpopkknamigoaaW.PrintMore

theorem byInt_eq (x0 : List Int) (k : Nat) : (∀ x5 x7 x8, rank_By_int___Ints_1.l1 k x0 x5 x7 x8 = l1 (fun a b => rank_Ints_1.f (rd x0 a) (rd x0 b)) x0.length k x5 x7 x8) ∧
    (∀ x5 x7 x8 x9, rank_By_int___Ints_1.l2 k x0 x5 x7 x8 x9 = l2 (fun a b => rank_Ints_1.f (rd x0 a) (rd x0 b)) x0.length k x5 x7 x8 x9) ∧
    (∀ x5 x7 x8 x9 x10 x11 x12 x13 x14, rank_By_int___Ints_1.l3 k x0 x5 x7 x8 x9 x10 x11 x12 x13 x14 = l3 (fun a b => rank_Ints_1.f (rd x0 a) (rd x0 b)) x0.length k x5 x7 x8 x9 x10 x11 x12 x13 x14) := by
  induction k with
  | zero => exact ⟨fun _ _ _ => by rw [rank_By_int___Ints_1.l1, l1_zero], fun _ _ _ _ => by rw [rank_By_int___Ints_1.l2, l2_zero], fun _ _ _ _ _ _ _ _ _ => by rw [rank_By_int___Ints_1.l3, l3_zero]⟩
  | succ k ih =>
    obtain ⟨i1, i2, i3⟩ := ih
    refine ⟨fun x5 x7 x8 => ?_, fun x5 x7 x8 x9 => ?_, fun x5 x7 x8 x9 x10 x11 x12 x13 x14 => ?_⟩
    · rw [rank_By_int___Ints_1.l1, l1_succ, i2]
    · rw [rank_By_int___Ints_1.l2, l2_succ, i3, i1]
    · rw [rank_By_int___Ints_1.l3, l3_succ]; simp only [i2, i3]
theorem byInt_l0 (x0 : List Int) (k : Nat) : ∀ x5 x19 x20, rank_By_int___Ints_1.l0 k x0 x5 x19 x20 = l0 (fun a b => rank_Ints_1.f (rd x0 a) (rd x0 b)) x0.length k x5 x19 x20 := by
  induction k with
  | zero => intro _ _ _; rw [rank_By_int___Ints_1.l0, l0]
  | succ k ih => intro x5 x19 x20; rw [rank_By_int___Ints_1.l0, l0, ih, (byInt_eq x0 k).1]
theorem ints_runs (l : List Int) (h : l.length < 1099511627776) : ∃ r, Ev (fun k => rank_Ints.f k l) r ∧ Sorted (ltI l) l.length r := by
  obtain ⟨r, hr, hs⟩ := by_runs (f := fun a b => rank_Ints_1.f (rd l a) (rd l b)) (ltI_ord l) (N := l.length) (fun a b _ _ _ _ => rfl) h
  refine ⟨r, Ev.congr (fun k => ?_) hr, hs⟩
  unfold rank_Ints.f rank_By_int___Ints_1.f byLoop
  simp only [byInt_l0, Option.bind_some, Option.bind_fun_some]

theorem put_runs (row : List Int) (a : Nat) (x : Int) (h : a ≤ row.length) (hl : row.length < 1099511627776) : scarfref03_put.f row a x = some (row.take a ++ x :: row.drop a) := by
  unfold scarfref03_put.f
  simp only [Option.bind_some, List.nil_append, Int.toNat_natCast]
  rw [if_pos (by omega), if_pos (by omega), if_pos (by simp; omega), if_pos (by simp; omega), if_pos (by simp; omega)]
  simp

theorem refInts_l1 {l : List Int} (hl : l.length < 1099511627776) {i : Nat} (hi : i < l.length) {row : List Int} (hs : Sorted (ltI l) i row) {Q : List Int → Prop}
    (next : ∀ row', Sorted (ltI l) (i + 1) row' → ∃ r, Ev (fun k => scarfref03_Ints.l0 k l row' ((i + 1 : Nat) : Int)) r ∧ Q r) :
    ∀ a : Nat, a ≤ i → (∀ j, a ≤ j → j < i → ltI l i (row.getD j 0) = true) → ∃ r, Ev (fun k => scarfref03_Ints.l1 k l row i a) r ∧ Q r := by
  have hlen := hs.length
  have fin : ∀ a : Nat, a ≤ i → (∀ j, a ≤ j → j < i → ltI l i (row.getD j 0) = true) → (a = 0 ∨ ltI l i (row.getD (a - 1) 0) = false) →
      ∃ r, Ev (fun k => (scarfref03_put.f row a i).bind fun t => scarfref03_Ints.l0 k l t (wrap64 ((i : Int) + 1))) r ∧ Q r := by
    intro a ha hgt hle
    obtain ⟨r, hr, hq⟩ := next _ (insert_sorted (ltI_ord l) hs ha hgt hle)
    refine ⟨r, Ev.congr (fun k => ?_) hr, hq⟩
    rw [put_runs row a i (by omega) (by omega), Option.bind_some, w64_succ i (by omega)]
  intro a
  induction a with
  | zero =>
    intro ha hgt
    obtain ⟨r, hr, hq⟩ := fin 0 ha hgt (.inl rfl)
    exact ⟨r, Ev.step (fun k => by rw [scarfref03_Ints.l1, if_neg (by omega)]) hr, hq⟩
  | succ a ih =>
    intro ha hgt
    have e1 : wrap64 (((a + 1 : Nat) : Int) - 1) = (a : Int) := by rw [w64 (by omega) (by omega)]; omega
    have hm := hs.mem.1 (getD_mem row a (by omega))
    have eq : ∀ k, scarfref03_Ints.l1 (k + 1) l row i ((a + 1 : Nat) : Int) = if rd l i < rd l (row.getD a 0) then scarfref03_Ints.l1 k l row i a else (scarfref03_put.f row ((a + 1 : Nat) : Int) i).bind fun t => scarfref03_Ints.l0 k l t (wrap64 ((i : Int) + 1)) := by
      intro k
      rw [scarfref03_Ints.l1, e1, if_pos (by omega), if_pos (by omega), if_pos (by omega), if_pos (by omega), if_pos (by omega), rd_nat row a, if_pos hm.1, if_pos (by omega)]
    by_cases c : rd l i < rd l (row.getD a 0)
    · obtain ⟨r, hr, hq⟩ := ih (by omega) (by
        intro j h1 h2
        by_cases e : j = a
        · subst e; simpa [ltI] using c
        · exact hgt j (by omega) h2)
      exact ⟨r, Ev.step (fun k => by rw [eq, if_pos c]) hr, hq⟩
    · obtain ⟨r, hr, hq⟩ := fin (a + 1) ha hgt (.inr (by simpa [ltI] using c))
      exact ⟨r, Ev.step (fun k => by rw [eq, if_neg c]) hr, hq⟩

theorem refInts_l0 {l : List Int} (hl : l.length < 1099511627776) (d : Nat) : ∀ (i : Nat) (row : List Int), i ≤ l.length → l.length - i ≤ d → Sorted (ltI l) i row →
    ∃ r, Ev (fun k => scarfref03_Ints.l0 k l row i) r ∧ Sorted (ltI l) l.length r := by
  induction d with
  | zero =>
    intro i row hi hd hs
    obtain rfl : i = l.length := by omega
    exact ⟨row, Ev.step (fun k => by rw [scarfref03_Ints.l0, if_neg (by omega)]) (Ev.now _), hs⟩
  | succ d ih =>
    intro i row hi hd hs
    by_cases c : i < l.length
    · obtain ⟨r, hr, hq⟩ := refInts_l1 hl c hs (Q := Sorted (ltI l) l.length) (fun row' h' => ih (i + 1) row' (by omega) (by omega) h') i (Nat.le_refl _) (fun j h1 h2 => by omega)
      refine ⟨r, Ev.step (fun k => ?_) hr, hq⟩
      rw [scarfref03_Ints.l0, if_pos (by omega), hs.length]
    · obtain rfl : i = l.length := by omega
      exact ⟨row, Ev.step (fun k => by rw [scarfref03_Ints.l0, if_neg (by omega)]) (Ev.now _), hs⟩

theorem refInts_runs (l : List Int) (h : l.length < 1099511627776) : ∃ r, Ev (fun k => scarfref03_Ints.f k l) r ∧ Sorted (ltI l) l.length r := by
  obtain ⟨r, hr, hs⟩ := refInts_l0 h l.length 0 [] (by omega) (by omega) (Sorted.nil _)
  exact ⟨r, hr, hs⟩

theorem same_l0 (l : List Int) (hl : l.length < 1099511627776) (d : Nat) : ∀ i : Nat, i ≤ l.length → l.length - i ≤ d → Ev (fun k => scarfref03_Same.l0 k l l i) true := by
  induction d with
  | zero => intro i hi hd; exact Ev.step (fun k => by rw [scarfref03_Same.l0, if_neg (by omega)]) (Ev.now _)
  | succ d ih =>
    intro i hi hd
    by_cases c : i < l.length
    · refine Ev.step (fun k => ?_) (ih (i + 1) (by omega) (by omega))
      rw [scarfref03_Same.l0, if_pos (by omega), if_pos (by omega), if_pos (by omega), if_pos rfl, w64_succ i (by omega)]
    · exact Ev.step (fun k => by rw [scarfref03_Same.l0, if_neg (by omega)]) (Ev.now _)
theorem same_refl (l : List Int) (hl : l.length < 1099511627776) : Ev (fun k => scarfref03_Same.f k l l) true := by
  refine Ev.congr (fun k => ?_) (same_l0 l hl l.length 0 (by omega) (by omega))
  unfold scarfref03_Same.f; rw [if_pos rfl]; rfl
end Go.Proofs.Ytlpopkknamigoaa.Rk
