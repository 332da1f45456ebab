/- line.Place (over sort.Search), in the print's form. -/
import Derived.Test.YtdekcmaakdpmaaaXLineF
import Derived.Test.YtdekcmaakdpmaaaXSrch
namespace Go.Proofs.Ytdekcmaakdpmaaa.Q
open Go.RowKit Go.Proofs.YtdekcmaakdpmaaaW.PrintWords Go.Proofs.YtdekcmaakdpmaaaW.PrintLast Go.Proofs.YtdekcmaakdpmaaaW.PrintMore
set_option linter.unusedVariables false
set_option linter.unusedSimpArgs false

theorem upL_le : ∀ (l : List Int), upL l = true → ∀ i j, i ≤ j → j < l.length → l.getD i 0 ≤ l.getD j 0
  | [], _, i, j, _, hj => by simp at hj
  | x :: xs, h, i, j, hij, hj => by
    have h2 : (∀ y ∈ xs, x ≤ y) ∧ upL xs = true := by simpa [upL] using h
    cases i with
    | zero =>
      cases j with
      | zero => simp
      | succ j =>
        have hj2 : j < xs.length := by simpa using hj
        simp only [List.getD_cons_zero, List.getD_cons_succ]
        rw [List.getD_eq_getElem?_getD, List.getElem?_eq_getElem hj2]
        exact h2.1 _ (List.getElem_mem hj2)
    | succ i =>
      cases j with
      | zero => omega
      | succ j =>
        simp only [List.getD_cons_succ]
        exact upL_le xs h2.2 i j (by omega) (by simpa using hj)
theorem count_range (f : Int → Bool) : ∀ (l : List Int), (List.range l.length).countP (fun i => f (l.getD i 0)) = l.countP f := by
  intro l
  have h : l = (List.range l.length).map (fun i => l.getD i 0) := by
    apply List.ext_getElem
    · simp
    · intro i h1 h2
      simp [List.getD_eq_getElem?_getD, List.getElem?_eq_getElem h1]
  conv => rhs; rw [h]
  rw [List.countP_map]
  rfl

set_option maxHeartbeats 4000000 in
set_option maxRecDepth 100000 in
theorem place_fun (W : World) (b1 b2 : Nat) (ad : Addr) (n c : Nat) (i : Nat) (x a : Int) (hi : i < n) (h1 : W.cell? ⟨b1, 0, none⟩ = some (.slice (some ad) n c)) (h2 : W.cell? ⟨b2, 0, none⟩ = some (.int .i64 a)) (h3 : W.cell? (ad.add i) = some (.int .i64 x)) :
    Calls Try.prog 21 (#[.int .i64 i] ++ #[.pointer (some ⟨b1, 0, none⟩), .pointer (some ⟨b2, 0, none⟩)]) W fun e w' => e = .returned (.bool (decide (a < x))) ∧ ∃ q, w' = W.drewN q := by
  have hq1 : (0 ≤ (i : Int)) = True := eq_true (by omega)
  have hq2 : ((i : Int) < (n : Int)) = True := eq_true (by omega)
  go_enter Try.func21, Try.ntmps21
  go_wp2
  repeat (go_quiet (fail); try go_wp2)
  go_ret
  exact ⟨rfl, _, rfl⟩

set_option maxHeartbeats 8000000 in
set_option maxRecDepth 100000 in
theorem line_Place.calls (A0 : Option Addr) (c0 : Nat) (l0 : List Int) (a1 : Int) (r1 r2 : Int) (w : World) (hr0 : Kd.C (Kd.int .i64) w A0 l0.length l0) (hc0 : l0.length ≤ c0) (h : line_Place.f l0 a1 = some (r1, r2)) :
    Calls Try.prog 15 #[.slice A0 l0.length c0, .int .i64 a1] w fun e w' => e = .returned (.tuple #[.int .i64 r1, .int .i64 r2]) ∧ Below w.heap.size w w' := by
  unfold line_Place.f at h
  split at h
  case isFalse => cases h
  case isTrue hbs =>
  simp only [Bool.and_eq_true, decide_eq_true_eq] at hbs
  obtain ⟨hup, hsz⟩ := hbs
  have hp := Option.some.inj h
  clear h
  obtain ⟨w0, hw0⟩ : ∃ w0, (w.alloc (.cells #[.slice A0 l0.length c0] 26)).alloc (.cells #[.int .i64 a1] 3) = w0 := ⟨_, rfl⟩
  have hB0 : Below w.heap.size w w0 := by rw [← hw0]; exact ((Below.refl _ w).alloc (Nat.le_refl _) _).alloc (by simp) _
  have hs0 : w0.heap.size = w.heap.size + 2 := by rw [← hw0]; simp
  have hbx1 : w0.cell? ⟨w.heap.size, 0, none⟩ = some (.slice A0 l0.length c0) := by rw [← hw0]; simp
  have hbx2 : w0.cell? ⟨w.heap.size + 1, 0, none⟩ = some (.int .i64 a1) := by rw [← hw0]; simp
  have hsearch : ∀ w1, Below w0.heap.size w0 w1 → Calls Try.prog 20 #[.int .i64 l0.length, .func (.func 21) #[] #[.pointer (some ⟨w.heap.size, 0, none⟩), .pointer (some ⟨w.heap.size + 1, 0, none⟩)]] w1 fun e w' => e = .returned (.int .i64 (l0.countP (fun x => decide (x ≤ a1)) : Nat)) ∧ Below w1.heap.size w1 w' := by
    intro w1 hb1
    refine (Any.sort_Search Try.laysO16 21 #[.pointer (some ⟨w.heap.size, 0, none⟩), .pointer (some ⟨w.heap.size + 1, 0, none⟩)] l0.length (fun i => decide (a1 < l0.getD i 0)) w1 (enters_ Try.func21 (by kernel_rfl) rfl) (by omega) ?_ ?_).mono ?_
    · intro m os i hi
      have hw2 : Below w0.heap.size w0 (Go.Sort.grow (w1.drewN m) os) := hb1.trans ((below_grown_sl w1.heap.size w1 m os (Nat.le_refl _)).mono hb1.size)
      obtain ⟨ad, e119, hx⟩ := Kd.at_int hr0 (i : Int) (by omega) (by omega)
      subst e119
      have hx2 := (hB0.cell (World.block_lt_of_cell? w _ hx)).trans hx
      have hx3 := (hw2.cell (World.block_lt_of_cell? w0 _ hx2)).trans hx2
      refine (place_fun _ w.heap.size (w.heap.size + 1) ad l0.length c0 i (l0.getD i 0) a1 hi ((hw2.cell (by show w.heap.size < _; omega)).trans hbx1) ((hw2.cell (by show w.heap.size + 1 < _; omega)).trans hbx2) ?_).mono ?_
      · simpa [rd] using hx3
      · rintro e w' ⟨rfl, q, rfl⟩
        exact ⟨rfl, q, #[], by rw [Go.Sort.grow_empty]⟩
    · intro i j hij hj hpi
      have hpi2 : a1 < l0.getD i 0 := of_decide_eq_true hpi
      have := upL_le l0 hup i j hij hj
      exact decide_eq_true (by omega)
    · rintro e w' ⟨rfl, q, os, rfl⟩
      refine ⟨?_, below_grown_sl w1.heap.size w1 q os (Nat.le_refl _)⟩
      have e1 : (fun i : Nat => !decide (a1 < l0.getD i 0)) = fun i : Nat => (fun x : Int => decide (x ≤ a1)) (l0.getD i 0) := by
        funext i
        by_cases h : a1 < l0.getD i 0
        · have h2 : ¬ l0.getD i 0 ≤ a1 := by omega
          rw [decide_eq_true h]
          exact (decide_eq_false h2).symm
        · have h2 : l0.getD i 0 ≤ a1 := by omega
          rw [decide_eq_false h]
          exact (decide_eq_true h2).symm
      rw [e1, count_range (fun x => decide (x ≤ a1)) l0]
  have hNle : l0.countP (fun x => decide (x ≤ a1)) ≤ l0.length := List.countP_le_length
  unfold placeL at hp
  generalize l0.countP (fun x => decide (x ≤ a1)) = N at *
  by_cases hN : N = 0
  · subst hN
    rw [if_pos rfl] at hp
    injection hp with e1 e2
    subst e1
    subst e2
    have hd : decide ((-1 : Int) < 0) = true := rfl
    go_enter Try.func15, Try.ntmps15
    go_wp2_with (go_at_call 20; refine (hsearch _ (Below.refl _ _)).mono ?_; rintro e w' ⟨rfl, hb2⟩)
    go_ret2
    exact ⟨rfl, hB0.trans (hb2.mono (by omega))⟩
  · rw [if_neg hN] at hp
    injection hp with e1 e2
    subst e1
    subst e2
    have hwN : wrap64 ((N : Int) - 1) = (N : Int) - 1 := by unfold wrap64; omega
    have hd : decide ((N : Int) - 1 < 0) = false := decide_eq_false (by omega)
    have hq1 : (0 ≤ (N : Int) - 1) = True := eq_true (by omega)
    have hq3 : (1 ≤ (N : Int)) = True := eq_true (by omega)
    have hq2 : ((N : Int) - 1 < (l0.length : Int)) = True := eq_true (by omega)
    have htn : ((N : Int) - 1).toNat = N - 1 := by omega
    obtain ⟨ad, e119, hx⟩ := Kd.at_int hr0 ((N : Int) - 1) (by omega) (by omega)
    subst e119
    rw [htn] at hx
    have hx2 := (hB0.cell (World.block_lt_of_cell? w _ hx)).trans hx
    have hrd : rd l0 ((N : Int) - 1) = l0.getD (N - 1) 0 := by unfold rd; rw [htn]
    rw [hrd] at hx2
    generalize l0.getD (N - 1) 0 = x at hx2 ⊢
    clear hx hrd hr0
    go_enter Try.func15, Try.ntmps15
    go_wp2_with (go_at_call 20; refine (hsearch _ (Below.refl _ _)).mono ?_; rintro e w' ⟨rfl, hb2⟩; have hy1 := (hb2.cell (by show w.heap.size < _; omega)).trans hbx1; have hy2 := (hb2.cell (by show w.heap.size + 1 < _; omega)).trans hbx2; have hy3 := (hb2.cell (World.block_lt_of_cell? w0 _ hx2)).trans hx2)
    repeat (go_quiet (fail); try go_wp2)
    go_ret2
    exact ⟨rfl, (hB0.trans (hb2.mono (by omega))).trans (pw_below_drewN (Below.refl _ _) _)⟩
end Go.Proofs.Ytdekcmaakdpmaaa.Q
