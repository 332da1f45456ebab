/- Whether pairs are a common row, as the program asks it. -/
import Derived.Test.YtinfmkmebemhcaaChk2
namespace Go.Proofs.Ytinfmkmebemhcaa.Lt
open Go.Proofs.YtinfmkmebemhcaaW.Abs Go
set_option maxRecDepth 100000
set_option maxHeartbeats 2000000
set_option linter.unusedSimpArgs false
set_option linter.unusedVariables false
variable {W0 : World}

def stepM (a b : List Int) (q p : Int × Int) : Bool := decide (q.1 < p.1) && decide (q.2 < p.2) && decide (p.1 < a.length) && decide (p.2 < b.length) && decide (a[p.1.toNat]? = b[p.2.toNat]?)
def rightM (a b : List Int) : Int × Int → List (Int × Int) → Bool
  | _, [] => true
  | q, p :: r => stepM a b q p && rightM a b p r
theorem rightM_cons (a b : List Int) (q p : Int × Int) (r : List (Int × Int)) : rightM a b q (p :: r) = (stepM a b q p && rightM a b p r) := rfl
theorem rightM_some (a b : List Int) : ∀ (l : List (Int × Int)) (q : Int × Int), 0 ≤ q.1 → 0 ≤ q.2 → rightM a b q l = rightR a b (some q) l
  | [], q, _, _ => by simp [rightM, rightR]
  | p :: r, q, h1, h2 => by
    rw [rightM_cons, rightR_cons]
    by_cases hs : stepM a b q p = true
    · have hs' := hs
      simp only [stepM, Bool.and_eq_true, decide_eq_true_eq] at hs'
      obtain ⟨⟨⟨⟨g1, g2⟩, g3⟩, g4⟩, g5⟩ := hs'
      rw [rightM_some a b r p (by omega) (by omega), hs]
      have e3 : decide (0 ≤ p.1) = true := decide_eq_true (by omega)
      have e4 : decide (0 ≤ p.2) = true := decide_eq_true (by omega)
      have e5 : pairOk a b p = true := by
        simp only [pairOk, e3, e4, decide_eq_true g3, decide_eq_true g4, decide_eq_true g5, Bool.and_self]
      rw [e5]
      simp [g1, g2]
    · have hs0 : stepM a b q p = false := by simpa using hs
      rw [hs0]
      have : (pairOk a b p && (decide (q.1 < p.1) && decide (q.2 < p.2))) = false := by
        cases hh : (pairOk a b p && (decide (q.1 < p.1) && decide (q.2 < p.2))) with
        | false => rfl
        | true =>
          simp only [pairOk, Bool.and_eq_true, decide_eq_true_eq] at hh
          exfalso; apply hs
          simp only [stepM, Bool.and_eq_true, decide_eq_true_eq]
          exact ⟨⟨⟨⟨hh.2.1, hh.2.2⟩, hh.1.1.1.1.2⟩, hh.1.1.2⟩, hh.1.2⟩
      simp only at this ⊢
      rw [this]; rfl
theorem rightM_none (a b : List Int) : ∀ l : List (Int × Int), rightM a b (-1, -1) l = rightR a b none l
  | [] => by simp [rightM, rightR]
  | p :: r => by
    rw [rightM_cons, rightR_cons]
    by_cases h0 : 0 ≤ p.1 ∧ 0 ≤ p.2
    · rw [rightM_some a b r p h0.1 h0.2]
      have : stepM a b (-1, -1) p = pairOk a b p := by
        simp only [stepM, pairOk]
        have e1 : decide (-1 < p.1) = true := by simp; omega
        have e2 : decide (-1 < p.2) = true := by simp; omega
        have e3 : decide (0 ≤ p.1) = true := by simp; omega
        have e4 : decide (0 ≤ p.2) = true := by simp; omega
        simp only [e1, e2, e3, e4, Bool.true_and]
        cases decide (p.1 < a.length) <;> simp
      rw [this]; simp
    · have e1 : stepM a b (-1, -1) p = false := by
        simp only [stepM]
        cases hh : (decide (-1 < p.1) && decide (-1 < p.2)) with
        | false => simp only [Bool.false_and]
        | true => simp only [Bool.and_eq_true, decide_eq_true_eq] at hh; omega
      have e2 : pairOk a b p = false := by
        cases hh : pairOk a b p with
        | false => rfl
        | true => simp only [pairOk, Bool.and_eq_true, decide_eq_true_eq] at hh; omega
      rw [e1, e2]; rfl

theorem right_spec (a b : List Int) (l : List (Int × Int)) {A B L : AV} (hA : IsRow A (ints a)) (hB : IsRow B (ints b)) (hL : IsRow L (prs l)) (hl : l.length ≤ 140737488355328) : PCall Try.prog W0 15 [A, B, L] (.bool (rightM a b (-1, -1) l)) := by
  refine pcall2 cok Try.func15 F15d F15e F15c F15w F15r (fun N => ?_)
  refine ev2I_intro ?_
  simp [F15s, hL.len]
  refine loop2I_ind cok F15l0w (m := fun i => l.length - i) (I := fun i ts loc τ => i ≤ l.length ∧ ts.length = 58 ∧ N + 2 < τ.next ∧ tmp ts 0 = A ∧ tmp ts 1 = B ∧ tmp ts 7 = .bp (N + 2) 0 0 ∧ tmp ts 11 = L ∧ tmp ts 12 = .int .i64 l.length ∧ tmp ts 13 = .int .i64 i ∧ ∃ q : Int × Int, -1 ≤ q.1 ∧ -1 ≤ q.2 ∧ loc 0 = .box (N + 2) 34 [[.int .i64 q.1, .int .i64 q.2]] ∧ rightM a b q (l.drop i) = rightM a b (-1, -1) l) ?_ 0 ?_
  · rintro i ts loc τ ⟨hi, hts, hN, h0, h1, h7, h11, h12, h13, q, hq1, hq2, hlc, hs⟩ ih'
    simp (disch := first | omega | (simp only [List.length_set]; omega)) [F15l0, h0, h1, h7, h11, h12, h13, hts]
    by_cases hlt : i < l.length
    · obtain ⟨p, hp⟩ : ∃ p, l[i]? = some p := ⟨l[i], by simp [hlt]⟩
      have hpe := prs_at hp
      rw [drop_at hp, rightM_cons] at hs
      obtain ⟨x, y⟩ := p
      obtain ⟨qx, qy⟩ := q
      dsimp only at hq1 hq2 hlc
      have hN1 : N + 2 < τ.next + 1 + 4 := by omega
      have hN2 : τ.next + 1 + 2 < τ.next + 1 + 4 := by omega
      simp (disch := first | omega | (simp only [List.length_set]; omega)) [hlt, h0, h1, h7, h11, h12, h13, hts, hL.elems, hL.at hpe, hpe, hlc, hN1, hN2]
      have hno : stepM a b (qx, qy) (x, y) = false → rightM a b (-1, -1) l = false := fun h => by rw [← hs, h]; rfl
      have hof : ∀ {c : Prop} [Decidable c], ¬ c → decide c = false := fun h => decide_eq_false h
      by_cases hx : x ≤ qx
      · simp (disch := first | omega | (simp only [List.length_set]; omega)) [hx, h0, h1, h7, h11, h12, h13, hts]
        intro M hM
        exact hno (by simp [stepM, hof (show ¬ qx < x by omega)])
      by_cases hy : y ≤ qy
      · simp (disch := first | omega | (simp only [List.length_set]; omega)) [hx, hy, h0, h1, h7, h11, h12, h13, hts, hN1, hN2, hlc]
        intro M hM
        exact hno (by simp [stepM, hof (show ¬ qy < y by omega)])
      by_cases hxa : (a.length : Int) ≤ x
      · simp (disch := first | omega | (simp only [List.length_set]; omega)) [hx, hy, hxa, hA.len, h0, h1, h7, h11, h12, h13, hts, hN1, hN2, hlc]
        intro M hM
        exact hno (by simp [stepM, hof (show ¬ x < a.length by omega)])
      by_cases hyb : (b.length : Int) ≤ y
      · simp (disch := first | omega | (simp only [List.length_set]; omega)) [hx, hy, hxa, hyb, hA.len, hB.len, h0, h1, h7, h11, h12, h13, hts, hN1, hN2, hlc]
        intro M hM
        exact hno (by simp [stepM, hof (show ¬ y < b.length by omega)])
      have hx0 : 0 ≤ x := by omega
      have hy0 : 0 ≤ y := by omega
      obtain ⟨u, hu⟩ : ∃ u, a[x.toNat]? = some u := ⟨a[x.toNat]'(by omega), List.getElem?_eq_getElem (by omega)⟩
      obtain ⟨v, hv⟩ : ∃ v, b[y.toNat]? = some v := ⟨b[y.toNat]'(by omega), List.getElem?_eq_getElem (by omega)⟩
      have hue := ints_at hu
      have hve := ints_at hv
      simp (disch := first | omega | (simp only [List.length_set]; omega)) [hx, hy, hxa, hyb, hx0, hy0, hA.len, hB.len, hA.elems, hB.elems, hA.chk, hB.chk, hA.at hue, hB.at hve, hue, hve, h0, h1, h7, h11, h12, h13, hts, hN1, hN2, hlc]
      intro M hM
      by_cases huv : u = v
      · subst huv
        have hst : stepM a b (qx, qy) (x, y) = true := by
          simp only [stepM, Bool.and_eq_true, decide_eq_true_eq]
          exact ⟨⟨⟨⟨by omega, by omega⟩, by omega⟩, by omega⟩, by rw [hu, hv]⟩
        rw [hst] at hs
        simp (disch := first | omega | (simp only [List.length_set]; omega)) [h0, h1, h7, h11, h12, h13, hts, hlc]
        refine ih' (i + 1) _ _ _ (by omega) ⟨by omega, ?_⟩
        simp (disch := first | omega | (simp only [List.length_set]; omega)) [h0, h1, h7, h11, h12, h13, hts, hlc, wrap_id]
        refine ⟨by omega, x, by omega, y, by omega, ⟨rfl, rfl⟩, by simpa using hs⟩
      · simp (disch := first | omega | (simp only [List.length_set]; omega)) [huv, hts]
        exact hno (by simp only [stepM, hu, hv, Option.some.injEq, hof huv, Bool.and_false])
    · simp (disch := first | omega | (simp only [List.length_set]; omega)) [hlt, h0, h1, h7, h11, h12, h13, hts]
      rw [List.drop_of_length_le (by omega)] at hs
      simpa [rightM] using hs
  · simp
    exact ⟨-1, by omega, -1, by omega, ⟨rfl, rfl⟩, rfl⟩
end Go.Proofs.Ytinfmkmebemhcaa.Lt
