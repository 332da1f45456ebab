/- Whether pairs are a common row. -/
import Derived.Test.YtinfmkmebemhcaaChk1
namespace Go.Proofs.Ytinfmkmebemhcaa.Lt
open Go.Proofs.YtinfmkmebemhcaaW.Abs Go
set_option maxRecDepth 100000
set_option maxHeartbeats 1000000
set_option linter.unusedSimpArgs false
set_option linter.unusedVariables false
variable {W0 : World}

/-- a pair of places that hold the same number -/
def pairOk (a b : List Int) (p : Int × Int) : Bool := decide (0 ≤ p.1) && decide (p.1 < a.length) && decide (0 ≤ p.2) && decide (p.2 < b.length) && decide (a[p.1.toNat]? = b[p.2.toNat]?)
/-- .. and behind the one before -/
def rightR (a b : List Int) : Option (Int × Int) → List (Int × Int) → Bool
  | _, [] => true
  | q, p :: r => pairOk a b p && (match q with | some q => decide (q.1 < p.1) && decide (q.2 < p.2) | none => true) && rightR a b (some p) r
theorem rightR_cons (a b : List Int) (q : Option (Int × Int)) (p : Int × Int) (r : List (Int × Int)) : rightR a b q (p :: r) = (pairOk a b p && (match q with | some q => decide (q.1 < p.1) && decide (q.2 < p.2) | none => true) && rightR a b (some p) r) := rfl
theorem rightR_nil (a b : List Int) (q : Option (Int × Int)) : rightR a b q [] = true := by simp [rightR]
def before {α : Type} (l : List α) (i : Nat) : Option α := if i = 0 then none else l[i - 1]?
theorem before_succ {α : Type} {l : List α} {i : Nat} {x : α} (h : l[i]? = some x) : before l (i + 1) = some x := by simp [before, h]

theorem refRight_spec (a b : List Int) (l : List (Int × Int)) {A B L : AV} (hA : IsRow A (ints a)) (hB : IsRow B (ints b)) (hL : IsRow L (prs l)) (hl : l.length ≤ 140737488355328) : PCall Try.prog W0 12 [A, B, L] (.bool (rightR a b none l)) := by
  refine pcall2 cok Try.func12 F12d F12e F12c F12w F12r (fun N => ?_)
  refine ev2I_intro ?_
  simp [F12s]
  refine loop2I_ind cok F12l0w (m := fun i => l.length - i) (I := fun i ts loc τ => i ≤ l.length ∧ ts.length = 77 ∧ tmp ts 0 = A ∧ tmp ts 1 = B ∧ tmp ts 2 = L ∧ tmp ts 7 = .int .i64 i ∧ rightR a b (before l i) (l.drop i) = rightR a b none l) ?_ 0 ?_
  · rintro i ts loc τ ⟨hi, hts, h0, h1, h2, h7, hs⟩ ih'
    simp (disch := first | omega | (simp only [List.length_set]; omega)) [F12l0, h0, h1, h2, h7, hL.len, hts]
    by_cases hlt : i < l.length
    · obtain ⟨p, hp⟩ : ∃ p, l[i]? = some p := ⟨l[i], by simp [hlt]⟩
      have hpe := prs_at hp
      rw [drop_at hp, rightR_cons] at hs
      obtain ⟨x, y⟩ := p
      simp (disch := first | omega | (simp only [List.length_set]; omega)) [hlt, h0, h1, h2, h7, hts, hL.elems, hL.chk, hL.at hpe, hpe]
      intro M hM
      by_cases hx0 : x < 0
      · simp (disch := first | omega | (simp only [List.length_set]; omega)) [hx0, h0, h1, h2, h7, hts]
        intro M2 hM2
        rw [← hs]; simp [pairOk, hx0]
        omega
      by_cases hxa : (a.length : Int) ≤ x
      · simp (disch := first | omega | (simp only [List.length_set]; omega)) [hx0, hxa, hA.len, h0, h1, h2, h7, hts]
        intro M2 hM2
        rw [← hs]; simp [pairOk]
        omega
      by_cases hy0 : y < 0
      · simp (disch := first | omega | (simp only [List.length_set]; omega)) [hx0, hxa, hy0, hA.len, h0, h1, h2, h7, hts]
        intro M2 hM2
        rw [← hs]; simp [pairOk]
        omega
      by_cases hyb : (b.length : Int) ≤ y
      · simp (disch := first | omega | (simp only [List.length_set]; omega)) [hx0, hxa, hy0, hyb, hA.len, hB.len, h0, h1, h2, h7, hts]
        intro M2 hM2
        rw [← hs]; simp [pairOk]
        omega
      obtain ⟨u, hu⟩ : ∃ u, a[x.toNat]? = some u := ⟨a[x.toNat]'(by omega), List.getElem?_eq_getElem (by omega)⟩
      obtain ⟨v, hv⟩ : ∃ v, b[y.toNat]? = some v := ⟨b[y.toNat]'(by omega), List.getElem?_eq_getElem (by omega)⟩
      have hue := ints_at hu
      have hve := ints_at hv
      have hx0' : 0 ≤ x := by omega
      have hy0' : 0 ≤ y := by omega
      simp (disch := first | omega | (simp only [List.length_set]; omega)) [hx0, hxa, hy0, hyb, hx0', hy0', hA.len, hB.len, hA.elems, hB.elems, hA.chk, hB.chk, hA.at hue, hB.at hve, hue, hve, h0, h1, h2, h7, hts]
      intro M2 hM2
      by_cases huv : u = v
      · subst huv
        have hpok : pairOk a b (x, y) = true := by simp [pairOk, hu, hv, hx0', hy0']; omega
        rw [hpok] at hs
        by_cases hi0 : i = 0
        · subst hi0
          simp (disch := first | omega | (simp only [List.length_set]; omega)) [h0, h1, h2, h7, hts]
          refine ih' 1 _ _ _ (by omega) ⟨by omega, ?_⟩
          simp (disch := first | omega | (simp only [List.length_set]; omega)) [h0, h1, h2, h7, hts, wrap_id]
          simpa [before, hp] using hs
        · have hip : 0 < i := by omega
          obtain ⟨q, hq⟩ : ∃ q, l[i - 1]? = some q := ⟨l[i - 1]'(by omega), List.getElem?_eq_getElem (by omega)⟩
          have hbf : before l i = some q := by simp [before, hi0, hq]
          have hqe := prs_at hq
          have e1 : ((i : Int) - 1).toNat = i - 1 := by omega
          have e2 : (0 : Int) ≤ (i : Int) - 1 := by omega
          rw [hbf] at hs
          obtain ⟨qx, qy⟩ := q
          have e3 : (1 : Int) ≤ (i : Int) := by omega
          by_cases hqx : qx < x
          · have hqx' : ¬ x ≤ qx := by omega
            by_cases hqy : qy < y
            · have hqy' : ¬ y ≤ qy := by omega
              simp (disch := first | omega | (simp only [List.length_set]; omega)) [hip, h0, h1, h2, h7, hts, wrap_id, e1, e2, e3, hL.elems, hL.at hqe, hqe, hqx, hqx', hqy, hqy']
              refine ih' (i + 1) _ _ _ (by omega) ⟨by omega, ?_⟩
              simp (disch := first | omega | (simp only [List.length_set]; omega)) [h0, h1, h2, h7, hts, wrap_id]
              simp [hqx, hqy] at hs
              rw [before_succ hp]; exact hs
            · have hqy' : y ≤ qy := by omega
              simp [hqy] at hs
              simp (disch := first | omega | (simp only [List.length_set]; omega)) [hip, h0, h1, h2, h7, hts, wrap_id, e1, e2, e3, hL.elems, hL.at hqe, hqe, hqx, hqx', hqy, hqy']
              exact hs
          · have hqx' : x ≤ qx := by omega
            simp [hqx] at hs
            simp (disch := first | omega | (simp only [List.length_set]; omega)) [hip, h0, h1, h2, h7, hts, wrap_id, e1, e2, e3, hL.elems, hL.at hqe, hqe, hqx, hqx']
            exact hs
      · simp (disch := first | omega | (simp only [List.length_set]; omega)) [hts, huv]
        rw [← hs]; simp [pairOk, hu, hv, huv]
    · simp (disch := first | omega | (simp only [List.length_set]; omega)) [hlt, h0, h1, h2, h7, hts]
      rw [List.drop_of_length_le (by omega)] at hs
      simpa [rightR_nil] using hs
  · simp [before]
end Go.Proofs.Ytinfmkmebemhcaa.Lt
