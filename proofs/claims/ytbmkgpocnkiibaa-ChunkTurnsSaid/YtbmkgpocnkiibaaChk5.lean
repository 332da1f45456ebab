/- Do two ranges hold the same numbers. -/
import Derived.Test.YtbmkgpocnkiibaaChk4
namespace Go.Proofs.Ytbmkgpocnkiibaa.Lt
open Go.Proofs.YtbmkgpocnkiibaaW.Abs Go
set_option maxRecDepth 100000
set_option maxHeartbeats 2000000
set_option linter.unusedSimpArgs false
set_option linter.unusedVariables false
variable {W0 : World}

def cut (l : List Int) (i j : Nat) : List Int := (l.take j).drop i
theorem cut_at {l : List Int} {i j : Nat} {x : Int} (h : l[i]? = some x) (hj : i < j) : cut l i j = x :: cut l (i + 1) j := by
  unfold cut
  exact drop_at (by rw [List.getElem?_take, if_pos hj]; exact h)
theorem cut_end {l : List Int} {i j : Nat} (h : j ≤ i) : cut l i j = [] := by
  unfold cut; exact List.drop_of_length_le (by simp; omega)
theorem cut_length {l : List Int} {i j : Nat} (hj : j ≤ l.length) : (cut l i j).length = j - i := by
  unfold cut; simp; omega

theorem rsame_spec (a b : List Int) (x0 x1 y0 y1 : Nat) {A B : AV} (hA : IsRow A (ints a)) (hB : IsRow B (ints b)) (hx : x0 ≤ x1) (hxa : x1 ≤ a.length) (hy : y0 ≤ y1) (hyb : y1 ≤ b.length) (hla : a.length ≤ 1000000) (hlb : b.length ≤ 1000000) :
    PCall Try.prog W0 20 [A, .agg [.int .i64 x0, .int .i64 x1], B, .agg [.int .i64 y0, .int .i64 y1]] (.bool (decide (cut a x0 x1 = cut b y0 y1))) := by
  refine pcall2 cok Try.func20 F20d F20e F20c F20w F20r (fun N => ?_)
  refine ev2I_intro ?_
  have hl1 := cut_length (i := x0) hxa
  have hl2 := cut_length (i := y0) hyb
  simp (disch := first | omega | (simp only [List.length_set]; omega)) [F20s, wrap_id]
  by_cases hlen : x1 - x0 = y1 - y0
  · have hlen' : (x1 : Int) - x0 = (y1 : Int) - y0 := by omega
    simp [hlen']
    refine loop2I_ind cok F20l0w (m := fun i => x1 - x0 - i) (I := fun i ts loc τ => i ≤ x1 - x0 ∧ ts.length = 45 ∧ N + 1 < τ.next ∧ tmp ts 0 = A ∧ tmp ts 2 = B ∧ tmp ts 5 = .bp N 0 0 ∧ tmp ts 7 = .bp (N + 1) 0 0 ∧ tmp ts 9 = .int .i64 i ∧ loc 0 = .box N 31 [[.int .i64 x0, .int .i64 x1]] ∧ loc 1 = .box (N + 1) 31 [[.int .i64 y0, .int .i64 y1]] ∧ decide (cut a (x0 + i) x1 = cut b (y0 + i) y1) = decide (cut a x0 x1 = cut b y0 y1)) ?_ 0 ?_
    · rintro i ts loc τ ⟨hi, hts, hN, h0, h2, h5, h7, h9, hc0, hc1, hs⟩ ih'
      simp (disch := first | omega | (simp only [List.length_set]; omega)) [F20l0, h0, h2, h5, h7, h9, hc0, hc1, hts, wrap_id]
      by_cases hlt : i < x1 - x0
      · have hlt' : (i : Int) < (x1 : Int) - x0 := by omega
        obtain ⟨u, hu⟩ : ∃ u, a[x0 + i]? = some u := ⟨a[x0 + i]'(by omega), List.getElem?_eq_getElem (by omega)⟩
        obtain ⟨v, hv⟩ : ∃ v, b[y0 + i]? = some v := ⟨b[y0 + i]'(by omega), List.getElem?_eq_getElem (by omega)⟩
        have hue := ints_at hu
        have hve := ints_at hv
        have t1 : ((x0 : Int) + i).toNat = x0 + i := by omega
        have t2 : ((y0 : Int) + i).toNat = y0 + i := by omega
        have t3 : (0 : Int) ≤ (x0 : Int) + i := by omega
        have t4 : (0 : Int) ≤ (y0 : Int) + i := by omega
        have hN1 : N < τ.next + 7 := by omega
        have hN2 : N + 1 < τ.next + 7 := by omega
        rw [cut_at hu (by omega), cut_at hv (by omega)] at hs
        simp (disch := first | omega | (simp only [List.length_set]; omega)) [hlt', h0, h2, h5, h7, h9, hc0, hc1, hts, wrap_id, t1, t2, t3, t4, hA.elems, hB.elems, hA.chk, hB.chk, hA.at hue, hB.at hve, hue, hve, hN1, hN2]
        intro M hM
        by_cases huv : u = v
        · subst huv
          simp at hs
          simp (disch := first | omega | (simp only [List.length_set]; omega)) [h0, h2, h5, h7, h9, hc0, hc1, hts]
          refine ih' (i + 1) _ _ _ (by omega) ⟨by omega, ?_⟩
          simp (disch := first | omega | (simp only [List.length_set]; omega)) [h0, h2, h5, h7, h9, hc0, hc1, hts, wrap_id]
          exact ⟨by omega, by simpa [Nat.add_assoc] using hs⟩
        · simp [huv] at hs
          simp (disch := first | omega | (simp only [List.length_set]; omega)) [huv, hts]
          simpa using hs
      · have hlt' : ¬ (i : Int) < (x1 : Int) - x0 := by omega
        simp (disch := first | omega | (simp only [List.length_set]; omega)) [hlt', h0, h2, h5, h7, h9, hc0, hc1, hts]
        rw [cut_end (by omega), cut_end (by omega)] at hs
        simpa using hs
    · simp
  · have hne : cut a x0 x1 ≠ cut b y0 y1 := fun e => hlen (by rw [← hl1, ← hl2, e])
    have hlen' : ¬ ((x1 : Int) - x0 = (y1 : Int) - y0) := by omega
    simp [hlen', hne]
end Go.Proofs.Ytbmkgpocnkiibaa.Lt
