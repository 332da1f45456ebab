/- Of some pairs those that go on with a common row; are two rows equal. -/
import Derived.Test.YtbmkgpocnkiibaaChk3
namespace Go.Proofs.Ytbmkgpocnkiibaa.Lt
open Go.Proofs.YtbmkgpocnkiibaaW.Abs Go
set_option maxRecDepth 100000
set_option maxHeartbeats 2000000
set_option linter.unusedSimpArgs false
set_option linter.unusedVariables false
variable {W0 : World}

def pairsF (a b : List Int) : List (Int × Int) → List (Int × Int) → List (Int × Int)
  | acc, [] => acc
  | acc, p :: r => pairsF a b (if rightR a b none (acc ++ [p]) = true then acc ++ [p] else acc) r

theorem pairs_spec (a b : List Int) (l : List (Int × Int)) {A B L : AV} (hA : IsRow A (ints a)) (hB : IsRow B (ints b)) (hL : IsRow L (prs l)) : PCall Try.prog W0 9 [A, B, L] (rowV (prs (pairsF a b [] (l.take 100)))) := by
  refine pcall2 cok Try.func9 F9d F9e F9c F9w F9r (fun N => ?_)
  refine ev2I_intro ?_
  simp [F9s]
  refine loop2I_ind cok F9l0w (m := fun i => 100 - i) (I := fun i ts loc τ => i ≤ l.length ∧ i ≤ 100 ∧ ts.length = 39 ∧ tmp ts 0 = A ∧ tmp ts 1 = B ∧ tmp ts 2 = L ∧ tmp ts 8 = .int .i64 i ∧ ∃ acc tok, tmp ts 7 = accV (prs acc) tok ∧ AccL (loc 1) 2 tok (prs acc) ∧ acc.length ≤ i ∧ pairsF a b acc ((l.take 100).drop i) = pairsF a b [] (l.take 100)) ?_ 0 ?_
  · rintro i ts loc τ ⟨hi, hi2, hts, h0, h1, h2, h8, acc, tok, h7, ha, hal, hR⟩ ih'
    simp (disch := first | omega | (simp only [List.length_set]; omega)) [F9l0, h0, h1, h2, h7, h8, hL.len, hts]
    have hfin : ¬ (i < l.length ∧ i < 100) → acc = pairsF a b [] (l.take 100) := fun h => by
      rw [List.drop_of_length_le (by simp; omega)] at hR; simpa [pairsF] using hR
    by_cases hlt : i < l.length
    · by_cases hlh : i < 100
      · obtain ⟨p, hp⟩ : ∃ p, l[i]? = some p := ⟨l[i], by simp [hlt]⟩
        have hpe := prs_at hp
        have hpt : (l.take 100)[i]? = some p := by rw [List.getElem?_take, if_pos hlh]; exact hp
        rw [drop_at hpt, pairsF] at hR
        have hlh' : (i : Int) < 100 := by omega
        simp (disch := first | omega | (simp only [List.length_set]; omega)) [hlt, hlh', h0, h1, h2, h7, h8, hts, hL.elems, hL.at hpe, hpe, hL.chk]
        refine andI_intro ⟨fun e he => prs_two he, by omega, by omega⟩ ?_
        simp (disch := first | omega | (simp only [List.length_set]; omega)) [hlt, hlh', h0, h1, h2, h7, h8, hts, hL.elems, hL.at hpe, hpe, hL.chk]
        refine andI_intro ⟨by omega, by omega⟩ ?_
        simp (disch := first | omega | (simp only [List.length_set]; omega)) [hlt, hlh', h0, h1, h2, h7, h8, hts, hL.elems, hL.at hpe, hpe, hL.chk]
        refine pcallI_pure' (refRight_spec a b (acc ++ [p]) hA hB (L := .row (prs (acc ++ [p])) none) (.inr rfl) (by simp; omega)) ?_ ?_
        · simp [bareL, hA.same (ints_bare a), hB.same (ints_bare b)]
          simp [prs]
        by_cases hr : rightR a b none (acc ++ [p]) = true
        · rw [if_pos hr] at hR
          simp (disch := first | omega | (simp only [List.length_set]; omega)) [hr, hlt, hlh', h0, h1, h2, h7, h8, hts, hL.elems, hL.at hpe, hpe, hL.chk, ha.grow]
          intro M hM
          refine andI_intro ⟨by omega, by omega⟩ ?_
          simp (disch := first | omega | (simp only [List.length_set]; omega)) [hlt, hlh', h0, h1, h2, h7, h8, hts]
          refine ih' (i + 1) _ _ _ (by omega) ⟨by omega, by omega, ?_⟩
          simp (disch := first | omega | (simp only [List.length_set]; omega)) [h0, h1, h2, h7, h8, hts, wrap_id]
          exact ⟨acc ++ [p], _, by rw [prs_app]; rfl, AccL.next' _ _ _ (by rw [prs_app]; rfl), by simp; omega, hR⟩
        · rw [if_neg hr] at hR
          simp (disch := first | omega | (simp only [List.length_set]; omega)) [hr, hlt, hlh', h0, h1, h2, h7, h8, hts]
          intro M hM
          refine ih' (i + 1) _ _ _ (by omega) ⟨by omega, by omega, ?_⟩
          simp (disch := first | omega | (simp only [List.length_set]; omega)) [h0, h1, h2, h7, h8, hts, wrap_id]
          exact ⟨acc, tok, rfl, ha, by omega, hR⟩
      · have hlh' : ¬ (i : Int) < 100 := by omega
        simp (disch := first | omega | (simp only [List.length_set]; omega)) [hlt, hlh', h0, h1, h2, h7, h8, hts]
        rw [hfin (by omega)]
    · simp (disch := first | omega | (simp only [List.length_set]; omega)) [hlt, h0, h1, h2, h7, h8, hts]
      rw [hfin (by omega)]
  · simp
    exact ⟨[], 0, by simp, by simp, rfl, rfl⟩

theorem equal_spec (a b : List Int) {A B : AV} (hA : IsRow A (ints a)) (hB : IsRow B (ints b)) (hl : a.length ≤ 140737488355328) : PCall Try.prog W0 22 [A, B] (.bool (decide (a = b))) := by
  refine pcall2 cok Try.func22 F22d F22e F22c F22w F22r (fun N => ?_)
  refine ev2I_intro ?_
  simp [F22s, hA.len, hB.len]
  by_cases hlen : a.length = b.length
  · simp [hlen, hA.len]
    refine loop2I_ind cok F22l0w (m := fun i => a.length - i) (I := fun i ts loc τ => i ≤ a.length ∧ ts.length = 26 ∧ tmp ts 0 = A ∧ tmp ts 1 = B ∧ tmp ts 12 = .int .i64 a.length ∧ tmp ts 13 = .int .i64 i ∧ decide (a.drop i = b.drop i) = decide (a = b)) ?_ 0 ?_
    · rintro i ts loc τ ⟨hi, hts, h0, h1, h12, h13, hs⟩ ih'
      simp (disch := first | omega | (simp only [List.length_set]; omega)) [F22l0, h0, h1, h12, h13, hts]
      by_cases hlt : i < a.length
      · obtain ⟨x, hx⟩ : ∃ x, a[i]? = some x := ⟨a[i], by simp [hlt]⟩
        obtain ⟨y, hy⟩ : ∃ y, b[i]? = some y := ⟨b[i]'(by omega), by simp [hlen ▸ hlt]⟩
        have ha := ints_at hx
        have hb := ints_at hy
        rw [drop_at hx, drop_at hy] at hs
        simp (disch := first | omega | (simp only [List.length_set]; omega)) [hlt, h0, h1, h12, h13, hts, hA.elems, hB.elems, hA.chk, hB.chk, hA.at ha, hB.at hb, ha, hb]
        intro M hM
        by_cases hxy : x = y
        · subst hxy
          simp at hs
          simp (disch := first | omega | (simp only [List.length_set]; omega)) [h0, h1, h12, h13, hts]
          refine ih' (i + 1) _ _ _ (by omega) ⟨by omega, ?_⟩
          simp (disch := first | omega | (simp only [List.length_set]; omega)) [h0, h1, h12, h13, hts, wrap_id]
          simpa using hs
        · simp [hxy] at hs
          simp (disch := first | omega | (simp only [List.length_set]; omega)) [hxy, h0, h1, h12, h13, hts]
          simpa using hs
      · simp (disch := first | omega | (simp only [List.length_set]; omega)) [hlt, h0, h1, h12, h13, hts]
        rw [List.drop_of_length_le (by omega), List.drop_of_length_le (by omega)] at hs
        simpa using hs
    · simp [hlen]
  · have hne : a ≠ b := fun e => hlen (by rw [e])
    have hlen' : ¬ ((a.length : Int) = b.length) := by omega
    simp [hlen', hne]
end Go.Proofs.Ytbmkgpocnkiibaa.Lt
