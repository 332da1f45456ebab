/- Rows of few numbers; are two rows the same; whether pairs are a common row. -/
import Derived.Test.YtbmkgpocnkiibaaLt
import Derived.Test.YtbmkgpocnkiibaaA22
namespace Go.Proofs.Ytbmkgpocnkiibaa.Lt
open Go.Proofs.YtbmkgpocnkiibaaW.Abs Go
set_option maxRecDepth 100000
set_option maxHeartbeats 1000000
set_option linter.unusedSimpArgs false
set_option linter.unusedVariables false
variable {W0 : World}

def fewN (x : Int) : Int := (x % 18446744073709551616) % 6
theorem fewN_bd (x : Int) : 0 ≤ fewN x ∧ fewN x < 6 := by unfold fewN; omega
def fewL (l : List Int) : List Int := (l.take 80).map fewN

theorem fewN_eq (x : Int) : IntKind.i64.wrap (((IntKind.u64.wrap x).tmod 6)) = fewN x := by
  have h1 : IntKind.u64.wrap x = x % 18446744073709551616 := by rw [IntKind.wrap_u64]
  rw [h1, Int.tmod_eq_emod_of_nonneg (by omega)]
  rw [wrap_id (by omega) (by omega)]; rfl

theorem few_spec (l : List Int) {A : AV} (hA : IsRow A (ints l)) : PCall Try.prog W0 7 [A] (rowV (ints (fewL l))) := by
  refine pcall2 cok Try.func7 F7d F7e F7c F7w F7r (fun N => ?_)
  refine ev2I_intro ?_
  have key : ∀ (m : List Int) (B : AV) (ts : List AV) (loc : Go.Proofs.YtbmkgpocnkiibaaW.Abs.Loc) (τ : Heap), m.length ≤ 80 → IsRow B (ints m) → ts.length = 27 → tmp ts 0 = B → tmp ts 3 = .nils → tmp ts 4 = .int .i64 0 → ∀ K : KC2, (∀ ts loc τ tok, tmp ts 3 = accV (ints (m.map fewN)) tok → ts.length = 27 → K.k (.exit 0) ts loc τ) → @loop2I Try.prog W0 C [] K F7l0 ts loc τ := by
    intro m B ts loc τ hm hB hl h0 h3 h4 K hK
    refine loop2I_ind cok F7l0w (m := fun i => m.length - i) (I := fun i ts loc τ => i ≤ m.length ∧ ts.length = 27 ∧ tmp ts 0 = B ∧ tmp ts 4 = .int .i64 i ∧ ∃ acc tok, tmp ts 3 = accV (ints acc) tok ∧ AccL (loc 0) 1 tok (ints acc) ∧ acc.length = i ∧ acc ++ (m.drop i).map fewN = m.map fewN) ?_ 0 ⟨by omega, hl, h0, by simpa using h4, [], 0, by simpa using h3, by simp, rfl, by simp⟩
    clear hl h0 h3 h4 ts loc τ
    rintro i ts loc τ ⟨hi, hl, h0, h4, acc, tok, h3, ha, hal, hR⟩ ih'
    simp (disch := first | omega | (simp only [List.length_set]; omega)) [F7l0, h0, h3, h4, hl, hB.len]
    by_cases hlt : i < m.length
    · obtain ⟨x, hx⟩ : ∃ x, m[i]? = some x := ⟨m[i], by simp [hlt]⟩
      have hxe := ints_at hx
      simp (disch := first | omega | (simp only [List.length_set]; omega)) [hlt, h0, h3, h4, hl, hB.elems, hB.at hxe, hxe, fewN_eq, ha.grow]
      refine andI_intro (by omega) ?_
      simp (disch := first | omega | (simp only [List.length_set]; omega)) [hlt, h0, h3, h4, hl, wrap_id]
      refine ih' (i + 1) _ _ _ (by omega) ⟨by omega, ?_⟩
      simp (disch := first | omega | (simp only [List.length_set]; omega)) [h0, h3, h4, hl, wrap_id]
      rw [drop_at hx] at hR
      exact ⟨acc ++ [fewN x], _, by rw [ints_app]; rfl, AccL.next' _ _ _ (by rw [ints_app]; rfl), by simp; omega, by simpa using hR⟩
    · have hR' : acc = m.map fewN := by rw [List.drop_of_length_le (by omega)] at hR; simpa using hR
      rw [hR'] at h3
      simp (disch := first | omega | (simp only [List.length_set]; omega)) [hlt, h0, h3, h4, hl]
      exact hK _ _ _ tok (by simp (disch := first | omega | (simp only [List.length_set]; omega)) [h3]) (by simp [hl])
  simp [F7s, hA.len]
  refine condI_dec (fun h => ?_) (fun h => ?_)
  · simp
    refine andI_intro (by rw [hA.slOk]; exact ⟨by omega, by omega, by simp; omega, fun e he => ints_one he⟩) ?_
    have hB := hA.sub 0 80 (by simp; omega)
    rw [ints_cut] at hB
    simp
    refine key (l.take 80) (subVal 0 (fun _ => 80) A) _ _ _ (by simp; omega) (by simpa using hB) (by simp) (by simp) (by simp) (by simp) _ (fun ts loc τ tok h3 hl => ?_)
    simp (disch := first | omega | (simp only [List.length_set]; omega)) [h3, hl, fewL]
  · simp
    refine key l A _ _ _ (by omega) hA (by simp) (by simp) (by simp) (by simp) _ (fun ts loc τ tok h3 hl => ?_)
    simp (disch := first | omega | (simp only [List.length_set]; omega)) [h3, hl, fewL, List.take_of_length_le (show l.length ≤ 80 by omega)]

theorem same_spec (a b : List Int) {A B : AV} (hA : IsRow A (ints a)) (hB : IsRow B (ints b)) (hl : a.length ≤ 140737488355328) : PCall Try.prog W0 11 [A, B] (.bool (decide (a = b))) := by
  refine pcall2 cok Try.func11 F11d F11e F11c F11w F11r (fun N => ?_)
  refine ev2I_intro ?_
  simp [F11s, hA.len, hB.len]
  by_cases hlen : a.length = b.length
  · simp [hlen]
    refine loop2I_ind cok F11l0w (m := fun i => a.length - i) (I := fun i ts loc τ => i ≤ a.length ∧ ts.length = 26 ∧ tmp ts 0 = A ∧ tmp ts 1 = B ∧ tmp ts 5 = .int .i64 i ∧ decide (a.drop i = b.drop i) = decide (a = b)) ?_ 0 ?_
    · rintro i ts loc τ ⟨hi, hts, h0, h1, h5, hs⟩ ih'
      simp (disch := first | omega | (simp only [List.length_set]; omega)) [F11l0, h0, h1, h5, hA.len, hts]
      by_cases hlt : i < a.length
      · obtain ⟨x, hx⟩ : ∃ x, a[i]? = some x := ⟨a[i], by simp [hlt]⟩
        obtain ⟨y, hy⟩ : ∃ y, b[i]? = some y := ⟨b[i]'(by omega), by simp [hlen ▸ hlt]⟩
        have ha := ints_at hx
        have hb := ints_at hy
        rw [drop_at hx, drop_at hy] at hs
        simp (disch := first | omega | (simp only [List.length_set]; omega)) [hlt, h0, h1, h5, hts, hA.elems, hB.elems, hA.chk, hB.chk, hA.at ha, hB.at hb, ha, hb]
        by_cases hxy : x = y
        · subst hxy
          simp at hs
          simp (disch := first | omega | (simp only [List.length_set]; omega)) [h0, h1, h5, hts]
          intro M hM
          refine ih' (i + 1) _ _ _ (by omega) ⟨by omega, ?_⟩
          simp (disch := first | omega | (simp only [List.length_set]; omega)) [h0, h1, h5, hts, wrap_id]
          simpa using hs
        · simp [hxy] at hs
          simp (disch := first | omega | (simp only [List.length_set]; omega)) [hxy, h0, h1, h5, hts]
          intro M hM
          simpa using hs
      · simp (disch := first | omega | (simp only [List.length_set]; omega)) [hlt, h0, h1, h5, hts]
        rw [List.drop_of_length_le (by omega), List.drop_of_length_le (by omega)] at hs
        simpa using hs
    · simp
  · have hne : a ≠ b := fun e => hlen (by rw [e])
    have hlen' : ¬ ((a.length : Int) = b.length) := by omega
    simp [hlen', hne]

/-- the partner of a place -/
def toF : List (Int × Int) → Int → Int
  | [], _ => -1
  | p :: r, i => if p.1 = i then p.2 else toF r i
theorem to_spec (l : List (Int × Int)) (x : Int) {A : AV} (hA : IsRow A (prs l)) (hl : l.length ≤ 140737488355328) : PCall Try.prog W0 19 [A, .int .i64 x] (.int .i64 (toF l x)) := by
  refine pcall2 cok Try.func19 F19d F19e F19c F19w F19r (fun N => ?_)
  refine ev2I_intro ?_
  simp [F19s]
  refine loop2I_ind cok F19l0w (m := fun i => l.length - i) (I := fun i ts loc τ => i ≤ l.length ∧ ts.length = 24 ∧ tmp ts 0 = A ∧ tmp ts 1 = .int .i64 x ∧ tmp ts 5 = .int .i64 i ∧ toF (l.drop i) x = toF l x) ?_ 0 ?_
  · rintro i ts loc τ ⟨hi, hts, h0, h1, h5, hs⟩ ih'
    simp (disch := first | omega | (simp only [List.length_set]; omega)) [F19l0, h0, h1, h5, hA.len, hts]
    by_cases hlt : i < l.length
    · obtain ⟨p, hp⟩ : ∃ p, l[i]? = some p := ⟨l[i], by simp [hlt]⟩
      have ha := prs_at hp
      rw [drop_at hp, toF] at hs
      simp (disch := first | omega | (simp only [List.length_set]; omega)) [hlt, h0, h1, h5, hts, hA.elems, hA.at ha, ha]
      by_cases hxy : p.1 = x
      · rw [if_pos hxy] at hs
        simp (disch := first | omega | (simp only [List.length_set]; omega)) [hxy, h0, h1, h5, hts, hA.elems, hA.at ha, ha]
        exact hs
      · rw [if_neg hxy] at hs
        simp (disch := first | omega | (simp only [List.length_set]; omega)) [hxy, h0, h1, h5, hts]
        refine ih' (i + 1) _ _ _ (by omega) ⟨by omega, ?_⟩
        simp (disch := first | omega | (simp only [List.length_set]; omega)) [h0, h1, h5, hts, wrap_id]
        exact hs
    · simp (disch := first | omega | (simp only [List.length_set]; omega)) [hlt, h0, h1, h5, hts]
      rw [List.drop_of_length_le (by omega)] at hs
      simpa [toF] using hs
  · simp
end Go.Proofs.Ytbmkgpocnkiibaa.Lt
