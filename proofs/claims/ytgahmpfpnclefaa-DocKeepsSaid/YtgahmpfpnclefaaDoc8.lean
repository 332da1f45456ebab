/- Flat texts, as the document says them; few. -/
import Derived.Test.YtgahmpfpnclefaaDoc7
namespace Go.Proofs.Ytgahmpfpnclefaa.Lt
open Go.Proofs.YtgahmpfpnclefaaW.Abs Go
set_option maxRecDepth 100000
set_option maxHeartbeats 1000000
set_option linter.unusedSimpArgs false
set_option linter.unusedVariables false
variable {W0 : World}

theorem flat_spec (l : List Pc) {A : AV} (hA : IsRow A (l.map Pc.enc)) (hl : l.length ≤ 10000) (hs : ∀ p ∈ l, p.s.length ≤ 140737488355328) : PCall Try.prog W0 13 [A] (.tup [.str (flatOf l []).1, .bool (flatOf l []).2]) := by
  refine pcall2 cok Try.func13 F13d F13e F13c F13w F13r (fun N => ?_)
  refine ev2I_intro ?_
  simp (disch := first | omega | (simp only [List.length_set]; omega)) [F13s, hA.len]
  refine loop2I_ind cok F13l0w (m := fun i => l.length - i) (I := fun i ts loc τ => i ≤ l.length ∧ ts.length = 40 ∧ tmp ts 0 = A ∧ tmp ts 5 = .int .i64 i ∧ ∃ s : List UInt8, tmp ts 4 = .str s ∧ s.length ≤ 140737488355328 * i ∧ flatOf (l.drop i) s = flatOf l []) ?_ 0 ?_
  · rintro i ts loc τ ⟨hi, hts, h0, h5, s, h4, hsl, hs'⟩ ih'
    simp (disch := first | omega | (simp only [List.length_set]; omega)) [F13l0, h0, h4, h5, hA.len, hts]
    by_cases hlt : i < l.length
    · obtain ⟨x, hx⟩ : ∃ x, l[i]? = some x := ⟨l[i], by simp [hlt]⟩
      have hxs := hs x (List.mem_of_getElem? hx)
      have ha : (l.map Pc.enc)[i]? = some x.enc := by simp [hx]
      have hda : l.drop i = x :: l.drop (i + 1) := by
        rw [List.drop_eq_getElem_cons hlt]; congr 1; simpa [hlt] using hx
      rw [hda, flatOf] at hs'
      obtain ⟨xk, xs⟩ := x
      dsimp only at hs' hxs
      have hsl2 : s.length + xs.length ≤ 140737488355328 * (i + 1) := by omega
      have hsl3 : s.length + xs.length ≤ 9223372036854775807 := by omega
      have hsl4 : s.length ≤ 140737488355328 * (i + 1) := by omega
      have hsl5 : s.length + 1 ≤ 140737488355328 * (i + 1) := by omega
      have hsl6 : s.length + 1 ≤ 9223372036854775807 := by omega
      by_cases hk4 : xk = 4
      · simp (disch := first | omega | (simp only [List.length_set]; omega)) [hlt, h0, h4, h5, hA.len, hts, hA.elems, hA.at ha, hx, hk4, wrap_id]
        rw [if_pos hk4] at hs'
        simp [← hs']
      rw [if_neg hk4] at hs'
      by_cases hk1 : xk = 1
      · subst hk1
        simp (disch := first | omega | (simp only [List.length_set]; omega)) [hlt, h0, h4, h5, hA.len, hts, hA.elems, hA.at ha, hx, wrap_id, hsl3, hsl6]
        refine ih' (i + 1) _ _ _ (by omega) ⟨by omega, ?_, ?_, ?_, s ++ xs, ?_, ?_, ?_⟩
        · simp [hts]
        · simp (disch := first | omega | (simp only [List.length_set]; omega)) [h0]
        · simp (disch := first | omega | (simp only [List.length_set]; omega)) [h5]
        · simp (disch := first | omega | (simp only [List.length_set]; omega)) [h4]
        · simpa using hsl2
        · simpa using hs'
      · rw [if_neg hk1] at hs'
        by_cases hk2 : xk = 2
        · subst hk2
          simp (disch := first | omega | (simp only [List.length_set]; omega)) [hlt, h0, h4, h5, hA.len, hts, hA.elems, hA.at ha, hx, wrap_id, hsl3, hsl6]
          refine ih' (i + 1) _ _ _ (by omega) ⟨by omega, ?_, ?_, ?_, s ++ [32], ?_, ?_, ?_⟩
          · simp [hts]
          · simp (disch := first | omega | (simp only [List.length_set]; omega)) [h0]
          · simp (disch := first | omega | (simp only [List.length_set]; omega)) [h5]
          · simp (disch := first | omega | (simp only [List.length_set]; omega)) [h4]
          · rw [List.length_append]; exact hsl5
          · simpa using hs'
        · rw [if_neg hk2] at hs'
          simp (disch := first | omega | (simp only [List.length_set]; omega)) [hlt, h0, h4, h5, hA.len, hts, hA.elems, hA.at ha, hx, hk4, hk1, hk2, wrap_id]
          refine ih' (i + 1) _ _ _ (by omega) ⟨by omega, ?_, ?_, ?_, s, ?_, hsl4, hs'⟩
          · simp [hts]
          · simp (disch := first | omega | (simp only [List.length_set]; omega)) [h0]
          · simp (disch := first | omega | (simp only [List.length_set]; omega)) [h5]
          · simp (disch := first | omega | (simp only [List.length_set]; omega)) [h4]
    · simp (disch := first | omega | (simp only [List.length_set]; omega)) [hlt, h0, h4, h5, hA.len, hts]
      rw [List.drop_of_length_le (by omega), flatOf] at hs'
      simp [← hs']
  · simp

/-- the texts of a list, each at most 10000, until they are more than 20000 -/
def sums : List Pc → Int → Option Int
  | [], n => some n
  | p :: r, n => if n + min (p.s.length : Int) 10000 > 20000 then none else sums r (n + min (p.s.length : Int) 10000)
def few (t : T) : Bool := (sums (pcs t 1000) 0).isSome && decide (sz t 400 < 400)

theorem few_spec (t : T) (hok : t.ok) : PCall Try.prog W0 8 [.agg t.enc] (.bool (few t)) := by
  have hlen := pcs_bd t 1000 (by omega)
  have hpc := pieces_spec (W0 := W0) t hok 1000 (by omega) (by omega)
  have hsz := size_spec (W0 := W0) t 400 (by omega) (by omega)
  unfold few
  generalize hl : pcs t 1000 = l at hlen hpc ⊢
  have hA := IsRow.rowV (l.map Pc.enc)
  generalize rowV (l.map Pc.enc) = A at hA hpc
  generalize hz : sz t 400 = z at hsz ⊢
  obtain ⟨k, s, nil, kids⟩ := t
  refine pcall2 cok Try.func8 F8d F8e F8c F8w F8r (fun N => ?_)
  refine ev2I_intro ?_
  simp (disch := first | omega | (simp only [List.length_set]; omega)) [F8s, T.enc_mk]
  refine hcallI_pure hpc (by simp [bareL, T.enc_mk]) (fun M hM => ?_)
  simp
  refine loop2I_ind cok F8l0w (m := fun i => l.length - i) (I := fun i ts loc τ => i ≤ l.length ∧ loc 0 = .box N 24 [[.int .i64 k, .str s, kidsV nil kids]] ∧ ts.length = 28 ∧ tmp ts 1 = .bp N 0 0 ∧ tmp ts 3 = A ∧ tmp ts 5 = .int .i64 i ∧ ∃ n : Int, tmp ts 4 = .int .i64 n ∧ 0 ≤ n ∧ n ≤ 20000 ∧ sums (l.drop i) n = sums l 0) ?_ 0 ?_
  · rintro i ts loc τ ⟨hi, h0, hts, h1, h3, h5, n, h4, hn0, hn1, hs'⟩ ih'
    simp (disch := first | omega | (simp only [List.length_set]; omega)) [F8l0, h0, h1, h3, h4, h5, hA.len, hts]
    by_cases hlt : i < l.length
    · obtain ⟨x, hx⟩ : ∃ x, l[i]? = some x := ⟨l[i], by simp [hlt]⟩
      have ha : (l.map Pc.enc)[i]? = some x.enc := by simp [hx]
      have hda : l.drop i = x :: l.drop (i + 1) := by
        rw [List.drop_eq_getElem_cons hlt]; congr 1; simpa [hlt] using hx
      rw [hda, sums] at hs'
      obtain ⟨xk, xs⟩ := x
      dsimp only at hs'
      simp (disch := first | omega | (simp only [List.length_set]; omega)) [hlt, h0, h1, h3, h4, h5, hA.len, hts, hA.elems, hA.at ha, hx, wrap_id]
      have hmin : (if 10000 < (xs.length : Int) then (10000 : Int) else xs.length) = min (xs.length : Int) 10000 := by split <;> omega
      rw [hmin]
      by_cases hbig : n + min (xs.length : Int) 10000 > 20000
      · rw [if_pos hbig] at hs'
        simp (disch := first | omega | (simp only [List.length_set]; omega)) [hbig, h0, h1, h3, h4, h5, hA.len, hts, hA.elems, hA.at ha, hx, wrap_id]
        rw [← hs']
        simp
      · rw [if_neg hbig] at hs'
        simp (disch := first | omega | (simp only [List.length_set]; omega)) [hbig, h0, h1, h3, h4, h5, hA.len, hts, hA.elems, hA.at ha, hx, wrap_id]
        refine ih' (i + 1) _ _ _ (by omega) ⟨by omega, h0, ?_, ?_, ?_, ?_, n + min (xs.length : Int) 10000, ?_, by omega, by omega, hs'⟩
        · simp [hts]
        · simp (disch := first | omega | (simp only [List.length_set]; omega)) [h1]
        · simp (disch := first | omega | (simp only [List.length_set]; omega)) [h3]
        · simp (disch := first | omega | (simp only [List.length_set]; omega)) [h5]
        · simp (disch := first | omega | (simp only [List.length_set]; omega)) [h4]
    · simp (disch := first | omega | (simp only [List.length_set]; omega)) [hlt, h0, h1, h3, h4, h5, hA.len, hts]
      rw [List.drop_of_length_le (by omega), sums] at hs'
      refine hcallI_pure hsz (by simp [bareL, T.enc_mk]) (fun M' hM2 => ?_)
      simp (disch := first | omega | (simp only [List.length_set]; omega)) [hlt, h0, h1, h3, h4, h5, hA.len, hts]
      rw [← hs']
      simp
  · simp
end Go.Proofs.Ytgahmpfpnclefaa.Lt
