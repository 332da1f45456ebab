/- chunk.Of: the maps are filled. -/
import Derived.Test.YtbmkgpocnkiibaaChk9
namespace Go.Proofs.Ytbmkgpocnkiibaa.Lt
open Go.Proofs.YtbmkgpocnkiibaaW.Abs Go
set_option maxRecDepth 100000
set_option maxHeartbeats 2000000
set_option linter.unusedSimpArgs false
set_option linter.unusedVariables false
variable {W0 : World}

theorem take_snoc' {α : Type} {l : List α} {i : Nat} {x : α} (h : l[i]? = some x) : l.take (i + 1) = l.take i ++ [x] := by
  rw [List.take_add_one, h]; rfl
theorem upd_upd_same (h : Hp) (i : Nat) (x y : Option AObj) : upd (upd h i x) i y = upd h i y := by
  funext q; simp only [upd]; split <;> rfl
theorem upd_id {h : Hp} {i : Nat} {x : Option AObj} (e : h i = x) : upd h i x = h := by
  funext q; simp only [upd]; split
  · subst_vars; rfl
  · rfl

theorem fill3 {K : KC2} {a b : List Int} {mo : List (Int × Int)} {MO : AV} (hMO : IsRow MO (prs mo)) (hml : mo.length ≤ 140737488355328) (hr : rightM a b (-1, -1) mo = true) {m1 : Nat} {h : Hp} (n0 : Nat) {v4 v5 v6 v7 v13 : AV}
    (hK : ∀ ts loc (τ : Heap), ts.length = 186 → tmp ts 4 = v4 → tmp ts 5 = v5 → tmp ts 6 = v6 → tmp ts 7 = v7 → tmp ts 12 = .mp m1 → tmp ts 13 = v13 → n0 ≤ τ.next → τ.obj = upd h m1 (some (.map (kvM mo))) → K.k (.exit 0) ts loc τ)
    (ts : List AV) (loc : Go.Proofs.YtbmkgpocnkiibaaW.Abs.Loc) (τ : Heap) (hl : ts.length = 186) (h4 : tmp ts 4 = v4) (h5 : tmp ts 5 = v5) (h6 : tmp ts 6 = v6) (h7 : tmp ts 7 = v7) (h12 : tmp ts 12 = .mp m1) (h13 : tmp ts 13 = v13) (h45 : tmp ts 45 = MO) (h46 : tmp ts 46 = .int .i64 mo.length) (h47 : tmp ts 47 = .int .i64 0)
    (hn0 : n0 ≤ τ.next) (hτ : τ.obj = h) (f1 : h m1 = some (.map [])) : loop2I Try.prog W0 C [] F8l3 ts loc τ := by
  refine loop2I_ind cok F8l3w (m := fun i => mo.length - i) (I := fun i ts loc τ => i ≤ mo.length ∧ ts.length = 186 ∧ tmp ts 4 = v4 ∧ tmp ts 5 = v5 ∧ tmp ts 6 = v6 ∧ tmp ts 7 = v7 ∧ tmp ts 12 = .mp m1 ∧ tmp ts 13 = v13 ∧ tmp ts 45 = MO ∧ tmp ts 46 = .int .i64 mo.length ∧ tmp ts 47 = .int .i64 i ∧
    n0 ≤ τ.next ∧ τ.obj = upd h m1 (some (.map (kvM (mo.take i))))) ?_ 0 ⟨by omega, hl, h4, h5, h6, h7, h12, h13, h45, h46, by simpa using h47, hn0, by rw [hτ]; exact (upd_id f1).symm⟩
  clear hl h4 h5 h6 h7 h12 h13 h45 h46 h47 hn0 hτ ts loc τ
  rintro i ts loc τ ⟨hi, hl, h4, h5, h6, h7, h12, h13, h45, h46, h47, hn0, hτ⟩ ih'
  simp (disch := first | omega | (simp only [List.length_set]; omega)) [F8l3, hl, h4, h5, h6, h7, h12, h13, h45, h46, h47, hτ]
  by_cases hlt : i < mo.length
  · obtain ⟨p, hp⟩ : ∃ p, mo[i]? = some p := ⟨mo[i], by simp [hlt]⟩
    have hpe := prs_at hp
    have hnew : findM (mo.take i) p.1 = none := findM_none fun x hx => by have := (right_take a b mo (-1, -1) hr i p hp x hx).1; omega
    simp (disch := first | omega | (simp only [List.length_set]; omega)) [hlt, hl, h4, h5, h6, h7, h12, h13, h45, h46, h47, hτ, hMO.elems, hMO.at hpe, hpe, mfind_some, mset_new hnew, upd_upd_same]
    refine ih' (i + 1) _ _ _ (by omega) ⟨by omega, ?_⟩
    simp (disch := first | omega | (simp only [List.length_set]; omega)) [hl, h4, h5, h6, h7, h12, h13, h45, h46, h47, wrap_id, take_snoc' hp]
    omega
  · simp (disch := first | omega | (simp only [List.length_set]; omega)) [hlt, hl, h4, h5, h6, h7, h12, h13, h45, h46, h47, hτ]
    rw [List.take_of_length_le (by omega)] at hτ
    exact hK _ _ _ (by simp [hl]) (by simp (disch := first | omega | (simp only [List.length_set]; omega)) [h4]) (by simp (disch := first | omega | (simp only [List.length_set]; omega)) [h5]) (by simp (disch := first | omega | (simp only [List.length_set]; omega)) [h6]) (by simp (disch := first | omega | (simp only [List.length_set]; omega)) [h7]) (by simp (disch := first | omega | (simp only [List.length_set]; omega)) [h12]) (by simp (disch := first | omega | (simp only [List.length_set]; omega)) [h13]) (by dsimp only; omega) (by first | rfl | exact hτ | (dsimp only; rw [List.take_of_length_le (by omega)]))
theorem fill2 {K : KC2} {a b : List Int} {mo : List (Int × Int)} {MO : AV} (hMO : IsRow MO (prs mo)) (hml : mo.length ≤ 140737488355328) (hr : rightM a b (-1, -1) mo = true) {m1 : Nat} {h : Hp} (n0 : Nat) {v5 v6 v7 v12 : AV}
    (hK : ∀ ts loc (τ : Heap), ts.length = 186 → tmp ts 5 = v5 → tmp ts 6 = v6 → tmp ts 7 = v7 → tmp ts 12 = v12 → tmp ts 13 = .mp m1 → n0 ≤ τ.next → τ.obj = upd h m1 (some (.map (kvM mo))) → K.k (.exit 2) ts loc τ)
    (ts : List AV) (loc : Go.Proofs.YtbmkgpocnkiibaaW.Abs.Loc) (τ : Heap) (hl : ts.length = 186) (h5 : tmp ts 5 = v5) (h6 : tmp ts 6 = v6) (h7 : tmp ts 7 = v7) (h12 : tmp ts 12 = v12) (h13 : tmp ts 13 = .mp m1) (h57 : tmp ts 57 = MO) (h58 : tmp ts 58 = .int .i64 mo.length) (h59 : tmp ts 59 = .int .i64 0)
    (hn0 : n0 ≤ τ.next) (hτ : τ.obj = h) (f1 : h m1 = some (.map [])) : loop2I Try.prog W0 C [] F8l2 ts loc τ := by
  refine loop2I_ind cok F8l2w (m := fun i => mo.length - i) (I := fun i ts loc τ => i ≤ mo.length ∧ ts.length = 186 ∧ tmp ts 5 = v5 ∧ tmp ts 6 = v6 ∧ tmp ts 7 = v7 ∧ tmp ts 12 = v12 ∧ tmp ts 13 = .mp m1 ∧ tmp ts 57 = MO ∧ tmp ts 58 = .int .i64 mo.length ∧ tmp ts 59 = .int .i64 i ∧
    n0 ≤ τ.next ∧ τ.obj = upd h m1 (some (.map (kvM (mo.take i))))) ?_ 0 ⟨by omega, hl, h5, h6, h7, h12, h13, h57, h58, by simpa using h59, hn0, by rw [hτ]; exact (upd_id f1).symm⟩
  clear hl h5 h6 h7 h12 h13 h57 h58 h59 hn0 hτ ts loc τ
  rintro i ts loc τ ⟨hi, hl, h5, h6, h7, h12, h13, h57, h58, h59, hn0, hτ⟩ ih'
  simp (disch := first | omega | (simp only [List.length_set]; omega)) [F8l2, hl, h5, h6, h7, h12, h13, h57, h58, h59, hτ]
  by_cases hlt : i < mo.length
  · obtain ⟨p, hp⟩ : ∃ p, mo[i]? = some p := ⟨mo[i], by simp [hlt]⟩
    have hpe := prs_at hp
    have hnew : findM (mo.take i) p.1 = none := findM_none fun x hx => by have := (right_take a b mo (-1, -1) hr i p hp x hx).1; omega
    simp (disch := first | omega | (simp only [List.length_set]; omega)) [hlt, hl, h5, h6, h7, h12, h13, h57, h58, h59, hτ, hMO.elems, hMO.at hpe, hpe, mfind_some, mset_new hnew, upd_upd_same]
    refine ih' (i + 1) _ _ _ (by omega) ⟨by omega, ?_⟩
    simp (disch := first | omega | (simp only [List.length_set]; omega)) [hl, h5, h6, h7, h12, h13, h57, h58, h59, wrap_id, take_snoc' hp]
    omega
  · simp (disch := first | omega | (simp only [List.length_set]; omega)) [hlt, hl, h5, h6, h7, h12, h13, h57, h58, h59, hτ]
    rw [List.take_of_length_le (by omega)] at hτ
    exact hK _ _ _ (by simp [hl]) (by simp (disch := first | omega | (simp only [List.length_set]; omega)) [h5]) (by simp (disch := first | omega | (simp only [List.length_set]; omega)) [h6]) (by simp (disch := first | omega | (simp only [List.length_set]; omega)) [h7]) (by simp (disch := first | omega | (simp only [List.length_set]; omega)) [h12]) (by simp (disch := first | omega | (simp only [List.length_set]; omega)) [h13]) (by dsimp only; omega) (by first | rfl | exact hτ | (dsimp only; rw [List.take_of_length_le (by omega)]))
end Go.Proofs.Ytbmkgpocnkiibaa.Lt
