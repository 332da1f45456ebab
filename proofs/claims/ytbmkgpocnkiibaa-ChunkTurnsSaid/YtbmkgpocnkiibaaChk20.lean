/- The law of the other way round: the whole. -/
import Derived.Test.YtbmkgpocnkiibaaChk19
namespace Go.Proofs.Ytbmkgpocnkiibaa.Lt
open Go.Proofs.YtbmkgpocnkiibaaW.Abs Go
set_option maxRecDepth 100000
set_option maxHeartbeats 4000000
set_option linter.unusedSimpArgs false
set_option linter.unusedVariables false
variable {W0 : World}

theorem cov_s (b o t : List Int) : ∀ (L : List Ck) (q : Option Int) (i j k : Nat), Cov b o t q i j k L → ∀ c ∈ L, 1 ≤ c.s ∧ c.s ≤ 5
  | [], q, i, j, k, h, c, hc => by cases hc
  | d :: r, q, i, j, k, h, c, hc => by
    obtain ⟨e0, e1, e2, b1, b2, b3, ne, l1, l2, l3, s1, s5, run, alt, hc'⟩ := h
    rcases List.mem_cons.1 hc with rfl | hc
    · exact ⟨s1, s5⟩
    · exact cov_s b o t r _ _ _ _ hc' c hc

theorem chunkTurns_spec (x : List Int) {X : AV} (hX : IsRow X (ints x)) (_ : ∀ v ∈ x, (Lit.int .i64 v).wf = true) (_ : x.length * 8 ≤ 140737488351232) (y : List Int) {Y : AV} (hY : IsRow Y (ints y)) (_ : ∀ v ∈ y, (Lit.int .i64 v).wf = true) (_ : y.length * 8 ≤ 140737488351232)
    (z : List Int) {Z : AV} (hZ : IsRow Z (ints z)) (_ : ∀ v ∈ z, (Lit.int .i64 v).wf = true) (_ : z.length * 8 ≤ 140737488351232)
    (mo : List (Int × Int)) {MO : AV} (hMO : IsRow MO (prs mo)) (_ : ∀ v ∈ mo, (Lit.int .i64 v.1).wf = true ∧ (Lit.int .i64 v.2).wf = true) (_ : mo.length * 16 ≤ 140737488351232)
    (mt : List (Int × Int)) {MT : AV} (hMT : IsRow MT (prs mt)) (_ : ∀ v ∈ mt, (Lit.int .i64 v.1).wf = true ∧ (Lit.int .i64 v.2).wf = true) (_ : mt.length * 16 ≤ 140737488351232) :
    PCall Try.prog W0 4 [X, Y, Z, MO, MT] (.bool true) := by
  refine pcall2 cok Try.func4 F4d F4e F4c F4w F4r (fun N => ?_)
  refine ev2I_intro ?_
  simp (disch := first | omega | (simp only [List.length_set]; omega)) [F4s]
  refine hcallI_pure (few_spec x hX) (by simp [bareL, hX.same (ints_bare x)]) (fun M hM => ?_)
  simp (disch := first | omega | (simp only [List.length_set]; omega)) []
  refine hcallI_pure (few_spec y hY) (by simp [bareL, hY.same (ints_bare y)]) (fun M hM => ?_)
  simp (disch := first | omega | (simp only [List.length_set]; omega)) []
  refine hcallI_pure (few_spec z hZ) (by simp [bareL, hZ.same (ints_bare z)]) (fun M hM => ?_)
  have hlb := fewL_len x
  have hlo := fewL_len y
  have hlt := fewL_len z
  have hB := IsRow.rowV (ints (fewL x))
  have hO := IsRow.rowV (ints (fewL y))
  have hT := IsRow.rowV (ints (fewL z))
  generalize fewL x = b at *
  generalize fewL y = o at *
  generalize fewL z = t at *
  have bB := hB.same (ints_bare b)
  have bO := hO.same (ints_bare o)
  have bT := hT.same (ints_bare t)
  generalize rowV (ints b) = B at *
  generalize rowV (ints o) = O at *
  generalize rowV (ints t) = T at *
  simp (disch := first | omega | (simp only [List.length_set]; omega)) []
  refine hcallI_pure (pairs_spec b o mo hB hO hMO) (by simp [bareL, bB, bO, hMO.same (prs_bare mo)]) (fun M hM => ?_)
  simp (disch := first | omega | (simp only [List.length_set]; omega)) []
  refine hcallI_pure (pairs_spec b t mt hB hT hMT) (by simp [bareL, bB, bT, hMT.same (prs_bare mt)]) (fun M hM => ?_)
  have hp := pairs_len b o mo
  have hq := pairs_len b t mt
  have Ho := pairs_good b o (mo.take 100)
  have Ht := pairs_good b t (mt.take 100)
  generalize pairsF b o [] (mo.take 100) = p at *
  generalize pairsF b t [] (mt.take 100) = q at *
  have hP := IsRow.rowV (prs p)
  have hQ := IsRow.rowV (prs q)
  have bP := hP.same (prs_bare p)
  have bQ := hQ.same (prs_bare q)
  generalize rowV (prs p) = PV at *
  generalize rowV (prs q) = QV at *
  simp (disch := first | omega | (simp only [List.length_set]; omega)) []
  refine hcallI_pure (of_spec hB hO hT (by omega) (by omega) (by omega) hP hQ (by omega) (by omega)) (by simp [bareL, bB, bO, bT, bP, bQ]) (fun M hM => ?_)
  have hcov := cov_all Ho Ht
  have hLn := cov_len b o t _ _ _ _ _ hcov (by omega) (by omega) (by omega)
  have hs := cov_s b o t _ _ _ _ _ hcov
  simp (disch := first | omega | (simp only [List.length_set]; omega)) [ofR, Ho.r, Ht.r]
  refine hcallI_pure (of_spec hB hT hO (by omega) (by omega) (by omega) hQ hP (by omega) (by omega)) (by simp [bareL, bB, bO, bT, bP, bQ]) (fun M hM => ?_)
  simp (disch := first | omega | (simp only [List.length_set]; omega)) [ofR, Ho.r, Ht.r]
  rw [ofM_turn Ho Ht 0 0 0 0]
  generalize ofM b o t p q 0 0 0 0 = L at *
  refine hcallI_pure known_spec (by simp) (fun M hM => ?_)
  simp (disch := first | omega | (simp only [List.length_set]; omega)) [(IsRow.rowV (L.map Ck.enc)).len, (IsRow.rowV ((L.map Ck.turn).map Ck.enc)).len]
  refine turns_loop (IsRow.rowV _) (IsRow.rowV _) (by omega) hs (v11 := B) (v13 := T) (v15 := QV) (fun ts loc τ hl h11 h13 h15 => ?_) _ _ _ (by rfl) (by rfl) (by rfl) (by rfl) (by rfl) (by simp) (by rfl)
  simp (disch := first | omega | (simp only [List.length_set]; omega)) [hl, h11, h13, h15]
  refine own_loop hB hlb (v13 := T) (v15 := QV) (fun ts loc τ tok hl h11 h13 h15 h22 => ?_) _ _ _ (by simp [hl]) (by simp (disch := first | omega | (simp only [List.length_set]; omega)) [h11]) (by simp (disch := first | omega | (simp only [List.length_set]; omega)) [h13]) (by simp (disch := first | omega | (simp only [List.length_set]; omega)) [h15]) (by simp (disch := first | omega | (simp only [List.length_set]; omega)) [hl]) (by simp (disch := first | omega | (simp only [List.length_set]; omega)) [hl])
  simp (disch := first | omega | (simp only [List.length_set]; omega)) [hl, h11, h13, h15, h22]
  have hr := own_right b
  have hap := acc_bare (prs (ownP b.length)) tok (prs_bare _)
  refine hcallI_pure (of_spec hB hB hT (by omega) (by omega) (by omega) (IsRow.rowV (prs (ownP b.length))) hQ (by rw [ownP_len]; omega) (by omega)) (by simp [bareL, bB, bO, bT, bP, bQ, hap]) (fun M hM => ?_)
  have hcov2 := cov_all hr Ht
  have hLn2 := cov_len b b t _ _ _ _ _ hcov2 (by omega) (by omega) (by omega)
  have hs2 := own_sorts Ht 0 0 0 (by omega)
  simp (disch := first | omega | (simp only [List.length_set]; omega)) [ofR, hr.r, Ht.r, hl, h11, h13, h15, h22]
  refine sorts_loop (IsRow.rowV _) (by omega) hs2 (v25 := .int .i64 0) (fun ts loc τ hl h25 => ?_) _ _ _ (by simp [hl]) (by simp (disch := first | omega | (simp only [List.length_set]; omega)) [hl]) (by simp (disch := first | omega | (simp only [List.length_set]; omega)) [hl]) (by simp (disch := first | omega | (simp only [List.length_set]; omega)) [hl])
  simp (disch := first | omega | (simp only [List.length_set]; omega)) [hl, h25]
end Go.Proofs.Ytbmkgpocnkiibaa.Lt
