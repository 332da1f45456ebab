/- The law of the chunks that are all of each row: the whole. -/
import Derived.Test.YtbmkgpocnkiibaaChk17
namespace Go.Proofs.Ytbmkgpocnkiibaa.Lt
open Go.Proofs.YtbmkgpocnkiibaaW.Abs Go
set_option maxRecDepth 100000
set_option maxHeartbeats 4000000
set_option linter.unusedSimpArgs false
set_option linter.unusedVariables false
variable {W0 : World}

theorem cov_len (b o t : List Int) : ∀ (L : List Ck) (q : Option Int) (i j k : Nat), Cov b o t q i j k L → i ≤ b.length → j ≤ o.length → k ≤ t.length → L.length ≤ (b.length - i) + (o.length - j) + (t.length - k)
  | [], q, i, j, k, h, _, _, _ => by simp
  | c :: r, q, i, j, k, h, _, _, _ => by
    obtain ⟨e0, e1, e2, b1, b2, b3, ne, l1, l2, l3, s1, s5, run, alt, hc'⟩ := h
    have := cov_len b o t r (some c.s) c.b1 c.o1 c.t1 hc' l1 l2 l3
    simp only [List.length_cons]; omega

theorem chunkCovers_spec (x : List Int) {X : AV} (hX : IsRow X (ints x)) (_ : ∀ v ∈ x, (Lit.int .i64 v).wf = true) (_ : x.length * 8 ≤ 140737488351232) (y : List Int) {Y : AV} (hY : IsRow Y (ints y)) (_ : ∀ v ∈ y, (Lit.int .i64 v).wf = true) (_ : y.length * 8 ≤ 140737488351232)
    (z : List Int) {Z : AV} (hZ : IsRow Z (ints z)) (_ : ∀ v ∈ z, (Lit.int .i64 v).wf = true) (_ : z.length * 8 ≤ 140737488351232)
    (mo : List (Int × Int)) {MO : AV} (hMO : IsRow MO (prs mo)) (_ : ∀ v ∈ mo, (Lit.int .i64 v.1).wf = true ∧ (Lit.int .i64 v.2).wf = true) (_ : mo.length * 16 ≤ 140737488351232)
    (mt : List (Int × Int)) {MT : AV} (hMT : IsRow MT (prs mt)) (_ : ∀ v ∈ mt, (Lit.int .i64 v.1).wf = true ∧ (Lit.int .i64 v.2).wf = true) (_ : mt.length * 16 ≤ 140737488351232) :
    PCall Try.prog W0 3 [X, Y, Z, MO, MT] (.bool true) := by
  refine pcall2 cok Try.func3 F3d F3e F3c F3w F3r (fun N => ?_)
  refine ev2I_intro ?_
  simp (disch := first | omega | (simp only [List.length_set]; omega)) [F3s]
  refine hcallI_pure (few_spec x hX) (by simp [bareL, hX.same (ints_bare x)]) (fun M hM => ?_)
  simp (disch := first | omega | (simp only [List.length_set]; omega)) []
  refine hcallI_pure (few_spec y hY) (by simp [bareL, hY.same (ints_bare y)]) (fun M hM => ?_)
  simp (disch := first | omega | (simp only [List.length_set]; omega)) []
  refine hcallI_pure (few_spec z hZ) (by simp [bareL, hZ.same (ints_bare z)]) (fun M hM => ?_)
  have hlb := fewL_len x
  have hlo := fewL_len y
  have hlt := fewL_len z
  have hB := IsRow.rowV (ints (fewL x))
  have hO := IsRow.rowV (ints (fewL y))
  have hT := IsRow.rowV (ints (fewL z))
  generalize fewL x = b at *
  generalize fewL y = o at *
  generalize fewL z = t at *
  have bB := hB.same (ints_bare b)
  have bO := hO.same (ints_bare o)
  have bT := hT.same (ints_bare t)
  generalize rowV (ints b) = B at *
  generalize rowV (ints o) = O at *
  generalize rowV (ints t) = T at *
  simp (disch := first | omega | (simp only [List.length_set]; omega)) []
  refine hcallI_pure (pairs_spec b o mo hB hO hMO) (by simp [bareL, bB, bO, hMO.same (prs_bare mo)]) (fun M hM => ?_)
  simp (disch := first | omega | (simp only [List.length_set]; omega)) []
  refine hcallI_pure (pairs_spec b t mt hB hT hMT) (by simp [bareL, bB, bT, hMT.same (prs_bare mt)]) (fun M hM => ?_)
  have hp := pairs_len b o mo
  have hq := pairs_len b t mt
  have Ho := pairs_good b o (mo.take 100)
  have Ht := pairs_good b t (mt.take 100)
  generalize pairsF b o [] (mo.take 100) = p at *
  generalize pairsF b t [] (mt.take 100) = q at *
  simp (disch := first | omega | (simp only [List.length_set]; omega)) []
  refine hcallI_pure (of_spec hB hO hT (by omega) (by omega) (by omega) (IsRow.rowV (prs p)) (IsRow.rowV (prs q)) (by omega) (by omega)) (by simp [bareL, bB, bO, bT]) (fun M hM => ?_)
  have hcov := cov_all Ho Ht
  have hLn := cov_len b o t _ _ _ _ _ hcov (by omega) (by omega) (by omega)
  simp (disch := first | omega | (simp only [List.length_set]; omega)) [ofR, Ho.r, Ht.r]
  refine hcallI_pure known_spec (by simp) (fun M hM => ?_)
  simp (disch := first | omega | (simp only [List.length_set]; omega)) []
  refine covers_loop hB hO hT (IsRow.rowV _) hlb hlo hlt (by omega) (fun ts loc τ hl h11 h12 h13 h16 h17 h18 => ?_) _ _ _ (by rfl) (by rfl) (by rfl) (by rfl) (by rfl) (by rfl) (by rfl) (by rfl) (by rfl) hcov
  simp (disch := first | omega | (simp only [List.length_set]; omega)) [hl, h11, h12, h13, h16, h17, h18, hB.len, hO.len, hT.len]
end Go.Proofs.Ytbmkgpocnkiibaa.Lt
