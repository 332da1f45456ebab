/- chunk.Of. -/
import Derived.Test.YtbmkgpocnkiibaaChk13
namespace Go.Proofs.Ytbmkgpocnkiibaa.Lt
open Go.Proofs.YtbmkgpocnkiibaaW.Abs Go
set_option maxRecDepth 100000
set_option maxHeartbeats 4000000
set_option linter.unusedSimpArgs false
set_option linter.unusedVariables false
variable {W0 : World}

def ofR (b o t : List Int) (mo mt : List (Int × Int)) : AV :=
  if rightM b o (-1, -1) mo = true ∧ rightM b t (-1, -1) mt = true then .tup [rowV ((ofM b o t mo mt 0 0 0 0).map Ck.enc), .int .i64 0] else .tup [.nils, .int .i64 8]

theorem of_spec {b o t : List Int} {B O T : AV} (hB : IsRow B (ints b)) (hO : IsRow O (ints o)) (hT : IsRow T (ints t)) (hlb : b.length ≤ 1000000) (hlo : o.length ≤ 1000000) (hlt : t.length ≤ 1000000) {mo mt : List (Int × Int)} {MO MT : AV} (hMO : IsRow MO (prs mo)) (hMT : IsRow MT (prs mt)) (hlm : mo.length ≤ 140737488355328) (hln : mt.length ≤ 140737488355328) :
    PCall Try.prog W0 8 [B, O, T, MO, MT] (ofR b o t mo mt) := by
  refine pcall2 cok Try.func8 F8d F8e F8c F8w F8r (fun N => ?_)
  refine ev2I_intro ?_
  simp (disch := first | omega | (simp only [List.length_set]; omega)) [F8s, hB.cells, hB.one, hO.cells, hO.one, hT.cells, hT.one, upd_ne]
  refine hcallI_pure (right_spec b o mo hB hO hMO hlm) (by simp [bareL, hB.same (ints_bare b), hO.same (ints_bare o), hMO.same (prs_bare mo)]) (fun M1 hM1 => ?_)
  by_cases r1 : rightM b o (-1, -1) mo = true
  · simp (disch := first | omega | (simp only [List.length_set]; omega)) [r1, upd_ne]
    refine hcallI_pure (right_spec b t mt hB hT hMT hln) (by simp [bareL, hB.same (ints_bare b), hT.same (ints_bare t), hMT.same (prs_bare mt)]) (fun M hM => ?_)
    by_cases r2 : rightM b t (-1, -1) mt = true
    · simp (disch := first | omega | (simp only [List.length_set]; omega)) [r2, upd_ne, hMO.len]
      have hM' : N + 17 ≤ M := by dsimp only at hM hM1; omega
      clear hM hM1
      refine fill3 hMO hlm r1 (M + 2) (fun ts loc τ g0 g4 g5 g6 g7 g12 g13 gn gτ => ?_) _ _ _ (by rfl) (by rfl) (by rfl) (by rfl) (by rfl) (by rfl) (by rfl) (by rfl) (by rfl) (by rfl) (by dsimp only; omega) rfl (by simp [upd_ne])
      simp (disch := first | omega | (simp only [List.length_set]; omega)) [g0, g4, g5, g6, g7, g12, g13, hMT.len]
      refine fill2 (m1 := M + 1) hMT hln r2 (M + 2) (fun ts2 loc2 τ2 k0 k5 k6 k7 k12 k13 kn kτ => ?_) _ _ _ (by simp [g0]) (by simp (disch := first | omega | (simp only [List.length_set]; omega)) [g5]; rfl) (by simp (disch := first | omega | (simp only [List.length_set]; omega)) [g6]; rfl) (by simp (disch := first | omega | (simp only [List.length_set]; omega)) [g7]; rfl) (by simp (disch := first | omega | (simp only [List.length_set]; omega)) [g12]; rfl) (by simp (disch := first | omega | (simp only [List.length_set]; omega)) [g13]) (by simp (disch := first | omega | (simp only [List.length_set]; omega)) [g4]) (by simp (disch := first | omega | (simp only [List.length_set]; omega)) [g4]) (by simp (disch := first | omega | (simp only [List.length_set]; omega)) [g4]) (by dsimp only; omega) gτ (by simp [upd_ne])
      have kτ' : τ2.obj = upd (upd (upd (upd (upd (fun x => none) N (some (AObj.box 22 [[B]]))) (N + 1) (some (AObj.box 22 [[O]]))) (N + 2) (some (AObj.box 22 [[T]]))) M (some (.map (kvM mo)))) (M + 1) (some (.map (kvM mt))) := by
        rw [kτ]; funext q; simp only [upd]; split
        · rfl
        · split <;> simp_all
      clear kτ gτ
      simp (disch := first | omega | (simp only [List.length_set]; omega)) [k0, k5, k6, k7, k12, k13, kτ', upd_ne]
      have Ho : Good b o mo := ⟨r1⟩
      have Ht : Good b t mt := ⟨r2⟩
      refine main_loop hB hO hT hlb hlo hlt Ho Ht (I := ⟨N, N + 1, N + 2, M, M + 1, τ2.next, τ2.next + 1 + 1, 22, 22, 22, 25, 47⟩) (R := ofM b o t mo mt 0 0 0 0) (fun i x y z tok acc ts3 loc3 τ3 hi h => ?_) 0 [] 0 0 0 0 _ _ _ ?_
      · obtain ⟨hl, h5, h6, h7, h12, h13, h18, h19, h20, h21, H, hx, hi', hy, hz, ha, hn, hR⟩ := h
        dsimp only at h5 h6 h7 h12 h13 h18 h19 h20 h21 hx hi' hy hz hn
        rw [ofM_end (by omega)] at hR
        have e5 := H.fb; have e6 := H.fo; have e7 := H.ft; have e18 := H.fl
        dsimp only at e5 e6 e7 e18
        simp (disch := first | omega | (simp only [List.length_set]; omega)) [hl, h5, h6, h7, h18, h20, e5, e6, e7, hB.len, hO.len, hT.len]
        refine hcallI_use (between_spec (i := b.length) (j := o.length) (k := t.length) hB hO hT acc (by omega) (by omega) (by omega) (by omega) (by omega) (by omega) hlb hlo hlt H.fl H.fa H.fb H.fo H.ft H.ac
          (by have := H.lt.l; dsimp only at *; omega) (by have := H.lt.a; dsimp only at *; omega) (by have := H.lt.ib; dsimp only at *; omega) (by have := H.lt.io; dsimp only at *; omega) (by have := H.lt.it; dsimp only at *; omega) H.ne.al (fun e => by have := H.tk e; dsimp only at *; omega) (by omega)) (by simp [bareL]) ?_
        rintro _ τ4 hτn ⟨rfl, tok', fl, fa, ac, tk, keep⟩
        dsimp only at fl
        rw [hR] at fl
        simp (disch := first | omega | (simp only [List.length_set]; omega)) [hl, h18, fl]
        simp [ofR, r1, r2, Ck.enc, bareL]
        rfl
      · refine ⟨by simp [k0], by simp (disch := first | omega | (simp only [List.length_set]; omega)) [k5], by simp (disch := first | omega | (simp only [List.length_set]; omega)) [k6], by simp (disch := first | omega | (simp only [List.length_set]; omega)) [k7], by simp (disch := first | omega | (simp only [List.length_set]; omega)) [k12], by simp (disch := first | omega | (simp only [List.length_set]; omega)) [k13], by simp (disch := first | omega | (simp only [List.length_set]; omega)) [k12], by simp (disch := first | omega | (simp only [List.length_set]; omega)) [k12], by simp (disch := first | omega | (simp only [List.length_set]; omega)) [k12], by simp (disch := first | omega | (simp only [List.length_set]; omega)) [k12], ?_, by simp, by simp, by simp, by simp, fun i' _ => ⟨fun v hv => by have := (Ho.find hv).1; omega, fun v hv => by have := (Ht.find hv).1; omega⟩, by simp, rfl⟩
        refine ⟨by simp (disch := first | omega | (simp only [List.length_set]; omega)) [upd_ne], by simp (disch := first | omega | (simp only [List.length_set]; omega)) [upd_ne], by simp (disch := first | omega | (simp only [List.length_set]; omega)) [upd_ne], by simp (disch := first | omega | (simp only [List.length_set]; omega)) [upd_ne], by simp (disch := first | omega | (simp only [List.length_set]; omega)) [upd_ne], by simp (disch := first | omega | (simp only [List.length_set]; omega)) [upd_ne], by simp (disch := first | omega | (simp only [List.length_set]; omega)) [upd_ne], by simp [AccOk], ⟨?_, ?_, ?_, ?_, ?_, ?_, ?_⟩, ⟨?_, ?_, ?_, ?_, ?_, ?_, ?_, ?_, ?_, ?_, ?_⟩, fun h => absurd rfl h⟩
        all_goals (dsimp only; omega)
    · simp (disch := first | omega | (simp only [List.length_set]; omega)) [r2, ofR, r1]
  · simp (disch := first | omega | (simp only [List.length_set]; omega)) [r1, ofR]
end Go.Proofs.Ytbmkgpocnkiibaa.Lt
