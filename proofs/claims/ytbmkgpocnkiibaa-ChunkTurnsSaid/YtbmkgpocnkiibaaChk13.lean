/- chunk.Of: its loop. -/
import Derived.Test.YtbmkgpocnkiibaaChk12
namespace Go.Proofs.Ytbmkgpocnkiibaa.Lt
open Go.Proofs.YtbmkgpocnkiibaaW.Abs Go
set_option maxRecDepth 100000
set_option maxHeartbeats 4000000
set_option linter.unusedSimpArgs false
set_option linter.unusedVariables false
variable {W0 : World}

theorem betw_le (b o t : List Int) (x y z i j k : Nat) : (betw b o t x y z i j k).length ≤ 1 := by unfold betw; split <;> simp

structure MS (b o t : List Int) (mo mt : List (Int × Int)) (I : Ids) (B O T : AV) (R : List Ck) (i x y z tok : Nat) (acc : List Ck) (ts : List AV) (τ : Heap) : Prop where
  hl : ts.length = 186
  h5 : tmp ts 5 = .bp I.ib 0 0
  h6 : tmp ts 6 = .bp I.io 0 0
  h7 : tmp ts 7 = .bp I.it 0 0
  h12 : tmp ts 12 = .mp I.m1
  h13 : tmp ts 13 = .mp I.m2
  h18 : tmp ts 18 = .bp I.l 0 0
  h19 : tmp ts 19 = .bp I.a 0 0
  h20 : tmp ts 20 = .fn (.func 16) [] [.bp I.a 0 0, .bp I.l 0 0, .bp I.ib 0 0, .bp I.io 0 0, .bp I.it 0 0]
  h21 : tmp ts 21 = .int .i64 i
  H : OH τ.obj τ.next B O T mo mt I tok acc x y z
  hx : x ≤ i
  hi : i ≤ b.length
  hy : y ≤ o.length
  hz : z ≤ t.length
  ha : Ahead mo mt i y z
  hn : acc.length ≤ 2 * i
  hR : acc ++ ofM b o t mo mt i x y z = R

theorem main_loop {K : KC2} {b o t : List Int} {B O T : AV} (hB : IsRow B (ints b)) (hO : IsRow O (ints o)) (hT : IsRow T (ints t)) (hlb : b.length ≤ 1000000) (hlo : o.length ≤ 1000000) (hlt : t.length ≤ 1000000) {mo mt : List (Int × Int)} (Ho : Good b o mo) (Ht : Good b t mt) {I : Ids} {R : List Ck}
    (hK : ∀ i x y z tok acc ts loc τ, i = b.length → MS b o t mo mt I B O T R i x y z tok acc ts τ → K.k (.exit 4) ts loc τ)
    (tok : Nat) (acc : List Ck) (x y z i : Nat) (ts : List AV) (loc : Go.Proofs.YtbmkgpocnkiibaaW.Abs.Loc) (τ : Heap) (h : MS b o t mo mt I B O T R i x y z tok acc ts τ) : loop2I Try.prog W0 C [] F8l1 ts loc τ := by
  refine loop2I_ind cok F8l1w (α := Nat × Nat × Nat × Nat × Nat × List Ck) (m := fun p => b.length - p.1) (I := fun p ts loc τ => MS b o t mo mt I B O T R p.1 p.2.1 p.2.2.1 p.2.2.2.1 p.2.2.2.2.1 p.2.2.2.2.2 ts τ) ?_ (i, x, y, z, tok, acc) h
  clear h ts loc τ tok acc x y z i
  rintro ⟨i, x, y, z, tok, acc⟩ ts loc τ h ih'
  obtain ⟨hl, h5, h6, h7, h12, h13, h18, h19, h20, h21, H, hx, hi, hy, hz, ha, hn, hR⟩ := h
  dsimp only at hl h5 h6 h7 h12 h13 h18 h19 h20 h21 H hx hi hy hz ha hn hR ih'
  simp (disch := first | omega | (simp only [List.length_set]; omega)) [F8l1, hl, h5, h21, H.fb, hB.len]
  by_cases hlt' : i < b.length
  · simp (disch := first | omega | (simp only [List.length_set]; omega)) [hlt', hl, h5, h12, h13, h21, H.f1, H.f2, mfind_some, look_kv]
    have skip : ∀ (e : ofM b o t mo mt i x y z = ofM b o t mo mt (i + 1) x y z) (ts' : List AV) (loc : Go.Proofs.YtbmkgpocnkiibaaW.Abs.Loc) (n : Nat), τ.next ≤ n → ts'.length = 186 → tmp ts' 5 = tmp ts 5 → tmp ts' 6 = tmp ts 6 → tmp ts' 7 = tmp ts 7 → tmp ts' 12 = tmp ts 12 → tmp ts' 13 = tmp ts 13 →
        tmp ts' 18 = tmp ts 18 → tmp ts' 19 = tmp ts 19 → tmp ts' 20 = tmp ts 20 → tmp ts' 21 = .int .i64 ((i + 1 : Nat) : Int) → loop2I Try.prog W0 C [] F8l1 ts' loc ⟨n, τ.obj⟩ := by
      intro e ts' loc n hn' g0 g5 g6 g7 g12 g13 g18 g19 g20 g21
      refine ih' (i + 1, x, y, z, tok, acc) _ _ _ (by simp only; omega) ⟨g0, g5.trans h5, g6.trans h6, g7.trans h7, g12.trans h12, g13.trans h13, g18.trans h18, g19.trans h19, g20.trans h20, g21, H.mono hn', by simp only; omega, by simp only; omega, hy, hz, fun i' q => ha i' (by simp only at q; omega), by simp only; omega, ?_⟩
      rw [← e]; exact hR
    cases e1 : findM mo i with
    | none =>
      simp (disch := first | omega | (simp only [List.length_set]; omega)) [hl, h5, h12, h13, h21, e1]
      refine skip (ofM_skip1 hlt' e1) _ _ _ (by omega) ?_ ?_ ?_ ?_ ?_ ?_ ?_ ?_ ?_ ?_
      all_goals simp (disch := first | omega | (simp only [List.length_set]; omega)) [hl, h21, wrap_id]
    | some v =>
      cases e2 : findM mt i with
      | none =>
        simp (disch := first | omega | (simp only [List.length_set]; omega)) [hl, h5, h12, h13, h21, e1, e2]
        refine skip (ofM_skip2 hlt' e2) _ _ _ (by omega) ?_ ?_ ?_ ?_ ?_ ?_ ?_ ?_ ?_ ?_
        all_goals simp (disch := first | omega | (simp only [List.length_set]; omega)) [hl, h21, wrap_id]
      | some w =>
        have f1 := Ho.find e1
        have f2 := Ht.find e2
        obtain ⟨j, rfl⟩ : ∃ j : Nat, v = j := ⟨v.toNat, by omega⟩
        obtain ⟨k, rfl⟩ : ∃ k : Nat, w = k := ⟨w.toNat, by omega⟩
        have hay := (ha i (Nat.le_refl _)).1 _ e1
        have haz := (ha i (Nat.le_refl _)).2 _ e2
        rw [ofM_run hlt' e1 e2] at hR
        simp (disch := first | omega | (simp only [List.length_set]; omega)) [hl, h5, h12, h13, h20, h21, e1, e2]
        refine hcallI_use (between_spec (i := i) (j := j) (k := k) hB hO hT acc hx (by omega) (by omega) (by omega) (by omega) (by omega) hlb hlo hlt H.fl H.fa H.fb H.fo H.ft H.ac
          (by have := H.lt.l; dsimp only; omega) (by have := H.lt.a; dsimp only; omega) (by have := H.lt.ib; dsimp only; omega) (by have := H.lt.io; dsimp only; omega) (by have := H.lt.it; dsimp only; omega) H.ne.al (fun e => by have := H.tk e; dsimp only; omega) (by omega)) (by simp [bareL]) ?_
        rintro _ τ' hτn ⟨rfl, tok', fl, fa, ac, tk, keep⟩
        have H' : OH τ'.obj τ'.next B O T mo mt I tok' (acc ++ betw b o t x y z i j k) i j k := H.next (by dsimp only at hτn; omega) fl fa ac tk (fun q v h0 => keep q v (by dsimp only; omega))
        have hlen : (acc ++ betw b o t x y z i j k).length ≤ 2 * i + 1 := by have := betw_le b o t x y z i j k; simp; omega
        clear keep fl fa ac tk H
        have hn1 := runLen_ge b.length mo mt i j k 1
        obtain ⟨_, n2, n3, n4, _, _⟩ := run_facts Ho Ht e1 e2
        have nst := runLen_all b.length mo mt i j k 1
        have hR' : (acc ++ betw b o t x y z i j k ++ [⟨1, i, i + runLen b.length mo mt i j k 1, j, j + runLen b.length mo mt i j k 1, k, k + runLen b.length mo mt i j k 1⟩]) ++
          ofM b o t mo mt (i + runLen b.length mo mt i j k 1) (i + runLen b.length mo mt i j k 1) (j + runLen b.length mo mt i j k 1) (k + runLen b.length mo mt i j k 1) = R := by rw [← hR]; simp
        clear hR
        generalize acc ++ betw b o t x y z i j k = acc' at *
        simp (disch := first | omega | (simp only [List.length_set]; omega)) [hl, h5, h12, h13, h20, h21, e1, e2]
        refine run_loop hB hlb mo mt τ'.next _ i j k (by omega) (by omega) H'.fb H'.f1 H'.f2 (fun ts2 τ2 g0 g5 g6 g7 g12 g13 g18 g19 g20 g21 g22 g24 g26 gn gτ => ?_) _ _ (by simp [hl]) (by simp (disch := first | omega | (simp only [List.length_set]; omega)) [hl, h5]) (by simp (disch := first | omega | (simp only [List.length_set]; omega)) [hl, h6]; rfl) (by simp (disch := first | omega | (simp only [List.length_set]; omega)) [hl, h7]; rfl) (by simp (disch := first | omega | (simp only [List.length_set]; omega)) [hl, h12]) (by simp (disch := first | omega | (simp only [List.length_set]; omega)) [hl, h13]) (by simp (disch := first | omega | (simp only [List.length_set]; omega)) [hl, h18]; rfl) (by simp (disch := first | omega | (simp only [List.length_set]; omega)) [hl, h19]; rfl) (by simp (disch := first | omega | (simp only [List.length_set]; omega)) [hl, h20]; rfl) (by simp (disch := first | omega | (simp only [List.length_set]; omega)) [hl, h21]) (by simp (disch := first | omega | (simp only [List.length_set]; omega)) [hl]) (by simp (disch := first | omega | (simp only [List.length_set]; omega)) [hl]) (by simp (disch := first | omega | (simp only [List.length_set]; omega)) [hl]) (by simp) rfl hlt'
        generalize runLen b.length mo mt i j k 1 = n at *
        have hal := H'.ne.al
        simp (disch := first | omega | (simp only [List.length_set]; omega)) [g0, g5, g6, g7, g12, g13, g18, g19, g20, g21, g22, g24, g26, gτ, H'.fa, H'.fl, upd_ne, H'.ne.al, H'.ne.al.symm, wrap_id]
        clear hK skip
        refine andI_intro (by rw [appOk_acc (H'.acOk _)]; simp; omega) ?_
        simp (disch := first | omega | (simp only [List.length_set]; omega)) [g0, g5, g6, g7, g12, g13, g18, g19, g20, g21, g22, g24, g26, gτ, H'.fa, H'.fl, upd_ne, H'.ne.al, H'.ne.al.symm, wrap_id]
        have hpush := fun m (hm : τ2.next + 11 + 18 < m) => H'.push (m := m) ⟨1, i, i + n, j, j + n, k, k + n⟩ (e := [AV.int .i64 1, .int .i64 i, .int .i64 ((i : Int) + n), .int .i64 j, .int .i64 ((j : Int) + n), .int .i64 k, .int .i64 ((k : Int) + n)]) (by simp [Ck.enc]) (id := τ2.next + 11 + 18) (ty := 33) (by omega) hm (i + n) (j + n) (k + n) (A := [.int .i64 ((i : Int) + n), .int .i64 ((j : Int) + n), .int .i64 ((k : Int) + n)]) (by simp)
        simp (disch := first | omega | (simp only [List.length_set]; omega)) [g0, g5, g6, g7, g12, g13, g18, g19, g20, g21, g22, g24, g26, gτ, (hpush _ (Nat.lt_succ_self _)).1, wrap_id]
        refine ih' (i + n, i + n, j + n, k + n, τ2.next + 11 + 18, acc' ++ [⟨1, i, i + n, j, j + n, k, k + n⟩]) _ _ _ (by simp only; omega) ⟨by simp [g0], by simp (disch := first | omega | (simp only [List.length_set]; omega)) [g5], by simp (disch := first | omega | (simp only [List.length_set]; omega)) [g6], by simp (disch := first | omega | (simp only [List.length_set]; omega)) [g7], by simp (disch := first | omega | (simp only [List.length_set]; omega)) [g12], by simp (disch := first | omega | (simp only [List.length_set]; omega)) [g13], by simp (disch := first | omega | (simp only [List.length_set]; omega)) [g18], by simp (disch := first | omega | (simp only [List.length_set]; omega)) [g19], by simp (disch := first | omega | (simp only [List.length_set]; omega)) [g20], ?_, by first | exact (hpush _ (by omega)).2 | exact (hpush _ (by dsimp only; omega)).2, by simp only; omega, by simp only; omega, by simp only; omega, by simp only; omega, ?_, by simp; omega, hR'⟩
        · simp (disch := first | omega | (simp only [List.length_set]; omega)) [wrap_id]
          omega
        · intro i' h
          have m1 : findM mo (i + (n - 1) : Nat) = some ((j + (n - 1) : Nat) : Int) ∧ findM mt (i + (n - 1) : Nat) = some ((k + (n - 1) : Nat) : Int) := by
            by_cases h0 : n - 1 = 0
            · rw [h0]; exact ⟨by simpa using e1, by simpa using e2⟩
            · exact nst (n - 1) (by omega) (by omega)
          simp only at h
          refine ⟨fun v hv => ?_, fun v hv => ?_⟩
          · have := Ho.mono m1.1 hv (by omega); simp only; omega
          · have := Ht.mono m1.2 hv (by omega); simp only; omega
  · simp (disch := first | omega | (simp only [List.length_set]; omega)) [hlt', hl, h5, h21]
    exact hK i x y z tok acc _ _ _ (by omega) ⟨by simp [hl], by simp (disch := first | omega | (simp only [List.length_set]; omega)) [h5], by simp (disch := first | omega | (simp only [List.length_set]; omega)) [h6], by simp (disch := first | omega | (simp only [List.length_set]; omega)) [h7], by simp (disch := first | omega | (simp only [List.length_set]; omega)) [h12], by simp (disch := first | omega | (simp only [List.length_set]; omega)) [h13], by simp (disch := first | omega | (simp only [List.length_set]; omega)) [h18], by simp (disch := first | omega | (simp only [List.length_set]; omega)) [h19], by simp (disch := first | omega | (simp only [List.length_set]; omega)) [h20], by simp (disch := first | omega | (simp only [List.length_set]; omega)) [h21], H.mono (by dsimp only; omega), hx, hi, hy, hz, ha, hn, hR⟩
end Go.Proofs.Ytbmkgpocnkiibaa.Lt
