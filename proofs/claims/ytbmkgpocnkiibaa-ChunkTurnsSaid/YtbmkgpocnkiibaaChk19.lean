/- The law of the other way round. -/
import Derived.Test.YtbmkgpocnkiibaaChk18
namespace Go.Proofs.Ytbmkgpocnkiibaa.Lt
open Go.Proofs.YtbmkgpocnkiibaaW.Abs Go
set_option maxRecDepth 100000
set_option maxHeartbeats 4000000
set_option linter.unusedSimpArgs false
set_option linter.unusedVariables false
variable {W0 : World}

theorem turns_loop {K : KC2} {L : List Ck} {LV MV : AV} (hL : IsRow LV (L.map Ck.enc)) (hM : IsRow MV ((L.map Ck.turn).map Ck.enc)) (hLn : L.length ≤ 1000000) (hs : ∀ c ∈ L, 1 ≤ c.s ∧ c.s ≤ 5) {v11 v13 v15 : AV}
    (hK : ∀ ts loc τ, ts.length = 184 → tmp ts 11 = v11 → tmp ts 13 = v13 → tmp ts 15 = v15 → K.k (.exit 0) ts loc τ)
    (ts : List AV) (loc : Go.Proofs.YtbmkgpocnkiibaaW.Abs.Loc) (τ : Heap) (hl : ts.length = 184) (h11 : tmp ts 11 = v11) (h13 : tmp ts 13 = v13) (h15 : tmp ts 15 = v15) (h16 : tmp ts 16 = LV) (h18 : tmp ts 18 = MV) (h20 : tmp ts 20 = .int .i64 0) : loop2I Try.prog W0 C [] F4l2 ts loc τ := by
  refine loop2I_ind cok F4l2w (m := fun n => L.length - n) (I := fun n ts loc τ => n ≤ L.length ∧ ts.length = 184 ∧ tmp ts 11 = v11 ∧ tmp ts 13 = v13 ∧ tmp ts 15 = v15 ∧ tmp ts 16 = LV ∧ tmp ts 18 = MV ∧ tmp ts 20 = .int .i64 n) ?_ 0 ⟨by omega, hl, h11, h13, h15, h16, h18, by simpa using h20⟩
  clear hl h11 h13 h15 h16 h18 h20 ts loc τ
  rintro n ts loc τ ⟨hn, hl, h11, h13, h15, h16, h18, h20⟩ ih'
  simp (disch := first | omega | (simp only [List.length_set]; omega)) [F4l2, hl, h16, h20, hL.len]
  by_cases hlt' : n < L.length
  · obtain ⟨c, hcn⟩ : ∃ c, L[n]? = some c := ⟨L[n], by simp [hlt']⟩
    have hce := cks_at hcn
    have hde : ((L.map Ck.turn).map Ck.enc)[n]? = some c.turn.enc := by simp [hcn]
    have hcs := hs c (List.mem_of_getElem? hcn)
    obtain ⟨s, x0, x1, y0, y1, z0, z1⟩ := c
    dsimp only at hcs
    simp (disch := first | omega | (simp only [List.length_set]; omega)) [hlt', hl, h16, h18, h20, hL.elems, hL.chk, hL.at hce, hM.elems, hM.chk, hM.at hde, hce, hde, Ck.enc, Ck.turn]
    have go : ∀ (ts' : List AV) (loc : Go.Proofs.YtbmkgpocnkiibaaW.Abs.Loc) (τ : Heap), ts'.length = 184 → tmp ts' 11 = tmp ts 11 → tmp ts' 13 = tmp ts 13 → tmp ts' 15 = tmp ts 15 → tmp ts' 16 = tmp ts 16 → tmp ts' 18 = tmp ts 18 → tmp ts' 20 = .int .i64 ((n + 1 : Nat) : Int) →
        loop2I Try.prog W0 C [] F4l2 ts' loc τ := by
      intro ts' loc τ f0 f11 f13 f15 f16 f18 f20
      exact ih' (n + 1) _ _ _ (by omega) ⟨by omega, f0, f11.trans h11, f13.trans h13, f15.trans h15, f16.trans h16, f18.trans h18, f20⟩
    have t2 : turnS 2 = 3 := rfl
    have t3 : turnS 3 = 2 := rfl
    have tn : s ≠ 2 → s ≠ 3 → turnS s = s := fun h2 h3 => by unfold turnS; rw [if_neg (by omega)]
    by_cases hs2 : s = 2
    · subst hs2
      simp (disch := first | omega | (simp only [List.length_set]; omega)) [hl, h16, h18, h20, hL.elems, hL.chk, hL.at hce, hM.elems, hM.chk, hM.at hde, hce, hde, Ck.enc, Ck.turn, wrap_id, t2]
      intro m hm
      refine go _ _ _ ?_ ?_ ?_ ?_ ?_ ?_ ?_
      all_goals simp (disch := first | omega | (simp only [List.length_set]; omega)) [hl, h11, h13, h15, h16, h18, h20, wrap_id]
    by_cases hs3 : s = 3
    · subst hs3
      simp (disch := first | omega | (simp only [List.length_set]; omega)) [hl, h16, h18, h20, hL.elems, hL.chk, hL.at hce, hM.elems, hM.chk, hM.at hde, hce, hde, Ck.enc, Ck.turn, wrap_id, t3]
      intro m hm
      refine go _ _ _ ?_ ?_ ?_ ?_ ?_ ?_ ?_
      all_goals simp (disch := first | omega | (simp only [List.length_set]; omega)) [hl, h11, h13, h15, h16, h18, h20, wrap_id]
    · have t4 := tn hs2 hs3
      simp (disch := first | omega | (simp only [List.length_set]; omega)) [hs2, hs3, hl, h16, h18, h20, hL.elems, hL.chk, hL.at hce, hM.elems, hM.chk, hM.at hde, hce, hde, Ck.enc, Ck.turn, wrap_id, t4]
      intro m hm
      refine go _ _ _ ?_ ?_ ?_ ?_ ?_ ?_ ?_
      all_goals simp (disch := first | omega | (simp only [List.length_set]; omega)) [hl, h11, h13, h15, h16, h18, h20, wrap_id]
  · simp (disch := first | omega | (simp only [List.length_set]; omega)) [hlt', hl, h16, h20]
    exact hK _ _ _ (by simp [hl]) (by simp (disch := first | omega | (simp only [List.length_set]; omega)) [h11]) (by simp (disch := first | omega | (simp only [List.length_set]; omega)) [h13]) (by simp (disch := first | omega | (simp only [List.length_set]; omega)) [h15])

theorem own_loop {K : KC2} {b : List Int} {B : AV} (hB : IsRow B (ints b)) (hlb : b.length ≤ 80) {v13 v15 : AV}
    (hK : ∀ ts loc τ tok, ts.length = 184 → tmp ts 11 = B → tmp ts 13 = v13 → tmp ts 15 = v15 → tmp ts 22 = accV (prs (ownP b.length)) tok → K.k (.exit 2) ts loc τ)
    (ts : List AV) (loc : Go.Proofs.YtbmkgpocnkiibaaW.Abs.Loc) (τ : Heap) (hl : ts.length = 184) (h11 : tmp ts 11 = B) (h13 : tmp ts 13 = v13) (h15 : tmp ts 15 = v15) (h22 : tmp ts 22 = .nils) (h23 : tmp ts 23 = .int .i64 0) : loop2I Try.prog W0 C [] F4l1 ts loc τ := by
  refine loop2I_ind cok F4l1w (m := fun i => b.length - i) (I := fun i ts loc τ => i ≤ b.length ∧ ts.length = 184 ∧ tmp ts 11 = B ∧ tmp ts 13 = v13 ∧ tmp ts 15 = v15 ∧ tmp ts 23 = .int .i64 i ∧ ∃ tok, tmp ts 22 = accV (prs (ownP i)) tok ∧ AccL (loc 0) 2 tok (prs (ownP i))) ?_ 0 ⟨by omega, hl, h11, h13, h15, by simpa using h23, 0, by simpa [ownP] using h22, by simp [ownP]⟩
  clear hl h11 h13 h15 h22 h23 ts loc τ
  rintro i ts loc τ ⟨hi, hl, h11, h13, h15, h23, tok, h22, ha⟩ ih'
  simp (disch := first | omega | (simp only [List.length_set]; omega)) [F4l1, hl, h11, h22, h23, hB.len]
  by_cases hlt : i < b.length
  · simp (disch := first | omega | (simp only [List.length_set]; omega)) [hlt, hl, h11, h22, h23, ha.grow, ownP_len]
    refine andI_intro (by omega) ?_
    simp (disch := first | omega | (simp only [List.length_set]; omega)) [hlt, hl, h11, h22, h23, ha.grow]
    refine ih' (i + 1) _ _ _ (by omega) ⟨by omega, ?_⟩
    simp (disch := first | omega | (simp only [List.length_set]; omega)) [hl, h11, h13, h15, h22, h23, wrap_id]
    exact ⟨_, by rw [ownP_succ, prs_app]; rfl, AccL.next' _ _ _ (by rw [ownP_succ, prs_app]; rfl)⟩
  · have hi' : i = b.length := by omega
    subst hi'
    simp (disch := first | omega | (simp only [List.length_set]; omega)) [hlt, hl, h11, h22, h23]
    exact hK _ _ _ tok (by simp [hl]) (by simp (disch := first | omega | (simp only [List.length_set]; omega)) [h11]) (by simp (disch := first | omega | (simp only [List.length_set]; omega)) [h13]) (by simp (disch := first | omega | (simp only [List.length_set]; omega)) [h15]) (by simp (disch := first | omega | (simp only [List.length_set]; omega)) [h22])

theorem sorts_loop {K : KC2} {L : List Ck} {LV : AV} (hL : IsRow LV (L.map Ck.enc)) (hLn : L.length ≤ 1000000) (hs : ∀ c ∈ L, c.s ≠ 2 ∧ c.s ≠ 5) {v25 : AV}
    (hK : ∀ ts loc τ, ts.length = 184 → tmp ts 25 = v25 → K.k (.exit 4) ts loc τ)
    (ts : List AV) (loc : Go.Proofs.YtbmkgpocnkiibaaW.Abs.Loc) (τ : Heap) (hl : ts.length = 184) (h24 : tmp ts 24 = LV) (h25 : tmp ts 25 = v25) (h26 : tmp ts 26 = .int .i64 0) : loop2I Try.prog W0 C [] F4l0 ts loc τ := by
  refine loop2I_ind cok F4l0w (m := fun n => L.length - n) (I := fun n ts loc τ => n ≤ L.length ∧ ts.length = 184 ∧ tmp ts 24 = LV ∧ tmp ts 25 = v25 ∧ tmp ts 26 = .int .i64 n) ?_ 0 ⟨by omega, hl, h24, h25, by simpa using h26⟩
  clear hl h24 h25 h26 ts loc τ
  rintro n ts loc τ ⟨hn, hl, h24, h25, h26⟩ ih'
  simp (disch := first | omega | (simp only [List.length_set]; omega)) [F4l0, hl, h24, h26, hL.len]
  by_cases hlt' : n < L.length
  · obtain ⟨c, hcn⟩ : ∃ c, L[n]? = some c := ⟨L[n], by simp [hlt']⟩
    have hce := cks_at hcn
    have hcs := hs c (List.mem_of_getElem? hcn)
    obtain ⟨s, x0, x1, y0, y1, z0, z1⟩ := c
    dsimp only at hcs
    simp (disch := first | omega | (simp only [List.length_set]; omega)) [hlt', hl, h24, h26, hL.elems, hL.chk, hL.at hce, hce, Ck.enc, hcs.1, hcs.2]
    refine ih' (n + 1) _ _ _ (by omega) ⟨by omega, ?_⟩
    simp (disch := first | omega | (simp only [List.length_set]; omega)) [hl, h24, h25, h26, wrap_id]
  · simp (disch := first | omega | (simp only [List.length_set]; omega)) [hlt', hl, h24, h26]
    exact hK _ _ _ (by simp [hl]) (by simp (disch := first | omega | (simp only [List.length_set]; omega)) [h25])
end Go.Proofs.Ytbmkgpocnkiibaa.Lt
