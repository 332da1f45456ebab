/- The law of three rows that are the same. -/
import Derived.Test.YtbmkgpocnkiibaaChk15
namespace Go.Proofs.Ytbmkgpocnkiibaa.Lt
open Go.Proofs.YtbmkgpocnkiibaaW.Abs Go
set_option maxRecDepth 100000
set_option maxHeartbeats 4000000
set_option linter.unusedSimpArgs false
set_option linter.unusedVariables false
variable {W0 : World}

theorem fewL_len (l : List Int) : (fewL l).length ≤ 80 := by simp [fewL]; omega
theorem ownP_succ (i : Nat) : ownP (i + 1) = ownP i ++ [((i : Int), (i : Int))] := by simp [ownP, List.range_succ]
theorem ownP_len (i : Nat) : (ownP i).length = i := by simp [ownP]
theorem IsRow.acc (es : List (List AV)) (t : Nat) : IsRow (accV es t).bare (bareLL es) := by
  cases es with
  | nil => exact IsRow.nils
  | cons e r => simp [accV]; exact IsRow.row _
/-- a row that grows, as an argument -/
theorem acc_bare (es : List (List AV)) (t : Nat) (h : bareLL es = es) : (accV es t).bare = rowV es := by
  cases es with
  | nil => rfl
  | cons e r => simp only [accV, bare_row]; rw [h]; rfl

theorem chunkSelf_spec (l : List Int) {A : AV} (hA : IsRow A (ints l)) (hw : ∀ x ∈ l, (Lit.int .i64 x).wf = true) (hsz : l.length * 8 ≤ 140737488351232) : PCall Try.prog W0 5 [A] (.bool true) := by
  refine pcall2 cok Try.func5 F5d F5e F5c F5w F5r (fun N => ?_)
  refine ev2I_intro ?_
  simp (disch := first | omega | (simp only [List.length_set]; omega)) [F5s]
  refine hcallI_pure (few_spec l hA) (by simp [bareL, hA.same (ints_bare l)]) (fun M hM => ?_)
  have hlen := fewL_len l
  generalize fewL l = b at *
  simp (disch := first | omega | (simp only [List.length_set]; omega)) []
  have hb := IsRow.rowV (ints b)
  have hbb := hb.same (ints_bare b)
  generalize rowV (ints b) = B at *
  refine loop2I_ind cok F5l0w (m := fun i => b.length - i) (I := fun i ts loc τ => i ≤ b.length ∧ ts.length = 93 ∧ tmp ts 3 = B ∧ tmp ts 5 = .int .i64 i ∧ ∃ tok, tmp ts 4 = accV (prs (ownP i)) tok ∧ AccL (loc 1) 2 tok (prs (ownP i))) ?_ 0 ?_
  · rintro i ts loc τ ⟨hi, hl, h3, h5, tok, h4, ha⟩ ih'
    simp (disch := first | omega | (simp only [List.length_set]; omega)) [F5l0, hl, h3, h4, h5, hb.len]
    by_cases hlt : i < b.length
    · simp (disch := first | omega | (simp only [List.length_set]; omega)) [hlt, hl, h3, h4, h5, ha.grow, ownP_len]
      refine andI_intro (by omega) ?_
      simp (disch := first | omega | (simp only [List.length_set]; omega)) [hlt, hl, h3, h4, h5, ha.grow]
      refine ih' (i + 1) _ _ _ (by omega) ⟨by omega, ?_⟩
      simp (disch := first | omega | (simp only [List.length_set]; omega)) [hl, h3, h4, h5, wrap_id]
      exact ⟨_, by rw [ownP_succ, prs_app]; rfl, AccL.next' _ _ _ (by rw [ownP_succ, prs_app]; rfl)⟩
    · have hi' : i = b.length := by omega
      subst hi'
      have hp := acc_bare (prs (ownP b.length)) tok (prs_bare _)
      have hr := (own_right b).r
      simp (disch := first | omega | (simp only [List.length_set]; omega)) [hlt, hl, h3, h4, h5]
      refine hcallI_pure (of_spec (b := b) (o := b) (t := b) (mo := ownP b.length) (mt := ownP b.length) hb hb hb (by omega) (by omega) (by omega) (IsRow.rowV _) (IsRow.rowV _) (by rw [ownP_len]; omega) (by rw [ownP_len]; omega)) (by simp [bareL, hbb, hp]) (fun M hM => ?_)
      have hn : rightM b b (-1, -1) [] = true := rfl
      simp (disch := first | omega | (simp only [List.length_set]; omega)) [hl, h3, h4, h5, ofR, hr, self_runs]
      refine hcallI_pure (of_spec (b := b) (o := b) (t := b) (mo := []) (mt := ownP b.length) hb hb hb (by omega) (by omega) (by omega) IsRow.nils (IsRow.rowV _) (by simp) (by rw [ownP_len]; omega)) (by simp [bareL, hbb, hp]) (fun M hM => ?_)
      simp (disch := first | omega | (simp only [List.length_set]; omega)) [hl, h3, h4, h5, ofR, hr, hn, self_none]
      refine hcallI_pure known_spec (by simp) (fun M hM => ?_)
      by_cases h0 : b = []
      · simp (disch := first | omega | (simp only [List.length_set]; omega)) [h0, hl, h3, h4, h5, hb.len]
      · have hm : (if 1 < (b.length : Int) then (1 : Int) else (b.length : Int)) = 1 := by
          have : 0 < b.length := List.length_pos_iff.2 h0
          split <;> omega
        simp (disch := first | omega | (simp only [List.length_set]; omega)) [h0, hl, h3, h4, h5, hb.len, Ck.enc, hm]
  · simp [ownP]
end Go.Proofs.Ytbmkgpocnkiibaa.Lt
