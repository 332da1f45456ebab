/- A document's flat text; documents joined; pieces compared. -/
import Derived.Test.YtgahmpfpnclefaaDoc4
namespace Go.Proofs.Ytgahmpfpnclefaa.Lt
open Go.Proofs.YtgahmpfpnclefaaW.Abs Go
set_option maxRecDepth 100000
set_option maxHeartbeats 1000000
set_option linter.unusedSimpArgs false
set_option linter.unusedVariables false
variable {W0 : World}

def flatOf : List Pc → List UInt8 → List UInt8 × Bool
  | [], s => (s, true)
  | p :: r, s => if p.k = 4 then ([], false) else flatOf r (if p.k = 1 then s ++ p.s else if p.k = 2 then s ++ [32] else s)
/-- how long a flat text may be -/
def wid : List Pc → Nat
  | [] => 0
  | p :: r => p.s.length + 1 + wid r

theorem dflat_spec (t : T) (hok : t.ok) (hb : (plain t).length * 24 ≤ 140737488355328) (hw : wid (plain t) ≤ 140737488355328) : PCall Try.prog W0 12 [.agg t.enc] (.tup [.str (flatOf (plain t) []).1, .bool (flatOf (plain t) []).2]) := by
  have hp := plain_spec (W0 := W0) t hok hb
  obtain ⟨k, s, nil, kids⟩ := t
  generalize plain (.mk k s nil kids) = l at hb hw hp ⊢
  refine pcall2 cok Try.func12 F12d F12e F12c F12w F12r (fun N => ?_)
  refine ev2I_intro ?_
  simp [F12s, T.enc_mk]
  refine hcallI_pure hp (by simp [T.enc_mk]) (fun M hM => ?_)
  simp
  have hM' : N + 3 + 1 + 4 ≤ M := hM
  have hh : ∀ ty, upd (fun _ => none) (N + 3) (some (AObj.box ty [[AV.nilp, AV.nils]])) = bh (N + 3) ty [] .nilp 0 [] := fun ty => by
    funext i
    by_cases h1 : i = N + 3
    · subst h1; simp; rfl
    · simp [upd, bh, h1]
  rw [hh]
  have hty : (54, ([] : List AV).length + 2) ∈ [(53, 2), (54, 2)] := by decide
  refine loop2I_ind cok F12l0w (m := fun i => l.length - i) (I := fun i ts loc τ => i ≤ l.length ∧ ts.length = 28 ∧ tmp ts 4 = .bp (N + 3) 0 0 ∧ tmp ts 8 = rowV (l.map Pc.enc) ∧ tmp ts 9 = .int .i64 l.length ∧ tmp ts 10 = .int .i64 i ∧
    ∃ a tok s, BOk τ.next (N + 3) a tok s ∧ τ.obj = bh (N + 3) 54 [] a tok s ∧ s.length + wid (l.drop i) ≤ 140737488355328 ∧ flatOf (l.drop i) s = flatOf l []) ?_ 0 ?_
  · rintro i ts loc τ ⟨hi, hl, h4, h8, h9, h10, a, tok, s, hB, hτ, hw, hs⟩ ih'
    simp (disch := first | omega | (simp only [List.length_set]; omega)) [F12l0, h4, h8, h9, h10, hl]
    by_cases hlt : i < l.length
    · obtain ⟨p, hp⟩ : ∃ p, l[i]? = some p := ⟨l[i], by simp [hlt]⟩
      have hpe : (l.map Pc.enc)[i]? = some p.enc := by simp [hp]
      rw [drop_at hp] at hs hw
      rw [flatOf] at hs
      rw [wid] at hw
      obtain ⟨pk, ps⟩ := p
      dsimp only at hs hw
      simp (disch := first | omega | (simp only [List.length_set]; omega)) [hlt, h4, h8, h9, h10, hl, hp, rowV_at hpe]
      by_cases hk1 : pk = 1
      · subst hk1
        simp at hs
        simp (disch := first | omega | (simp only [List.length_set]; omega)) [hlt, h4, h8, h9, h10, hl, hτ]
        refine hcallI_use (writeString_spec (hB.mono (by omega)) hty ps (by omega)) (by simp [bareL]) (fun o τ' hn hQ => ?_)
        obtain ⟨rfl, tok', hB', hτ'⟩ := hQ
        simp (disch := first | omega | (simp only [List.length_set]; omega)) [hlt, h4, h8, h9, h10, hl]
        refine ih' (i + 1) _ _ _ (by omega) ⟨by omega, ?_⟩
        simp (disch := first | omega | (simp only [List.length_set]; omega)) [h4, h8, h9, h10, hl, wrap_id]
        exact ⟨_, tok', s ++ ps, hB'.mono (by omega), hτ', by simp; omega, hs⟩
      · by_cases hk2 : pk = 2
        · subst hk2
          simp at hs
          simp (disch := first | omega | (simp only [List.length_set]; omega)) [hlt, h4, h8, h9, h10, hl, hτ]
          refine hcallI_use (writeByte_spec (hB.mono (by omega)) hty 32 (by omega)) (by simp [bareL]) (fun o τ' hn hQ => ?_)
          obtain ⟨rfl, tok', hB', hτ'⟩ := hQ
          simp (disch := first | omega | (simp only [List.length_set]; omega)) [hlt, h4, h8, h9, h10, hl]
          refine ih' (i + 1) _ _ _ (by omega) ⟨by omega, ?_⟩
          simp (disch := first | omega | (simp only [List.length_set]; omega)) [h4, h8, h9, h10, hl, wrap_id]
          exact ⟨_, tok', s ++ [32], hB'.mono (by omega), hτ', by simp; omega, hs⟩
        · by_cases hk4 : pk = 4
          · subst hk4
            simp at hs
            simp (disch := first | omega | (simp only [List.length_set]; omega)) [hlt, h4, h8, h9, h10, hl]
            simp [← hs]
          · simp [hk1, hk2, hk4] at hs
            simp (disch := first | omega | (simp only [List.length_set]; omega)) [hlt, h4, h8, h9, h10, hl, hk1, hk2, hk4]
            refine ih' (i + 1) _ _ _ (by omega) ⟨by omega, ?_⟩
            simp (disch := first | omega | (simp only [List.length_set]; omega)) [h4, h8, h9, h10, hl, wrap_id]
            exact ⟨_, tok, s, hB.mono (by omega), hτ, by omega, hs⟩
    · simp (disch := first | omega | (simp only [List.length_set]; omega)) [hlt, h4, h8, h9, h10, hl, hτ]
      rw [List.drop_of_length_le (by omega)] at hs hw
      rw [flatOf] at hs
      refine hcallI_use (string_spec (hB.mono (by omega)) (by omega)) (by simp) (fun o τ' hn hQ => ?_)
      obtain ⟨rfl, hτ'⟩ := hQ
      simp (disch := first | omega | (simp only [List.length_set]; omega)) [h4, h8, h9, h10, hl]
      simp [← hs]
  · simp
    exact ⟨.nilp, 0, [], ⟨by omega, .inl rfl, fun h => absurd rfl h⟩, rfl, by simpa using hw, rfl⟩

def between (by' : T) : List T → List T
  | [] => []
  | t :: r => by' :: t :: between by' r
def joined (by' : T) : List T → List T
  | [] => []
  | t :: r => t :: between by' r

theorem join_spec (b : T) (nil : Bool) (l : List T) (hl : l.length * 96 ≤ 140737488355328) : PCall Try.prog W0 20 [.agg b.enc, kidsV nil l] (.agg (row true (joined b l)).enc) := by
  refine pcall2 cok Try.func20 F20d F20e F20c F20w F20r (fun N => ?_)
  refine ev2I_intro ?_
  simp [F20s]
  refine loop2I_ind cok F20l0w (m := fun i => l.length - i) (I := fun i ts loc τ => i ≤ l.length ∧ ts.length = 28 ∧ tmp ts 2 = .bp N 0 0 ∧ tmp ts 4 = .bp (N + 1) 0 0 ∧ tmp ts 8 = kidsV nil l ∧ tmp ts 9 = .int .i64 l.length ∧ tmp ts 10 = .int .i64 i ∧ loc 0 = .box N 29 [b.enc] ∧ loc 1 = .box (N + 1) 29 [[.int .i64 0, .str [], .nils]] ∧
    ∃ acc tok, tmp ts 5 = accV (acc.map T.enc) tok ∧ AccL (loc 3) 3 tok (acc.map T.enc) ∧ acc.length ≤ 2 * i ∧ (i = 0 → acc = []) ∧ (if i = 0 then joined b (l.drop i) else acc ++ between b (l.drop i)) = joined b l) ?_ 0 ?_
  · rintro i ts loc τ ⟨hi, hl', h2, h4, h8, h9, h10, h0, h1, acc, tok, h5, ha, hal, ha0, hR⟩ ih'
    simp (disch := first | omega | (simp only [List.length_set]; omega)) [F20l0, h2, h4, h5, h8, h9, h10, hl', h0, h1]
    by_cases hlt : i < l.length
    · obtain ⟨t, ht⟩ : ∃ t, l[i]? = some t := ⟨l[i], by simp [hlt]⟩
      have hte : (l.map T.enc)[i]? = some t.enc := by simp [ht]
      rw [drop_at ht] at hR
      simp (disch := first | omega | (simp only [List.length_set]; omega)) [hlt, h2, h4, h5, h8, h9, h10, hl', h0, h1, ht, kidsV_at ht]
      by_cases hi0 : i = 0
      · subst hi0
        have := ha0 rfl; subst this
        simp (disch := first | omega | (simp only [List.length_set]; omega)) [h2, h4, h5, h8, h9, h10, hl', h0, h1, ha.grow]
        refine ih' 1 _ _ _ (by omega) ⟨by omega, ?_⟩
        simp (disch := first | omega | (simp only [List.length_set]; omega)) [h2, h4, h8, h9, h10, hl', h0, h1, wrap_id]
        refine ⟨[t], _, rfl, by simp [AccL], by simp, ?_⟩
        simpa [joined] using hR
      · have hip : 0 < i := by omega
        simp (disch := first | omega | (simp only [List.length_set]; omega)) [h2, h4, h5, h8, h9, h10, hl', h0, h1, hip, ha.grow]
        refine andI_intro (by omega) ?_
        simp (disch := first | omega | (simp only [List.length_set]; omega)) [h2, h4, h5, h8, h9, h10, hl', h0, h1, hip]
        refine andI_intro (by omega) ?_
        simp (disch := first | omega | (simp only [List.length_set]; omega)) [h2, h4, h5, h8, h9, h10, hl', h0, h1, hip]
        refine ih' (i + 1) _ _ _ (by omega) ⟨by omega, ?_⟩
        simp (disch := first | omega | (simp only [List.length_set]; omega)) [h2, h4, h8, h9, h10, hl', h0, h1, wrap_id]
        rw [if_neg hi0] at hR
        refine ⟨acc ++ [b, t], _, by simp; rfl, ?_, by simp; omega, by simpa [between] using hR⟩
        exact AccL.next' _ _ _ (by simp)
    · simp (disch := first | omega | (simp only [List.length_set]; omega)) [hlt, h2, h4, h5, h8, h9, h10, hl', h0, h1]
      rw [List.drop_of_length_le (by omega)] at hR
      have he : acc = joined b l := by
        by_cases hi0 : i = 0
        · have := ha0 hi0; subst this
          rw [if_pos hi0] at hR; simpa [joined] using hR
        · rw [if_neg hi0] at hR; simpa [between] using hR
      rw [he]
      simp [row, T.enc_mk]
  · simp
    exact ⟨[], 0, by simp, by simp, rfl⟩
end Go.Proofs.Ytgahmpfpnclefaa.Lt
