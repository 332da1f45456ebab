/- Plain with its box; Clone, Row and Join of a slice that is written later. -/
import Derived.Test.YtgahmpfpnclefaaKp2
namespace Go.Proofs.Ytgahmpfpnclefaa.Lt
open Go.Proofs.YtgahmpfpnclefaaW.Abs Go
set_option maxRecDepth 100000
set_option maxHeartbeats 1000000
set_option linter.unusedSimpArgs false
set_option linter.unusedVariables false
variable {W0 : World}

theorem plainB_spec (t : T) (hok : t.ok) (hb : (plain t).length * 24 ≤ 140737488355328) (n : Nat) : HCalls Try.prog W0 15 [.agg t.enc] ⟨n, fun _ => none⟩
    (fun o τ' => ∃ tok, o = .ret (accS tok (plain t)) ∧ (plain t ≠ [] → tok < τ'.next ∧ τ'.obj tok = some (.box 43 ((plain t).map Pc.enc)))) := by
  refine hcalls cok Try.func15 F15d F15e F15c F15w F15r ?_
  refine ev2I_intro ?_
  obtain ⟨k, s, nil, kids⟩ := t
  simp [F15s, T.enc_mk, upd_ne]
  have hh : ∀ t1 t2, upd (upd (fun _ => none) (n + 2) (some (AObj.box t1 [[AV.nils]]))) (n + 3) (some (AObj.box t2 [[AV.fn (Fn.func 29) [] [AV.bp (n + 2) 0 0, AV.bp (n + 3) 0 0]]])) = wb (n + 2) (n + 3) t1 t2 0 [] := fun t1 t2 => by
    funext i
    simp only [upd, wb]
    by_cases h1 : i = n + 3
    · subst h1; simp
    · by_cases h2 : i = n + 2
      · subst h2; simp
      · simp [h1, h2]
  rw [hh]
  refine hcallI_use (walk_specB (.mk k s nil kids) hok [] (n + 2) (n + 3) 0 _ _ _ ⟨by omega, by omega, by omega, fun h => absurd rfl h⟩ (by simpa using hb)) (by simp [T.enc_mk]) (fun o τ' hn hQ => ?_)
  obtain ⟨rfl, tok, hw, hτ⟩ := hQ
  simp [hτ]
  exact ⟨tok, rfl, fun hne => ⟨by have := (hw.tk (by simpa using hne)).1; omega, by rw [wb_t (by simpa using hw) _ _ hne]⟩⟩

theorem cloneB_spec {P n : Nat} {h0 : Hp} {l : List T} (hP : h0 P = some (.box 29 (l.map T.enc))) (hl : l.length * 48 ≤ 140737488355328) :
    HCalls Try.prog W0 30 [.sl P 0 l.length] ⟨n, h0⟩ (fun o τ' => o = .ret (.row (l.map T.enc) none) ∧ τ'.obj = h0) := by
  refine HCalls.bare (hcalls cok Try.func30 F30d F30e F30c F30w F30r ?_)
  refine ev2I_intro ?_
  have he : elems h0 (.sl P 0 l.length) = some (l.map T.enc) := by
    have e : (l.map T.enc).take l.length = l.map T.enc := List.take_of_length_le (by simp)
    simp [elems, hP, e]
  have hs : srcElems h0 (.sl P 0 l.length) = some (l.map T.enc) := he
  simp [F30s, hs]
  have h1 : l.length ≤ 4611686018427387904 := by omega
  simp [h1, hl]
  rw [hs]
  simp

theorem rowB_spec {P n : Nat} {h0 : Hp} {l : List T} (hP : h0 P = some (.box 29 (l.map T.enc))) (hl : l.length * 48 ≤ 140737488355328) :
    HCalls Try.prog W0 16 [.sl P 0 l.length] ⟨n, h0⟩ (fun o τ' => o = .ret (.agg (row false l).enc) ∧ τ'.obj = h0) := by
  refine HCalls.bare (hcalls cok Try.func16 F16d F16e F16c F16w F16r ?_)
  refine ev2I_intro ?_
  simp [F16s]
  refine hcallI_use (cloneB_spec (h0 := h0) (l := l) hP hl) (by simp [bareL]) (fun o τ' hn hQ => ?_)
  obtain ⟨rfl, hτ⟩ := hQ
  simp [hτ, row, T.enc_mk]
theorem joinB_spec {P n : Nat} {h0 : Hp} (b : T) {l : List T} (hP : h0 P = some (.box 29 (l.map T.enc))) (hl : l.length * 96 ≤ 140737488355328) :
    HCalls Try.prog W0 20 [.agg b.enc, .sl P 0 l.length] ⟨n, h0⟩ (fun o τ' => o = .ret (.agg (row true (joined b l)).enc) ∧ τ'.obj = h0) := by
  refine HCalls.bare (hcalls cok Try.func20 F20d F20e F20c F20w F20r ?_)
  refine ev2I_intro ?_
  have he : elems h0 (.sl P 0 l.length) = some (l.map T.enc) := by
    have e : (l.map T.enc).take l.length = l.map T.enc := List.take_of_length_le (by simp)
    simp [elems, hP, e]
  simp [F20s]
  refine loop2I_ind cok F20l0w (m := fun i => l.length - i) (I := fun i ts loc τ => i ≤ l.length ∧ ts.length = 28 ∧ tmp ts 2 = .bp n 0 0 ∧ tmp ts 4 = .bp (n + 1) 0 0 ∧ tmp ts 8 = .sl P 0 l.length ∧ tmp ts 9 = .int .i64 l.length ∧ tmp ts 10 = .int .i64 i ∧ loc 0 = .box n 29 [b.enc] ∧ loc 1 = .box (n + 1) 29 [[.int .i64 0, .str [], .nils]] ∧ τ.obj = h0 ∧
    ∃ acc tok, tmp ts 5 = accV (acc.map T.enc) tok ∧ AccL (loc 3) 3 tok (acc.map T.enc) ∧ acc.length ≤ 2 * i ∧ (i = 0 → acc = []) ∧ (if i = 0 then joined b (l.drop i) else acc ++ between b (l.drop i)) = joined b l) ?_ 0 ?_
  · rintro i ts loc τ ⟨hi, hl', h2, h4, h8, h9, h10, g0, g1, hτ, acc, tok, h5, ha, hal, ha0, hR⟩ ih'
    simp (disch := first | omega | (simp only [List.length_set]; omega)) [F20l0, h2, h4, h5, h8, h9, h10, hl', g0, g1, hτ]
    by_cases hlt : i < l.length
    · obtain ⟨t, ht⟩ : ∃ t, l[i]? = some t := ⟨l[i], by simp [hlt]⟩
      have hte : (l.map T.enc)[i]? = some t.enc := by simp [ht]
      rw [drop_at ht] at hR
      have hbx : boxAt (h0 P) i = some t.enc := by rw [hP]; simp [boxAt, ht]
      simp (disch := first | omega | (simp only [List.length_set]; omega)) [hlt, h2, h4, h5, h8, h9, h10, hl', g0, g1, hτ, ht, he, hbx, hte]
      by_cases hi0 : i = 0
      · subst hi0
        have := ha0 rfl; subst this
        simp (disch := first | omega | (simp only [List.length_set]; omega)) [h2, h4, h5, h8, h9, h10, hl', g0, g1, hτ, ha.grow]
        refine ih' 1 _ _ _ (by omega) ⟨by omega, ?_⟩
        simp (disch := first | omega | (simp only [List.length_set]; omega)) [h2, h4, h8, h9, h10, hl', g0, g1, hτ, wrap_id]
        refine ⟨[t], _, rfl, by simp [AccL], by simp, ?_⟩
        simpa [joined] using hR
      · have hip : 0 < i := by omega
        simp (disch := first | omega | (simp only [List.length_set]; omega)) [h2, h4, h5, h8, h9, h10, hl', g0, g1, hτ, hip, ha.grow]
        refine andI_intro (by omega) ?_
        simp (disch := first | omega | (simp only [List.length_set]; omega)) [h2, h4, h5, h8, h9, h10, hl', g0, g1, hτ, hip]
        refine andI_intro (by omega) ?_
        simp (disch := first | omega | (simp only [List.length_set]; omega)) [h2, h4, h5, h8, h9, h10, hl', g0, g1, hτ, hip]
        refine ih' (i + 1) _ _ _ (by omega) ⟨by omega, ?_⟩
        simp (disch := first | omega | (simp only [List.length_set]; omega)) [h2, h4, h8, h9, h10, hl', g0, g1, hτ, wrap_id]
        rw [if_neg hi0] at hR
        refine ⟨acc ++ [b, t], _, by simp; rfl, ?_, by simp; omega, by simpa [between] using hR⟩
        exact AccL.next' _ _ _ (by simp)
    · simp (disch := first | omega | (simp only [List.length_set]; omega)) [hlt, h2, h4, h5, h8, h9, h10, hl', g0, g1, hτ]
      rw [List.drop_of_length_le (by omega)] at hR
      have he : acc = joined b l := by
        by_cases hi0 : i = 0
        · have := ha0 hi0; subst this
          rw [if_pos hi0] at hR; simpa [joined] using hR
        · rw [if_neg hi0] at hR; simpa [between] using hR
      rw [he]
      simp [row, T.enc_mk]
  · simp
    exact ⟨[], 0, by simp, by simp, rfl⟩
end Go.Proofs.Ytgahmpfpnclefaa.Lt
