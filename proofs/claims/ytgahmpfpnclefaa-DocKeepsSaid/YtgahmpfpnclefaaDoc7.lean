/- Pieces compared. -/
import Derived.Test.YtgahmpfpnclefaaDoc6
import Derived.Test.YtgahmpfpnclefaaA22
namespace Go.Proofs.Ytgahmpfpnclefaa.Lt
open Go.Proofs.YtgahmpfpnclefaaW.Abs Go
set_option maxRecDepth 100000
set_option maxHeartbeats 1000000
set_option linter.unusedSimpArgs false
set_option linter.unusedVariables false
variable {W0 : World}

def pcEq (x y : Pc) : Bool := decide (x.k = y.k) && x.s == y.s
theorem pcEq_iff (x y : Pc) : pcEq x y = true ↔ x = y := by
  obtain ⟨a, b⟩ := x; obtain ⟨c, d⟩ := y
  simp [pcEq]
def pcsEq : List Pc → List Pc → Bool
  | [], [] => true
  | x :: a, y :: b => pcEq x y && pcsEq a b
  | _, _ => false
theorem pcsEq_iff : ∀ a b : List Pc, pcsEq a b = true ↔ a = b
  | [], [] => by simp [pcsEq]
  | [], _ :: _ => by simp [pcsEq]
  | _ :: _, [] => by simp [pcsEq]
  | x :: a, y :: b => by simp [pcsEq, pcEq_iff, pcsEq_iff a b]

theorem eqCells_pc (x y : Pc) : eqCells [CK.int, CK.str] x.enc y.enc = some (pcEq x y) := by
  obtain ⟨a, b⟩ := x; obtain ⟨c, d⟩ := y
  simp only [Pc.enc_mk, eqCells, eqCell, pcEq, if_true]
  by_cases h : a = c
  · subst h; simp only [beq_self_eq_true, decide_true, Bool.true_and]; cases b == d <;> rfl
  · have : (a == c) = false := by simpa using h
    simp [this, h]

theorem alike_spec (a b : List Pc) {A B : AV} (hA : IsRow A (a.map Pc.enc)) (hB : IsRow B (b.map Pc.enc)) (hl : a.length ≤ 140737488355328) : PCall Try.prog W0 19 [A, B] (.bool (pcsEq a b)) := by
  refine pcall2 cok Try.func19 F19d F19e F19c F19w F19r (fun N => ?_)
  refine ev2I_intro ?_
  simp (disch := first | omega | (simp only [List.length_set]; omega)) [F19s, hA.len, hB.len]
  by_cases hlen : a.length = b.length
  · simp (disch := first | omega | (simp only [List.length_set]; omega)) [hlen]
    refine loop2I_ind cok F19l0w (m := fun i => a.length - i) (I := fun i ts loc τ => i ≤ a.length ∧ ts.length = 26 ∧ tmp ts 0 = A ∧ tmp ts 1 = B ∧ tmp ts 5 = .int .i64 i ∧ pcsEq (a.drop i) (b.drop i) = pcsEq a b) ?_ 0 ?_
    · rintro i ts loc τ ⟨hi, hts, h0, h1, h5, hs⟩ ih'
      simp (disch := first | omega | (simp only [List.length_set]; omega)) [F19l0, h0, h1, h5, hA.len, hB.len, hts]
      by_cases hlt : i < a.length
      · obtain ⟨x, hx⟩ : ∃ x, a[i]? = some x := ⟨a[i], by simp [hlt]⟩
        obtain ⟨y, hy⟩ : ∃ y, b[i]? = some y := ⟨b[i]'(by omega), by simp [hlen ▸ hlt]⟩
        have ha : (a.map Pc.enc)[i]? = some x.enc := by simp [hx]
        have hb : (b.map Pc.enc)[i]? = some y.enc := by simp [hy]
        simp (disch := first | omega | (simp only [List.length_set]; omega)) [hlt, h0, h1, h5, hA.len, hB.len, hts, hA.elems, hB.elems, hA.chk, hB.chk, hA.at ha, hB.at hb, hx, hy, eqCells_pc]
        have hda : a.drop i = x :: a.drop (i + 1) := by
          rw [List.drop_eq_getElem_cons hlt]; congr 1; simpa [hlt] using hx
        have hdb : b.drop i = y :: b.drop (i + 1) := by
          rw [List.drop_eq_getElem_cons (by omega)]; congr 1; simpa [hlen ▸ hlt] using hy
        rw [hda, hdb, pcsEq] at hs
        by_cases hxy : pcEq x y = true
        · rw [hxy] at hs
          have hi2 : i + 1 ≤ 9223372036854775807 := by omega
          simp (disch := first | omega | (simp only [List.length_set]; omega)) [hxy, h0, h1, h5, hA.len, hB.len, hts, wrap_id]
          intro M hM
          refine ih' (i + 1) _ _ _ (by omega) ⟨by omega, by simp [hts], ?_, ?_, ?_, by simpa using hs⟩
          all_goals simp (disch := first | omega | (simp only [List.length_set]; omega)) [h0, h1, hts]
        · have hxy' : pcEq x y = false := by simpa using hxy
          rw [hxy'] at hs
          simp (disch := first | omega | (simp only [List.length_set]; omega)) [hxy', h0, h1, h5, hA.len, hB.len, hts, wrap_id]
          intro M hM
          simpa using hs
      · simp (disch := first | omega | (simp only [List.length_set]; omega)) [hlt, h0, h1, h5, hA.len, hB.len, hts]
        rw [List.drop_of_length_le (by omega), List.drop_of_length_le (by omega)] at hs
        simpa [pcsEq] using hs.symm
    · simp
  · have hlen' : ¬ ((a.length : Int) = b.length) := by omega
    simp (disch := first | omega | (simp only [List.length_set]; omega)) [hlen']
    have : pcsEq a b = false := by
      cases h : pcsEq a b with
      | false => rfl
      | true => exact absurd (congrArg List.length ((pcsEq_iff a b).1 h)) hlen
    exact this

theorem same_spec (a b : List Pc) {A B : AV} (hA : IsRow A (a.map Pc.enc)) (hB : IsRow B (b.map Pc.enc)) (hl : a.length ≤ 140737488355328) : PCall Try.prog W0 14 [A, B] (.bool (pcsEq a b)) := by
  refine pcall2 cok Try.func14 F14d F14e F14c F14w F14r (fun N => ?_)
  refine ev2I_intro ?_
  simp (disch := first | omega | (simp only [List.length_set]; omega)) [F14s, hA.len, hB.len]
  by_cases hlen : a.length = b.length
  · simp (disch := first | omega | (simp only [List.length_set]; omega)) [hlen]
    refine loop2I_ind cok F14l0w (m := fun i => a.length - i) (I := fun i ts loc τ => i ≤ a.length ∧ ts.length = 41 ∧ tmp ts 0 = A ∧ tmp ts 1 = B ∧ tmp ts 5 = .int .i64 i ∧ pcsEq (a.drop i) (b.drop i) = pcsEq a b) ?_ 0 ?_
    · rintro i ts loc τ ⟨hi, hts, h0, h1, h5, hs⟩ ih'
      simp (disch := first | omega | (simp only [List.length_set]; omega)) [F14l0, h0, h1, h5, hA.len, hB.len, hts]
      by_cases hlt : i < a.length
      · obtain ⟨x, hx⟩ : ∃ x, a[i]? = some x := ⟨a[i], by simp [hlt]⟩
        obtain ⟨y, hy⟩ : ∃ y, b[i]? = some y := ⟨b[i]'(by omega), by simp [hlen ▸ hlt]⟩
        have ha : (a.map Pc.enc)[i]? = some x.enc := by simp [hx]
        have hb : (b.map Pc.enc)[i]? = some y.enc := by simp [hy]
        have hda : a.drop i = x :: a.drop (i + 1) := by
          rw [List.drop_eq_getElem_cons hlt]; congr 1; simpa [hlt] using hx
        have hdb : b.drop i = y :: b.drop (i + 1) := by
          rw [List.drop_eq_getElem_cons (by omega)]; congr 1; simpa [hlen ▸ hlt] using hy
        rw [hda, hdb, pcsEq] at hs
        obtain ⟨xk, xs⟩ := x
        obtain ⟨yk, ys⟩ := y
        by_cases hk : xk = yk
        · by_cases hss : xs = ys
          · simp (disch := first | omega | (simp only [List.length_set]; omega)) [hlt, h0, h1, h5, hA.len, hB.len, hts, hA.elems, hB.elems, hA.chk, hB.chk, hA.at ha, hB.at hb, hx, hy, hk, hss, wrap_id]
            intro M hM
            refine ih' (i + 1) _ _ _ (by omega) ⟨by omega, by simp [hts], ?_, ?_, ?_, by simpa [pcEq, hk, hss] using hs⟩
            all_goals simp (disch := first | omega | (simp only [List.length_set]; omega)) [h0, h1, hts]
          · have hss' : (xs == ys) = false := by simpa using hss
            have hss2 : (xs != ys) = true := by simpa using hss
            simp (disch := first | omega | (simp only [List.length_set]; omega)) [hlt, h0, h1, h5, hA.len, hB.len, hts, hA.elems, hB.elems, hA.chk, hB.chk, hA.at ha, hB.at hb, hx, hy, hk, hss, hss2, wrap_id]
            intro M hM
            simpa [pcEq, hk, hss'] using hs
        · simp (disch := first | omega | (simp only [List.length_set]; omega)) [hlt, h0, h1, h5, hA.len, hB.len, hts, hA.elems, hB.elems, hA.chk, hB.chk, hA.at ha, hB.at hb, hx, hy, hk, wrap_id]
          intro M hM
          simpa [pcEq, hk] using hs
      · simp (disch := first | omega | (simp only [List.length_set]; omega)) [hlt, h0, h1, h5, hA.len, hB.len, hts]
        rw [List.drop_of_length_le (by omega), List.drop_of_length_le (by omega)] at hs
        simpa [pcsEq] using hs.symm
    · simp
  · have hlen' : ¬ ((a.length : Int) = b.length) := by omega
    simp (disch := first | omega | (simp only [List.length_set]; omega)) [hlen']
    have : pcsEq a b = false := by
      cases h : pcsEq a b with
      | false => rfl
      | true => exact absurd (congrArg List.length ((pcsEq_iff a b).1 h)) hlen
    exact this
end Go.Proofs.Ytgahmpfpnclefaa.Lt
