/- MyersLong: a longest common row. -/
import Derived.Test.YtinfmkmebemhcaaMt14
namespace Go.Proofs.Ytinfmkmebemhcaa.Lt
open Go.Proofs.YtinfmkmebemhcaaW.Abs Go
set_option maxRecDepth 100000
set_option maxHeartbeats 4000000
set_option linter.unusedSimpArgs false
set_option linter.unusedVariables false
variable {W0 : World}

/-- a common row is right for the document -/
theorem cr_right {a b : List Int} : ∀ (l : List (Nat × Nat)) (i k i2 k2 : Nat) (q : Option (Int × Int)), cr a b i k i2 k2 l → i2 ≤ a.length → k2 ≤ b.length → (∀ p, q = some p → p.1 < (i : Int) ∧ p.2 < (k : Int)) → rightR a b q (np l) = true
  | [], _, _, _, _, _, _, _, _, _ => by simp [np, rightR_nil]
  | (p1, p2) :: r, i, k, i2, k2, q, h, h1, h2, hq => by
    obtain ⟨g1, g2, ⟨x, ha, hb⟩, g3⟩ := h
    have e : np ((p1, p2) :: r) = ((p1 : Int), (p2 : Int)) :: np r := rfl
    have hp1 := (List.getElem?_eq_some_iff.1 ha).1
    have hp2 := (List.getElem?_eq_some_iff.1 hb).1
    have hr := cr_right r (p1 + 1) (p2 + 1) i2 k2 (some ((p1 : Int), (p2 : Int))) g3 h1 h2 (fun p hp => by cases hp; exact ⟨by dsimp only; omega, by dsimp only; omega⟩)
    have hok : pairOk a b ((p1 : Int), (p2 : Int)) = true := by simp [pairOk, ha, hb]; omega
    rw [e, rightR_cons, hr, hok]
    cases q with
    | none => rfl
    | some q0 =>
      have := hq q0 rfl
      have c1 : q0.1 < (p1 : Int) := by omega
      have c2 : q0.2 < (p2 : Int) := by omega
      simp [c1, c2]

theorem kinds_eq (x : Int) : IntKind.i64.wrap (1 + IntKind.i64.wrap ((IntKind.u64.wrap x).tmod 9)) = 1 + (x % 18446744073709551616) % 9 := by
  have e1 : IntKind.u64.wrap x = x % 18446744073709551616 := by rw [IntKind.wrap_u64]
  rw [e1, Int.tmod_eq_emod_of_nonneg (by omega)]
  have e2 : IntKind.i64.wrap ((x % 18446744073709551616) % 9) = (x % 18446744073709551616) % 9 := wrap_id (by omega) (by omega)
  rw [e2, wrap_id (by omega) (by omega)]

theorem myersLong_spec (l : List Int) {X : AV} (hX : IsRow X (ints l)) (_ : ∀ v ∈ l, (Lit.int .i64 v).wf = true) (_ : l.length * 8 ≤ 140737488351232) (m : List Int) {Y : AV} (hY : IsRow Y (ints m)) (_ : ∀ v ∈ m, (Lit.int .i64 v).wf = true) (_ : m.length * 8 ≤ 140737488351232) (k : Int) (_ : (Lit.int .i64 k).wf = true) :
    PCall Try.prog W0 3 [X, Y, .int .i64 k] (.bool true) := by
  refine pcall2 cok Try.func3 F3d F3e F3c F3w F3r (fun N => ?_)
  refine ev2I_intro ?_
  have hk := kinds_eq k
  obtain ⟨c, hc⟩ : ∃ c, c = 1 + (k % 18446744073709551616) % 9 := ⟨_, rfl⟩
  rw [← hc] at hk
  have hc1 : 1 ≤ c := by omega
  have hc2 : c ≤ 9 := by omega
  clear hc
  have k1 := kindL_len c l
  have k2 := kindL_len c m
  obtain ⟨a, hae⟩ : ∃ a, a = kindL c l := ⟨_, rfl⟩
  obtain ⟨b, hbe⟩ : ∃ b, b = kindL c m := ⟨_, rfl⟩
  rw [← hae] at k1; rw [← hbe] at k2
  simp (disch := first | omega | (simp only [List.length_set]; omega)) [F3s, hk]
  refine hcallI_pure (few_spec l hX c hc1 hc2) (by simp [hX.same (ints_bare _)]) (fun M hM => ?_)
  rw [← hae]
  simp (disch := first | omega | (simp only [List.length_set]; omega)) []
  refine hcallI_pure (few_spec m hY c hc1 hc2) (by simp [hY.same (ints_bare _)]) (fun M hM => ?_)
  rw [← hbe]
  simp (disch := first | omega | (simp only [List.length_set]; omega)) []
  refine andI_intro ⟨fun e he => ints_one he, by omega, by omega⟩ ?_
  simp (disch := first | omega | (simp only [List.length_set]; omega)) []
  refine andI_intro ⟨fun e he => ints_one he, by omega, by omega⟩ ?_
  simp (disch := first | omega | (simp only [List.length_set]; omega)) []
  refine hcallI_pure (of_spec (rowInts a) (rowInts b) (by omega) (by omega)) (by simp) (fun M hM => ?_)
  simp (disch := first | omega | (simp only [List.length_set]; omega)) []
  refine hcallI_pure known_spec (by simp) (fun M hM => ?_)
  simp (disch := first | omega | (simp only [List.length_set]; omega)) []
  have hR : rightR a b none (np (hvO a b 0 0)) = true := cr_right _ _ _ _ _ _ (hvO_cr a b) (Nat.le_refl _) (Nat.le_refl _) (fun p h => by cases h)
  have hl : (hvO a b 0 0).length ≤ 1000 := by rw [hvO_len]; have := (lcs_bd a b).1; omega
  refine hcallI_pure (refRight_spec a b (np (hvO a b 0 0)) (rowInts a) (rowInts b) (IsRow.rowV _) (by simp; omega)) (by simp) (fun M hM => ?_)
  simp (disch := first | omega | (simp only [List.length_set]; omega)) [hR]
  refine hcallI_pure (refLong_spec a b (rowInts a) (rowInts b) (by omega) (by omega)) (by simp) (fun M hM => ?_)
  simp (disch := first | omega | (simp only [List.length_set]; omega)) [hvO_len]
  refine hcallI_pure (same_spec a a (rowInts a) (IsRow.row _) (by omega)) (by simp) (fun M hM => ?_)
  simp (disch := first | omega | (simp only [List.length_set]; omega)) []
  refine hcallI_pure (same_spec b b (rowInts b) (IsRow.row _) (by omega)) (by simp) (fun M hM => ?_)
  simp (disch := first | omega | (simp only [List.length_set]; omega)) []
end Go.Proofs.Ytinfmkmebemhcaa.Lt
