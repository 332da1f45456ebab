/- The law that documents are values. -/
import Derived.Test.YtgahmpfpnclefaaKp3b
import Derived.Test.YtgahmpfpnclefaaDoc14
namespace Go.Proofs.Ytgahmpfpnclefaa.Lt
open Go.Proofs.YtgahmpfpnclefaaW.Abs Go
set_option maxRecDepth 100000
set_option maxHeartbeats 4000000
set_option linter.unusedSimpArgs false
set_option linter.unusedVariables false
variable {W0 : World}

theorem docKeeps_spec (a : T) (hoa : a.ok) : PCall Try.prog W0 7 [.agg a.enc] (.bool true) := by
  have fa := few_spec (W0 := W0) a hoa
  have ba := built_spec (W0 := W0) a hoa
  refine pcall2 cok Try.func7 F7d F7e F7c F7w F7r (fun N => ?_)
  refine ev2I_intro ?_
  simp [F7s]
  refine hcallI_pure fa (by simp) (fun M hM => ?_)
  by_cases hfa : few a = true
  case neg =>
    simp [hfa]
    refine hcallI_pure known_spec rfl (fun M hM => ?_)
    simp
  simp [hfa]
  obtain ⟨hba, hla⟩ := few_facts hoa hfa
  have hsX : ∀ p ∈ plain (built a), p.s.length ≤ 140737488355328 := by rw [plain_built]; exact full_s a hoa
  clear hfa fa
  generalize built a = X at hba hla ba hsX
  refine hcallI_pure ba (by simp) (fun M1 hM1 => ?_)
  clear ba
  repeat (first | (refine andI_intro (by (try dsimp only at *); omega) ?_) | simp)
  refine hcallI_pure (plain_spec X hba (by omega)) (by simp) (fun M2 hM2 => ?_)
  repeat (first | (refine andI_intro (by (try dsimp only at *); omega) ?_) | simp)
  refine pcallI_pure' (text_spec [120]) (by simp) ?_
  repeat (first | (refine andI_intro (by (try dsimp only at *); omega) ?_) | simp)
  intro M3 hM3
  repeat (first | (refine andI_intro (by (try dsimp only at *); omega) ?_) | simp)
  have hsub : M2 + 3 < M3 := by omega
  refine hcallI_use (rowB_spec (P := M2 + 3) (l := [X, text [120], X]) (by simp) (by simp)) (by simp [bareL]) (fun o τ1 hn1 hQ => ?_)
  obtain ⟨rfl, hτ1⟩ := hQ
  repeat (first | (refine andI_intro (by (try dsimp only at *); omega) ?_) | simp)
  refine hcallI_pure line_spec rfl (fun M4 hM4 => ?_)
  repeat (first | (refine andI_intro (by (try dsimp only at *); omega) ?_) | simp)
  refine hcallI_use (joinB_spec (P := M2 + 3) (piece1 2) (l := [X, text [120], X]) (by simp [hτ1]) (by simp)) (by simp [bareL]) (fun o τ2 hn2 hQ => ?_)
  obtain ⟨rfl, hτ2⟩ := hQ
  repeat (first | (refine andI_intro (by (try dsimp only at *); omega) ?_) | simp)
  have okL : ∀ x, x ∈ [X, text [120], X] → x.ok := by
    intro x hx; simp at hx
    rcases hx with rfl | rfl | rfl
    · exact hba
    · exact text_ok (by simp)
    · exact hba
  have okJ : ∀ x, x ∈ [X, piece1 2, text [120], piece1 2, X] → x.ok := by
    intro x hx; simp at hx
    rcases hx with rfl | rfl | rfl | rfl | rfl
    · exact hba
    · exact piece1_ok _
    · exact text_ok (by simp)
    · exact piece1_ok _
    · exact hba
  have pt : plain (text [120]) = [⟨1, [120]⟩] := by simp [text, plain, plainL]
  have okR : (row false [X, text [120], X]).ok := row_ok (by simp) okL
  have okK : (row true (joined (piece1 2) [X, text [120], X])).ok := row_ok (by simp [joined, between]) (fun x hx => okJ x (by simpa [joined, between] using hx))
  have lR : (plain (row false [X, text [120], X])).length ≤ 3000000 := by rw [plain_rowL]; simp [plainL, pt]; omega
  have lK : (plain (row true (joined (piece1 2) [X, text [120], X]))).length ≤ 3000000 := by
    rw [plain_rowL]; simp [joined, between, plainL, pt, piece1_plain]; omega
  generalize row false [X, text [120], X] = R at okR lR ⊢
  generalize row true (joined (piece1 2) [X, text [120], X]) = J at okK lK ⊢
  refine pcallI_pure' (plain_spec R okR (by omega)) (by simp) ?_
  repeat (first | (refine andI_intro (by (try dsimp only at *); omega) ?_) | simp)
  refine pcallI_pure' (plain_spec J okK (by omega)) (by simp) ?_
  repeat (first | (refine andI_intro (by (try dsimp only at *); omega) ?_) | simp)
  intro M5 hM5
  repeat (first | (refine andI_intro (by (try dsimp only at *); omega) ?_) | simp)
  rw [hτ2, hτ1]
  refine hcallI_pure hard_spec rfl (fun M6 hM6 => ?_)
  repeat (first | (refine andI_intro (by (try dsimp only at *); omega) ?_) | simp)
  refine hcallI_pure hard_spec rfl (fun M7 hM7 => ?_)
  repeat (first | (refine andI_intro (by (try dsimp only at *); omega) ?_) | simp)
  have eb : ∀ (h : Hp) (x y z : List AV), elems (upd h (M2 + 3) (some (.box 29 [x, y, z]))) (.sl (M2 + 3) 0 3) = some [x, y, z] := fun h x y z => by simp [elems]
  simp (disch := first | omega | (simp only [List.length_set]; omega)) [eb]
  refine hcallI_pure (nest_spec X) (by simp) (fun M8 hM8 => ?_)
  repeat (first | (refine andI_intro (by (try dsimp only at *); omega) ?_) | simp)
  refine hcallI_pure (row_spec false [X, X] (by simp)) (by simp) (fun M9 hM9 => ?_)
  repeat (first | (refine andI_intro (by (try dsimp only at *); omega) ?_) | simp)
  refine hcallI_pure (group_spec (row false [X, X])) (by simp) (fun M10 hM10 => ?_)
  repeat (first | (refine andI_intro (by (try dsimp only at *); omega) ?_) | simp)
  refine hcallI_use (HCalls.frame (fun i x e => by cases e) (plainB_spec X hba (by omega) _)) (by simp) (fun o τ3 hn3 hQ => ?_)
  obtain ⟨h', _, ⟨tok, rfl, hbox⟩, hτ3⟩ := hQ
  repeat (first | (refine andI_intro (by (try dsimp only at *); omega) ?_) | simp)
  have hbox' : plain X ≠ [] → τ3.obj tok = some (.box 43 ((plain X).map Pc.enc)) := fun hne => by
    have := (hbox hne).2
    dsimp only at this
    rw [hτ3]; simp only [mix, this]
  clear hbox hτ3
  refine keeps_loop (plain X) tok hla hsX _ _ _ _ _ _ _ _ _ ?_ _ _ _ (by simp) rfl rfl rfl rfl rfl rfl rfl rfl rfl rfl rfl hbox'
  intro ts loc τ gl g3 g4 g6 g7 g8 g9 l1 l2 l3
  simp at g3 g4 g6 g7 g8 g9 l1 l2 l3
  simp (disch := first | omega | (simp only [List.length_set]; omega)) [gl, g3, g4, g6, g7, g8, g9, l1, l2, l3]
  clear hbox' hn3 hM10 hM9 hM8 hM7 hM6 hn2 hn1 hM5 hτ1 hτ2 eb
  have al : ∀ (l : List Pc), l.length ≤ 140737488355328 → PCall Try.prog W0 19 [rowV (l.map Pc.enc), rowV (l.map Pc.enc)] (.bool true) := fun l h4 => by
    have := alike_spec (W0 := W0) l l (IsRow.rowV (l.map Pc.enc)) (IsRow.rowV (l.map Pc.enc)) h4
    rwa [pcsEq_refl] at this
  refine hcallI_pure known_spec rfl (fun M11 hM11 => ?_)
  simp (disch := first | omega | (simp only [List.length_set]; omega)) [gl, g3, g4, g6, g7, g8, g9, l1, l2, l3]
  refine hcallI_pure (plain_spec X hba (by omega)) (by simp) (fun M12 hM12 => ?_)
  simp (disch := first | omega | (simp only [List.length_set]; omega)) [gl, g3, g4, g6, g7, g8, g9, l1, l2, l3]
  refine hcallI_pure (al (plain X) (by omega)) (by simp) (fun M13 hM13 => ?_)
  simp (disch := first | omega | (simp only [List.length_set]; omega)) [gl, g3, g4, g6, g7, g8, g9, l1, l2, l3]
  refine hcallI_pure (plain_spec R okR (by omega)) (by simp) (fun M14 hM14 => ?_)
  simp (disch := first | omega | (simp only [List.length_set]; omega)) [gl, g3, g4, g6, g7, g8, g9, l1, l2, l3]
  refine hcallI_pure (al (plain R) (by omega)) (by simp) (fun M15 hM15 => ?_)
  simp (disch := first | omega | (simp only [List.length_set]; omega)) [gl, g3, g4, g6, g7, g8, g9, l1, l2, l3]
  refine hcallI_pure (plain_spec J okK (by omega)) (by simp) (fun M16 hM16 => ?_)
  simp (disch := first | omega | (simp only [List.length_set]; omega)) [gl, g3, g4, g6, g7, g8, g9, l1, l2, l3]
  refine hcallI_pure (al (plain J) (by omega)) (by simp) (fun M17 hM17 => ?_)
  simp (disch := first | omega | (simp only [List.length_set]; omega)) [gl, g3, g4, g6, g7, g8, g9, l1, l2, l3]
end Go.Proofs.Ytgahmpfpnclefaa.Lt
