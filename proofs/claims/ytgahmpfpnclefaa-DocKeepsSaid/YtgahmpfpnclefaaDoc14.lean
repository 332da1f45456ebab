/- The law of rows. -/
import Derived.Test.YtgahmpfpnclefaaDoc13
namespace Go.Proofs.Ytgahmpfpnclefaa.Lt
open Go.Proofs.YtgahmpfpnclefaaW.Abs Go
set_option maxRecDepth 100000
set_option maxHeartbeats 4000000
set_option linter.unusedSimpArgs false
set_option linter.unusedVariables false
variable {W0 : World}

theorem list_ok2 {a b : T} (ha : a.ok) (hb : b.ok) : ∀ x, x ∈ [a, b] → x.ok := by
  intro x hx; simp at hx; rcases hx with rfl | rfl <;> assumption
theorem plain_rowL (nil : Bool) (l : List T) : plain (row nil l) = plainL l := plainL_row nil l
theorem plain_none : plain none' = [] := by simp [none', plain, plainL]
theorem none_ok : none'.ok := by rw [none', T.ok_mk]; simp

theorem docRows_spec (a b c d : T) (hoa : a.ok) (hob : b.ok) (hoc : c.ok) (hod : d.ok) : PCall Try.prog W0 6 [.agg a.enc, .agg b.enc, .agg c.enc, .agg d.enc] (.bool true) := by
  have fa := few_spec (W0 := W0) a hoa
  have fb := few_spec (W0 := W0) b hob
  have fc := few_spec (W0 := W0) c hoc
  have fd := few_spec (W0 := W0) d hod
  have ba := built_spec (W0 := W0) a hoa
  have bb := built_spec (W0 := W0) b hob
  have bc := built_spec (W0 := W0) c hoc
  have bd := built_spec (W0 := W0) d hod
  refine pcall2 cok Try.func6 F6d F6e F6c F6w F6r (fun N => ?_)
  refine ev2I_intro ?_
  simp [F6s]
  refine hcallI_pure fa (by simp) (fun M hM => ?_)
  by_cases hfa : few a = true
  case neg =>
    simp [hfa]
    refine hcallI_pure known_spec rfl (fun M hM => ?_)
    simp
  simp [hfa]
  refine hcallI_pure fb (by simp) (fun M hM => ?_)
  by_cases hfb : few b = true
  case neg =>
    simp [hfb]
    refine hcallI_pure known_spec rfl (fun M hM => ?_)
    simp
  simp [hfb]
  refine hcallI_pure fc (by simp) (fun M hM => ?_)
  by_cases hfc : few c = true
  case neg =>
    simp [hfc]
    refine hcallI_pure known_spec rfl (fun M hM => ?_)
    simp
  simp [hfc]
  refine hcallI_pure fd (by simp) (fun M hM => ?_)
  by_cases hfd : few d = true
  case neg =>
    simp [hfd]
    refine hcallI_pure known_spec rfl (fun M hM => ?_)
    simp
  simp [hfd]
  obtain ⟨hba, hla⟩ := few_facts hoa hfa
  obtain ⟨hbb, hlb⟩ := few_facts hob hfb
  obtain ⟨hbc, hlc⟩ := few_facts hoc hfc
  obtain ⟨hbd, hld⟩ := few_facts hod hfd
  clear hfa hfb hfc hfd fa fb fc fd
  generalize built a = X at hba hla ba
  generalize built b = Y at hbb hlb bb
  generalize built c = Z at hbc hlc bc
  generalize built d = V at hbd hld bd
  repeat (first | (refine andI_intro (by (try dsimp only at *); omega) ?_) | simp)
  refine pcallI_pure' ba (by simp) ?_
  repeat (first | (refine andI_intro (by (try dsimp only at *); omega) ?_) | simp)
  refine pcallI_pure' bb (by simp) ?_
  repeat (first | (refine andI_intro (by (try dsimp only at *); omega) ?_) | simp)
  refine pcallI_pure' bc (by simp) ?_
  repeat (first | (refine andI_intro (by (try dsimp only at *); omega) ?_) | simp)
  refine pcallI_pure' bd (by simp) ?_
  repeat (first | (refine andI_intro (by (try dsimp only at *); omega) ?_) | simp)
  intro M1 hM1
  clear ba bb bc bd
  repeat (first | (refine andI_intro (by (try dsimp only at *); omega) ?_) | simp)
  refine pcallI_pure' (row_spec false [X, Y] (by simp)) (by simp) ?_
  repeat (first | (refine andI_intro (by (try dsimp only at *); omega) ?_) | simp)
  refine pcallI_pure' (row_spec false [row false [X, Y], Z] (by simp)) (by simp) ?_
  repeat (first | (refine andI_intro (by (try dsimp only at *); omega) ?_) | simp)
  have p1 : plain (row false [row false [X, Y], Z]) = plain X ++ plain Y ++ plain Z := by rw [row2_plain, row2_plain]
  refine pcallI_pure' (plain_spec (row false [row false [X, Y], Z]) (row_ok (by simp) (list_ok2 (row_ok (by simp) (list_ok2 hba hbb)) hbc)) (by rw [p1]; simp; omega)) (by simp) ?_
  repeat (first | (refine andI_intro (by (try dsimp only at *); omega) ?_) | simp)
  intro M2 hM2
  repeat (first | (refine andI_intro (by (try dsimp only at *); omega) ?_) | simp)
  refine pcallI_pure' (row_spec false [Y, Z] (by simp)) (by simp) ?_
  repeat (first | (refine andI_intro (by (try dsimp only at *); omega) ?_) | simp)
  refine pcallI_pure' (row_spec true [] (by simp)) (by simp) ?_
  repeat (first | (refine andI_intro (by (try dsimp only at *); omega) ?_) | simp)
  have p2 : plain (row false [X, none', row false [Y, Z], row true []]) = plain X ++ plain Y ++ plain Z := by
    rw [plain_rowL]; simp [plainL, plain_rowL, plain_none]
  refine pcallI_pure' (row_spec false [X, none', row false [Y, Z], row true []] (by simp)) (by simp) ?_
  repeat (first | (refine andI_intro (by (try dsimp only at *); omega) ?_) | simp)
  refine pcallI_pure' (plain_spec (row false [X, none', row false [Y, Z], row true []]) (row_ok (by simp) (fun x hx => by
    simp at hx; rcases hx with rfl | rfl | rfl | rfl
    · exact hba
    · exact none_ok
    · exact row_ok (by simp) (list_ok2 hbb hbc)
    · exact row_ok (by simp) (by simp))) (by rw [p2]; simp; omega)) (by simp) ?_
  repeat (first | (refine andI_intro (by (try dsimp only at *); omega) ?_) | simp)
  intro M3 hM3
  repeat (first | (refine andI_intro (by (try dsimp only at *); omega) ?_) | simp)
  refine pcallI_pure' (plain_spec X hba (by omega)) (by simp) ?_
  repeat (first | (refine andI_intro (by (try dsimp only at *); omega) ?_) | simp)
  refine pcallI_pure' (plain_spec Y hbb (by omega)) (by simp) ?_
  repeat (first | (refine andI_intro (by (try dsimp only at *); omega) ?_) | simp)
  refine pcallI_pure' (plain_spec Z hbc (by omega)) (by simp) ?_
  repeat (first | (refine andI_intro (by (try dsimp only at *); omega) ?_) | simp)
  intro M4 hM4
  repeat (first | (refine andI_intro (by (try dsimp only at *); omega) ?_) | simp)
  refine hcallI_pure (join_spec V false [X, Y, Z] (by simp)) (by simp) (fun M5 hM5 => ?_)
  repeat (first | (refine andI_intro (by (try dsimp only at *); omega) ?_) | simp)
  have p4 : plain (row true (joined V [X, Y, Z])) = plain X ++ plain V ++ plain Y ++ plain V ++ plain Z := by
    rw [plain_rowL]; simp [joined, between, plainL]
  have ok5 : ∀ x, x ∈ [X, V, Y, V, Z] → x.ok := by
    intro x hx; simp at hx
    rcases hx with rfl | rfl | rfl | rfl | rfl <;> assumption
  have ok4 : (row true (joined V [X, Y, Z])).ok := row_ok (by simp [joined, between]) (fun x hx => ok5 x (by simpa [joined, between] using hx))
  refine hcallI_pure (plain_spec (row true (joined V [X, Y, Z])) ok4 (by rw [p4]; simp; omega)) (by simp) (fun M6 hM6 => ?_)
  repeat (first | (refine andI_intro (by (try dsimp only at *); omega) ?_) | simp)
  have p5 : plain (row false [X, V, Y, V, Z]) = plain X ++ plain V ++ plain Y ++ plain V ++ plain Z := by
    rw [plain_rowL]; simp [plainL]
  refine hcallI_pure (row_spec false [X, V, Y, V, Z] (by simp)) (by simp) (fun M7 hM7 => ?_)
  repeat (first | (refine andI_intro (by (try dsimp only at *); omega) ?_) | simp)
  refine hcallI_pure (plain_spec (row false [X, V, Y, V, Z]) (row_ok (by simp) ok5) (by rw [p5]; simp; omega)) (by simp) (fun M8 hM8 => ?_)
  repeat (first | (refine andI_intro (by (try dsimp only at *); omega) ?_) | simp)
  refine pcallI_pure' known_spec rfl ?_
  repeat (first | (refine andI_intro (by (try dsimp only at *); omega) ?_) | simp)
  have al : ∀ (a b : List Pc) (A B : AV), IsRow A (a.map Pc.enc) → IsRow B (b.map Pc.enc) → a = b → a.length ≤ 140737488355328 → PCall Try.prog W0 19 [A, B] (.bool true) := fun a b A B h1 h2 h3 h4 => by
    have := alike_spec (W0 := W0) a b h1 h2 h4
    rwa [(pcsEq_iff _ _).2 h3] at this
  rw [p1, p2]
  refine pcallI_pure' (al (plain X ++ plain Y ++ plain Z) (plain X ++ plain Y ++ plain Z) _ _ (IsRow.rowV _) (IsRow.rowV _) rfl (by simp; omega)) (by simp) ?_
  repeat (first | (refine andI_intro (by (try dsimp only at *); omega) ?_) | simp)
  refine pcallI_pure' (al (plain X ++ plain Y ++ plain Z) (plain X ++ plain Y ++ plain Z) (rowV ((plain X ++ plain Y ++ plain Z).map Pc.enc)) (.row ((plain X ++ plain Y ++ plain Z).map Pc.enc) none) (IsRow.rowV _) (.inr rfl) rfl (by simp; omega)) (by simp) ?_
  repeat (first | (refine andI_intro (by (try dsimp only at *); omega) ?_) | simp)
  rw [p4, p5]
  refine pcallI_pure' (al (plain X ++ plain V ++ plain Y ++ plain V ++ plain Z) (plain X ++ plain V ++ plain Y ++ plain V ++ plain Z) (rowV ((plain X ++ plain V ++ plain Y ++ plain V ++ plain Z).map Pc.enc)) (rowV ((plain X ++ plain V ++ plain Y ++ plain V ++ plain Z).map Pc.enc)) (IsRow.rowV _) (IsRow.rowV _) rfl (by simp; omega)) (by simp) ?_
  repeat (first | (refine andI_intro (by (try dsimp only at *); omega) ?_) | simp)
  refine pcallI_pure' (join_spec V true [] (by simp)) (by simp) ?_
  repeat (first | (refine andI_intro (by (try dsimp only at *); omega) ?_) | simp)
  have p6 : plain (row true (joined V [])) = [] := by rw [plain_rowL]; simp [joined, plainL]
  refine pcallI_pure' (plain_spec (row true (joined V [])) (row_ok (by simp [joined]) (by simp [joined])) (by rw [p6]; simp)) (by simp) ?_
  rw [p6]
  repeat (first | (refine andI_intro (by (try dsimp only at *); omega) ?_) | simp)
  refine pcallI_pure' (join_spec V false [X] (by simp)) (by simp) ?_
  repeat (first | (refine andI_intro (by (try dsimp only at *); omega) ?_) | simp)
  have p7 : plain (row true (joined V [X])) = plain X := by rw [plain_rowL]; simp [joined, between, plainL]
  refine pcallI_pure' (plain_spec (row true (joined V [X])) (row_ok (by simp [joined, between]) (by simp [joined, between]; exact hba)) (by rw [p7]; omega)) (by simp) ?_
  rw [p7]
  repeat (first | (refine andI_intro (by (try dsimp only at *); omega) ?_) | simp)
  refine pcallI_pure' (plain_spec X hba (by omega)) (by simp) ?_
  repeat (first | (refine andI_intro (by (try dsimp only at *); omega) ?_) | simp)
  refine pcallI_pure' (al (plain X) (plain X) (rowV ((plain X).map Pc.enc)) (rowV ((plain X).map Pc.enc)) (IsRow.rowV _) (IsRow.rowV _) rfl (by omega)) (by simp) ?_
  repeat (first | (refine andI_intro (by (try dsimp only at *); omega) ?_) | simp)
end Go.Proofs.Ytgahmpfpnclefaa.Lt
