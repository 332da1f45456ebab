/- 'LayoutWidths', true, whatever the input; the input reads as it did. Conditions: none. -/
import Derived.Test.YtoeonamjbohokaaRows
import Derived.Test.YtoeonamjbohokaaA23
import Derived.Test.YtoeonamjbohokaaLd
import Derived.WalkKit
import Derived.ProofKit
import Derived.OpenShut
import Derived.ShutString
import Derived.ChangeOld
import Derived.Below
import Derived.SizedLaws
namespace Go.Proofs.Ytoeonamjbohokaa.layoutWidths
open Go.ChangeShapes Go.WideShapes Go.ChangeAt Go.RowKit
open Go.Proofs.YtoeonamjbohokaaW.Abs Go.Proofs.Ytoeonamjbohokaa.Lt
set_option linter.unusedVariables false
theorem own : ownKnob Try.prog.godebug = none := by kernel_rfl
theorem laidOut : laidOutB Try.prog = true := by kernel_rfl
set_option maxRecDepth 100000 in
theorem lifted (os : Os) (started : os.Started) (H : Type) (enc : TypeId × Value → H) :
    ReturnsInHanded {} Try.checked os 3 .any (Rows.layoutWidthsSpec.pre6 enc Try.prog Try.f3 Rows.layoutWidthsRow.domain false) (Rows.layoutWidthsSpec.post enc Try.prog Try.f3 false true false false) := by
  refine returnsInHanded_of_change_sized (C := Try.checked) own started (by kernel_rfl) Try.func3
    (ChangeSpec.witness6 (enc := enc) (C := Try.checked) false ⟨#[], #[.string .empty, .string .empty], []⟩ 8 (by kernel_rfl) (by kernel_rfl) (by kernel_rfl) (by kernel_rfl)) ?_
  intro W base args ds gs before hval0 hW hcnd hsz0 _
  have hsz : (DataW.weightsEach Try.prog (Try.f3.params.toList ++ Rows.layoutWidthsSpec.plain.varTypes Try.prog) (ds ++ gs)).all (· ≤ reachBytes) = true := hsz0
  have hval : ∀ (j : Nat) t v, Try.f3.params[j]? = some t → args[j]? = some v → Value.okWide Try.prog W .any base t v := hval0
  have hW' := hW
  obtain ⟨p, q, hA0, hV, rfl, hfz, hnd⟩ := hW
  have hA : DataW.TrodAll enc Try.prog W 0 (fun _ => true) true Try.f3.params.toList args.toList ds p := hA0
  rw [Try.params3] at hA hval hsz
  obtain ⟨v0, vs0, d0, ds0, p0, q0, hargs0, rfl, rfl, h0, r0⟩ := trodAll_cons hA
  obtain ⟨v1, vs1, d1, ds1, p1, q1, hargs1, rfl, rfl, h1, r1⟩ := trodAll_cons r0
  obtain ⟨rfl, rfl, rfl⟩ := trodAll_nil r1
  subst hargs1
  obtain rfl : args = #[v0, v1] := by cases args; simp_all
  obtain ⟨rfl, rfl⟩ := trodVars_none hV
  have k0 := h0
  have lt0 : ∀ x ∈ p0, x.block < W.heap.size := by obtain ⟨m, hm⟩ := k0; exact DataW.trod_lt m _ _ _ hm
  have wt0 : ∀ n ∈ DataW.weights Try.prog 9 d0, n ≤ reachBytes := fun n hn => by
    have := List.all_eq_true.1 hsz n (by simp [DataW.weightsEach, hn])
    simpa using this
  obtain ⟨z0, hz0⟩ := okWide_string Try.underlying9 (hval 0 9 v0 rfl rfl)
  obtain ⟨s0, rep0, sz0⟩ : ∃ s : List UInt8, Rep (inE W) (.str s) v0 ∧ s.length ≤ 140737488351232 := by
    obtain ⟨fuel, hf⟩ := h0
    obtain ⟨s, e, rfl⟩ := inString Try.underlying9 hf
    rw [hz0] at e ⊢
    simp [Value.cells] at e
    refine ⟨s, by rw [e]; exact .str _, ?_⟩
    have := wt0 s.length (by simp [DataW.weights]); simpa [reachBytes] using this
  have k1 := h1
  have lt1 : ∀ x ∈ p1, x.block < W.heap.size := by obtain ⟨m, hm⟩ := k1; exact DataW.trod_lt m _ _ _ hm
  have wt1 : ∀ n ∈ DataW.weights Try.prog 9 d1, n ≤ reachBytes := fun n hn => by
    have := List.all_eq_true.1 hsz n (by simp [DataW.weightsEach, hn])
    simpa using this
  obtain ⟨z1, hz1⟩ := okWide_string Try.underlying9 (hval 1 9 v1 rfl rfl)
  obtain ⟨s1, rep1, sz1⟩ : ∃ s : List UInt8, Rep (inE W) (.str s) v1 ∧ s.length ≤ 140737488351232 := by
    obtain ⟨fuel, hf⟩ := h1
    obtain ⟨s, e, rfl⟩ := inString Try.underlying9 hf
    rw [hz1] at e ⊢
    simp [Value.cells] at e
    refine ⟨s, by rw [e]; exact .str _, ?_⟩
    have := wt1 s.length (by simp [DataW.weights]); simpa [reachBytes] using this
  clear hA0 hval0 hval hsz0 hsz
  refine (ACalls.join (((layoutWidths_spec s0 sz0 s1 sz1) ⟨0, fun _ => none⟩).mono fun o σ' _ h => h.1) (vs := #[v0, v1]) (.cons rep0 (.cons rep1 .nil))).mono fun e W' ⟨he, bel⟩ => ?_
  subst he
  exact ⟨_, rfl, _, _, _, [], _, [], hW', trodAll_mk1 (shut_bool Try.underlying4 _), (trodAll_cons_mk (Below.trod laidOut (by kernel_rfl) (of_decide_eq_true (by kernel_rfl)) k0 bel lt0) (trodAll_cons_mk (Below.trod laidOut (by kernel_rfl) (of_decide_eq_true (by kernel_rfl)) k1 bel lt1) trodAll_mk0)), rfl, bel.frame _, fun h => by cases h⟩
theorem over : Rows.LayoutWidthsSaid :=
  OpenClaim.holds_of_wide 3 Try.f3 rfl rfl rfl rfl rfl rfl rfl ⟨rfl, rfl, rfl, rfl, rfl⟩ rfl rfl rfl rfl rfl (by kernel_rfl) Try.func3 (by kernel_rfl)
    (of_decide_eq_true (by kernel_rfl)) (by unfold Func.isWrapper; first | (rw [if_pos (by decide +kernel)]; kernel_rfl) | (rw [if_neg (by decide +kernel)]; exact ⟨rfl, rfl⟩))
    (fun os started H enc _ => lifted os started H enc)
end Go.Proofs.Ytoeonamjbohokaa.layoutWidths
namespace Go.Proofs.Ytoeonamjbohokaa
theorem layoutWidths_holds : Rows.LayoutWidthsSaid := layoutWidths.over
end Go.Proofs.Ytoeonamjbohokaa
