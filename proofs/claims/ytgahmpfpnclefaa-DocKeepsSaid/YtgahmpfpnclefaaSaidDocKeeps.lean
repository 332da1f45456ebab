/- 'DocKeeps', true, whatever the input; the input reads as it did. Conditions: none. -/
import Derived.Test.YtgahmpfpnclefaaRows
import Derived.Test.YtgahmpfpnclefaaDoc12
import Derived.Test.YtgahmpfpnclefaaDoc13
import Derived.Test.YtgahmpfpnclefaaKp4
import Derived.WalkKit
import Derived.ProofKit
import Derived.OpenShut
import Derived.ShutString
import Derived.ChangeOld
import Derived.Below
import Derived.SizedLaws
import Derived.Deep.CondSized
namespace Go.Proofs.Ytgahmpfpnclefaa.docKeeps
open Go.ChangeShapes Go.WideShapes Go.ChangeAt Go.RowKit
open Go.Proofs.YtgahmpfpnclefaaW.Abs Go.Proofs.Ytgahmpfpnclefaa.Lt
set_option linter.unusedVariables false
theorem own : ownKnob Try.prog.godebug = none := by kernel_rfl
theorem laidOut : laidOutB Try.prog = true := by kernel_rfl
set_option maxRecDepth 100000 in
theorem lifted (os : Os) (started : os.Started) (H : Type) (enc : TypeId × Value → H) :
    ReturnsInHanded {} Try.checked os 7 .any (Rows.docKeepsSpec.pre6 enc Try.prog Try.f7 Rows.docKeepsRow.domain false) (Rows.docKeepsSpec.post enc Try.prog Try.f7 false true false false) := by
  refine returnsInHanded_of_change_sized (C := Try.checked) own started (by kernel_rfl) Try.func7
    (ChangeSpec.witness6 (enc := enc) (C := Try.checked) false ⟨#[], #[.agg #[.int .i64 0, .string .empty, .slice none 0 0]], []⟩ 8 (by kernel_rfl) (by kernel_rfl) (by kernel_rfl) (by kernel_rfl)) ?_
  intro W base args ds gs before hval0 hW hcnd hsz0 _
  have hsz : (DataW.weightsEach Try.prog (Try.f7.params.toList ++ Rows.docKeepsSpec.plain.varTypes Try.prog) (ds ++ gs)).all (· ≤ reachBytes) = true := hsz0
  have hval : ∀ (j : Nat) t v, Try.f7.params[j]? = some t → args[j]? = some v → Value.okWide Try.prog W .any base t v := hval0
  have hW' := hW
  obtain ⟨p, q, hA0, hV, rfl, hfz, hnd⟩ := hW
  have hA : DataW.TrodAll enc Try.prog W 0 (fun _ => true) true Try.f7.params.toList args.toList ds p := hA0
  rw [Try.params7] at hA hval hsz
  obtain ⟨v0, vs0, d0, ds0, p0, q0, hargs0, rfl, rfl, h0, r0⟩ := trodAll_cons hA
  obtain ⟨rfl, rfl, rfl⟩ := trodAll_nil r0
  obtain rfl : args = #[v0] := by cases args; simp_all
  obtain ⟨rfl, rfl⟩ := trodVars_none hV
  have k0 := h0
  have lt0 : ∀ x ∈ p0, x.block < W.heap.size := by obtain ⟨m, hm⟩ := k0; exact DataW.trod_lt m _ _ _ hm
  obtain ⟨t0, ht0, hok0⟩ : ∃ t : T, Reps (inE W) t.enc v0.cells.toList ∧ t.ok := by
    obtain ⟨fuel, hf⟩ := h0
    obtain ⟨t, q1, q2⟩ := rd_T fuel 24 ⟨rfl, by kernel_rfl⟩ _ _ _ hf
    exact ⟨t, q1, q2 (fun n hn => by
      have := List.all_eq_true.1 hsz n (by simp [DataW.weightsEach, hn])
      simpa using this)⟩
  have hrep0 : Rep (inE W) (.agg t0.enc) v0 := by
    have h24 := hval 0 24 v0 rfl rfl
    unfold Value.okWide at h24
    rw [Try.underlying24] at h24
    obtain ⟨cs, rfl, _⟩ := h24
    exact .agg' ht0
  clear hA0 hval0 hsz0 hsz
  refine (ACalls.join (((docKeeps_spec t0 hok0) ⟨0, fun _ => none⟩).mono fun o σ' _ h => h.1) (vs := #[v0]) (.cons hrep0 .nil)).mono fun e W' ⟨he, bel⟩ => ?_
  subst he
  exact ⟨_, rfl, _, _, _, [], _, [], hW', trodAll_mk1 (shut_bool Try.underlying4 _), (trodAll_cons_mk (Below.trod laidOut (by kernel_rfl) (of_decide_eq_true (by kernel_rfl)) k0 bel lt0) trodAll_mk0), rfl, bel.frame _, fun h => by cases h⟩
theorem over : Rows.DocKeepsSaid :=
  OpenClaim.holds_of_wide 7 Try.f7 rfl rfl rfl rfl rfl rfl rfl ⟨rfl, rfl, rfl, rfl, rfl⟩ rfl rfl rfl rfl rfl (by kernel_rfl) Try.func7 (by kernel_rfl)
    (of_decide_eq_true (by kernel_rfl)) (by unfold Func.isWrapper; first | (rw [if_pos (by decide +kernel)]; kernel_rfl) | (rw [if_neg (by decide +kernel)]; exact ⟨rfl, rfl⟩))
    (fun os started H enc _ => lifted os started H enc)
end Go.Proofs.Ytgahmpfpnclefaa.docKeeps
namespace Go.Proofs.Ytgahmpfpnclefaa
theorem docKeeps_holds : Rows.DocKeepsSaid := docKeeps.over
end Go.Proofs.Ytgahmpfpnclefaa
