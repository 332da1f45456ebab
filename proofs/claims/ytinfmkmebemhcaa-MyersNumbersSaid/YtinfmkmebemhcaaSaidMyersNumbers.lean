/- 'MyersNumbers', true, whatever the input; the input reads as it did. Conditions: none. -/
import Derived.Test.YtinfmkmebemhcaaRows
import Derived.Test.YtinfmkmebemhcaaA23
import Derived.Test.YtinfmkmebemhcaaMt17
import Derived.WalkKit
import Derived.ProofKit
import Derived.OpenShut
import Derived.ShutString
import Derived.ChangeOld
import Derived.Below
import Derived.SizedLaws
namespace Go.Proofs.Ytinfmkmebemhcaa.myersNumbers
open Go.ChangeShapes Go.WideShapes Go.ChangeAt Go.RowKit
open Go.Proofs.YtinfmkmebemhcaaW.Abs Go.Proofs.Ytinfmkmebemhcaa.Lt
set_option linter.unusedVariables false
theorem own : ownKnob Try.prog.godebug = none := by kernel_rfl
theorem laidOut : laidOutB Try.prog = true := by kernel_rfl
set_option maxRecDepth 100000 in
theorem lifted (os : Os) (started : os.Started) (H : Type) (enc : TypeId × Value → H) :
    ReturnsInHanded {} Try.checked os 6 .any (Rows.myersNumbersSpec.pre6 enc Try.prog Try.f6 Rows.myersNumbersRow.domain false) (Rows.myersNumbersSpec.post enc Try.prog Try.f6 false true false false) := by
  refine returnsInHanded_of_change_sized (C := Try.checked) own started (by kernel_rfl) Try.func6
    (ChangeSpec.witness6 (enc := enc) (C := Try.checked) false ⟨#[], #[.slice none 0 0], []⟩ 8 (by kernel_rfl) (by kernel_rfl) (by kernel_rfl) (by kernel_rfl)) ?_
  intro W base args ds gs before hval0 hW hcnd hsz0 _
  have hsz : (DataW.weightsEach Try.prog (Try.f6.params.toList ++ Rows.myersNumbersSpec.plain.varTypes Try.prog) (ds ++ gs)).all (· ≤ reachBytes) = true := hsz0
  have hval : ∀ (j : Nat) t v, Try.f6.params[j]? = some t → args[j]? = some v → Value.okWide Try.prog W .any base t v := hval0
  have hW' := hW
  obtain ⟨p, q, hA0, hV, rfl, hfz, hnd⟩ := hW
  have hA : DataW.TrodAll enc Try.prog W 0 (fun _ => true) true Try.f6.params.toList args.toList ds p := hA0
  rw [Try.params6] at hA hval hsz
  obtain ⟨v0, vs0, d0, ds0, p0, q0, hargs0, rfl, rfl, h0, r0⟩ := trodAll_cons hA
  obtain ⟨rfl, rfl, rfl⟩ := trodAll_nil r0
  obtain rfl : args = #[v0] := by cases args; simp_all
  obtain ⟨rfl, rfl⟩ := trodVars_none hV
  have k0 := h0
  have lt0 : ∀ x ∈ p0, x.block < W.heap.size := by obtain ⟨m, hm⟩ := k0; exact DataW.trod_lt m _ _ _ hm
  obtain ⟨a0, len0, cap0, hv0⟩ := okWide_slice Try.underlying36 (hval 0 36 v0 rfl rfl)
  obtain ⟨l0, A0, rep0, row0⟩ : ∃ (L : List Txs) (A : AV), Rep (inE W) A v0 ∧ IsRow A (L.map fun t => [t.v]) := by
    obtain ⟨fuel, hf⟩ := h0
    obtain ⟨L, A, h1, h2⟩ := inTxss Try.underlying36 Try.underlying37 Try.underlying38 Try.underlying5 (by kernel_rfl) (by kernel_rfl) (by kernel_rfl) hf
    rw [hv0] at h1
    exact ⟨L, A, by rw [hv0]; exact h1.2 0 _ _ rfl rfl, h2⟩
  clear hA0 hval0 hval hsz0 hsz
  refine (ACalls.join (((myersNumbers_spec l0 row0) ⟨0, fun _ => none⟩).mono fun o σ' _ h => h.1) (vs := #[v0]) (.cons rep0 .nil)).mono fun e W' ⟨he, bel⟩ => ?_
  subst he
  exact ⟨_, rfl, _, _, _, [], _, [], hW', trodAll_mk1 (shut_bool Try.underlying4 _), (trodAll_cons_mk (Below.trod laidOut (by kernel_rfl) (of_decide_eq_true (by kernel_rfl)) k0 bel lt0) trodAll_mk0), rfl, bel.frame _, fun h => by cases h⟩
theorem over : Rows.MyersNumbersSaid :=
  OpenClaim.holds_of_wide 6 Try.f6 rfl rfl rfl rfl rfl rfl rfl ⟨rfl, rfl, rfl, rfl, rfl⟩ rfl rfl rfl rfl rfl (by kernel_rfl) Try.func6 (by kernel_rfl)
    (of_decide_eq_true (by kernel_rfl)) (by unfold Func.isWrapper; first | (rw [if_pos (by decide +kernel)]; kernel_rfl) | (rw [if_neg (by decide +kernel)]; exact ⟨rfl, rfl⟩))
    (fun os started H enc _ => lifted os started H enc)
end Go.Proofs.Ytinfmkmebemhcaa.myersNumbers
namespace Go.Proofs.Ytinfmkmebemhcaa
theorem myersNumbers_holds : Rows.MyersNumbersSaid := myersNumbers.over
end Go.Proofs.Ytinfmkmebemhcaa
