/- 'DocRows', true, whatever the input; the input reads as it did. Conditions: none. -/
import Derived.Test.YtgahmpfpnclefaaRows
import Derived.Test.YtgahmpfpnclefaaDoc12
import Derived.Test.YtgahmpfpnclefaaDoc13
import Derived.Test.YtgahmpfpnclefaaDoc14
import Derived.WalkKit
import Derived.ProofKit
import Derived.OpenShut
import Derived.ShutString
import Derived.ChangeOld
import Derived.Below
import Derived.SizedLaws
import Derived.Deep.CondSized
namespace Go.Proofs.Ytgahmpfpnclefaa.docRows
open Go.ChangeShapes Go.WideShapes Go.ChangeAt Go.RowKit
open Go.Proofs.YtgahmpfpnclefaaW.Abs Go.Proofs.Ytgahmpfpnclefaa.Lt
set_option linter.unusedVariables false
theorem own : ownKnob Try.prog.godebug = none := by kernel_rfl
theorem laidOut : laidOutB Try.prog = true := by kernel_rfl
set_option maxRecDepth 100000 in
theorem lifted (os : Os) (started : os.Started) (H : Type) (enc : TypeId × Value → H) :
    ReturnsInHanded {} Try.checked os 6 .any (Rows.docRowsSpec.pre6 enc Try.prog Try.f6 Rows.docRowsRow.domain false) (Rows.docRowsSpec.post enc Try.prog Try.f6 false true false false) := by
  refine returnsInHanded_of_change_sized (C := Try.checked) own started (by kernel_rfl) Try.func6
    (ChangeSpec.witness6 (enc := enc) (C := Try.checked) false ⟨#[], #[.agg #[.int .i64 0, .string .empty, .slice none 0 0], .agg #[.int .i64 0, .string .empty, .slice none 0 0], .agg #[.int .i64 0, .string .empty, .slice none 0 0], .agg #[.int .i64 0, .string .empty, .slice none 0 0]], []⟩ 8 (by kernel_rfl) (by kernel_rfl) (by kernel_rfl) (by kernel_rfl)) ?_
  intro W base args ds gs before hval0 hW hcnd hsz0 _
  have hsz : (DataW.weightsEach Try.prog (Try.f6.params.toList ++ Rows.docRowsSpec.plain.varTypes Try.prog) (ds ++ gs)).all (· ≤ reachBytes) = true := hsz0
  have hval : ∀ (j : Nat) t v, Try.f6.params[j]? = some t → args[j]? = some v → Value.okWide Try.prog W .any base t v := hval0
  have hW' := hW
  obtain ⟨p, q, hA0, hV, rfl, hfz, hnd⟩ := hW
  have hA : DataW.TrodAll enc Try.prog W 0 (fun _ => true) true Try.f6.params.toList args.toList ds p := hA0
  rw [Try.params6] at hA hval hsz
  obtain ⟨v0, vs0, d0, ds0, p0, q0, hargs0, rfl, rfl, h0, r0⟩ := trodAll_cons hA
  obtain ⟨v1, vs1, d1, ds1, p1, q1, hargs1, rfl, rfl, h1, r1⟩ := trodAll_cons r0
  obtain ⟨v2, vs2, d2, ds2, p2, q2, hargs2, rfl, rfl, h2, r2⟩ := trodAll_cons r1
  obtain ⟨v3, vs3, d3, ds3, p3, q3, hargs3, rfl, rfl, h3, r3⟩ := trodAll_cons r2
  obtain ⟨rfl, rfl, rfl⟩ := trodAll_nil r3
  subst hargs1
  subst hargs2
  subst hargs3
  obtain rfl : args = #[v0, v1, v2, v3] := by cases args; simp_all
  obtain ⟨rfl, rfl⟩ := trodVars_none hV
  have k0 := h0
  have lt0 : ∀ x ∈ p0, x.block < W.heap.size := by obtain ⟨m, hm⟩ := k0; exact DataW.trod_lt m _ _ _ hm
  obtain ⟨t0, ht0, hok0⟩ : ∃ t : T, Reps (inE W) t.enc v0.cells.toList ∧ t.ok := by
    obtain ⟨fuel, hf⟩ := h0
    obtain ⟨t, q1, q2⟩ := rd_T fuel 24 ⟨rfl, by kernel_rfl⟩ _ _ _ hf
    exact ⟨t, q1, q2 (fun n hn => by
      have := List.all_eq_true.1 hsz n (by simp [DataW.weightsEach, hn])
      simpa using this)⟩
  have hrep0 : Rep (inE W) (.agg t0.enc) v0 := by
    have h24 := hval 0 24 v0 rfl rfl
    unfold Value.okWide at h24
    rw [Try.underlying24] at h24
    obtain ⟨cs, rfl, _⟩ := h24
    exact .agg' ht0
  have k1 := h1
  have lt1 : ∀ x ∈ p1, x.block < W.heap.size := by obtain ⟨m, hm⟩ := k1; exact DataW.trod_lt m _ _ _ hm
  obtain ⟨t1, ht1, hok1⟩ : ∃ t : T, Reps (inE W) t.enc v1.cells.toList ∧ t.ok := by
    obtain ⟨fuel, hf⟩ := h1
    obtain ⟨t, q1, q2⟩ := rd_T fuel 24 ⟨rfl, by kernel_rfl⟩ _ _ _ hf
    exact ⟨t, q1, q2 (fun n hn => by
      have := List.all_eq_true.1 hsz n (by simp [DataW.weightsEach, hn])
      simpa using this)⟩
  have hrep1 : Rep (inE W) (.agg t1.enc) v1 := by
    have h24 := hval 1 24 v1 rfl rfl
    unfold Value.okWide at h24
    rw [Try.underlying24] at h24
    obtain ⟨cs, rfl, _⟩ := h24
    exact .agg' ht1
  have k2 := h2
  have lt2 : ∀ x ∈ p2, x.block < W.heap.size := by obtain ⟨m, hm⟩ := k2; exact DataW.trod_lt m _ _ _ hm
  obtain ⟨t2, ht2, hok2⟩ : ∃ t : T, Reps (inE W) t.enc v2.cells.toList ∧ t.ok := by
    obtain ⟨fuel, hf⟩ := h2
    obtain ⟨t, q1, q2⟩ := rd_T fuel 24 ⟨rfl, by kernel_rfl⟩ _ _ _ hf
    exact ⟨t, q1, q2 (fun n hn => by
      have := List.all_eq_true.1 hsz n (by simp [DataW.weightsEach, hn])
      simpa using this)⟩
  have hrep2 : Rep (inE W) (.agg t2.enc) v2 := by
    have h24 := hval 2 24 v2 rfl rfl
    unfold Value.okWide at h24
    rw [Try.underlying24] at h24
    obtain ⟨cs, rfl, _⟩ := h24
    exact .agg' ht2
  have k3 := h3
  have lt3 : ∀ x ∈ p3, x.block < W.heap.size := by obtain ⟨m, hm⟩ := k3; exact DataW.trod_lt m _ _ _ hm
  obtain ⟨t3, ht3, hok3⟩ : ∃ t : T, Reps (inE W) t.enc v3.cells.toList ∧ t.ok := by
    obtain ⟨fuel, hf⟩ := h3
    obtain ⟨t, q1, q2⟩ := rd_T fuel 24 ⟨rfl, by kernel_rfl⟩ _ _ _ hf
    exact ⟨t, q1, q2 (fun n hn => by
      have := List.all_eq_true.1 hsz n (by simp [DataW.weightsEach, hn])
      simpa using this)⟩
  have hrep3 : Rep (inE W) (.agg t3.enc) v3 := by
    have h24 := hval 3 24 v3 rfl rfl
    unfold Value.okWide at h24
    rw [Try.underlying24] at h24
    obtain ⟨cs, rfl, _⟩ := h24
    exact .agg' ht3
  clear hA0 hval0 hsz0 hsz
  refine (ACalls.join (((docRows_spec t0 t1 t2 t3 hok0 hok1 hok2 hok3) ⟨0, fun _ => none⟩).mono fun o σ' _ h => h.1) (vs := #[v0, v1, v2, v3]) (.cons hrep0 (.cons hrep1 (.cons hrep2 (.cons hrep3 .nil))))).mono fun e W' ⟨he, bel⟩ => ?_
  subst he
  exact ⟨_, rfl, _, _, _, [], _, [], hW', trodAll_mk1 (shut_bool Try.underlying4 _), (trodAll_cons_mk (Below.trod laidOut (by kernel_rfl) (of_decide_eq_true (by kernel_rfl)) k0 bel lt0) (trodAll_cons_mk (Below.trod laidOut (by kernel_rfl) (of_decide_eq_true (by kernel_rfl)) k1 bel lt1) (trodAll_cons_mk (Below.trod laidOut (by kernel_rfl) (of_decide_eq_true (by kernel_rfl)) k2 bel lt2) (trodAll_cons_mk (Below.trod laidOut (by kernel_rfl) (of_decide_eq_true (by kernel_rfl)) k3 bel lt3) trodAll_mk0)))), rfl, bel.frame _, fun h => by cases h⟩
theorem over : Rows.DocRowsSaid :=
  OpenClaim.holds_of_wide 6 Try.f6 rfl rfl rfl rfl rfl rfl rfl ⟨rfl, rfl, rfl, rfl, rfl⟩ rfl rfl rfl rfl rfl (by kernel_rfl) Try.func6 (by kernel_rfl)
    (of_decide_eq_true (by kernel_rfl)) (by unfold Func.isWrapper; first | (rw [if_pos (by decide +kernel)]; kernel_rfl) | (rw [if_neg (by decide +kernel)]; exact ⟨rfl, rfl⟩))
    (fun os started H enc _ => lifted os started H enc)
end Go.Proofs.Ytgahmpfpnclefaa.docRows
namespace Go.Proofs.Ytgahmpfpnclefaa
theorem docRows_holds : Rows.DocRowsSaid := docRows.over
end Go.Proofs.Ytgahmpfpnclefaa
