/- 'LayoutWords', where what it reads is of bulk at most 1048576, true, whatever the input; the input reads as it did. Conditions: none beside the bulk. -/
import Derived.Test.YtoeonamjbohokaaRows
import Derived.Test.YtoeonamjbohokaaA23
import Derived.Test.YtoeonamjbohokaaLg
import Derived.Test.YtoeonamjbohokaaDd
import Derived.WalkKit
import Derived.ProofKit
import Derived.OpenShut
import Derived.ShutString
import Derived.ChangeOld
import Derived.Below
import Derived.SizedLaws
import Derived.Deep.CondSized
namespace Go.Proofs.Ytoeonamjbohokaa.layoutWords
open Go.ChangeShapes Go.WideShapes Go.ChangeAt Go.RowKit
open Go.Proofs.YtoeonamjbohokaaW.Abs Go.Proofs.Ytoeonamjbohokaa.Lt
set_option linter.unusedVariables false
theorem own : ownKnob Try.prog.godebug = none := by kernel_rfl
theorem laidOut : laidOutB Try.prog = true := by kernel_rfl
set_option maxRecDepth 100000 in
theorem lifted (os : Os) (started : os.Started) (H : Type) (enc : TypeId × Value → H) (F : Stop.Interp) :
    ReturnsInHanded {} Try.checked os 5 .any ((Rows.OpenSpec.upto Rows.layoutWordsSpec).pre6 enc Try.prog Try.f5 Rows.layoutWordsUptoRow.domain false) (((Rows.OpenSpec.upto Rows.layoutWordsSpec).at F).post enc Try.prog Try.f5 false true false false) := by
  refine returnsInHanded_of_cond (C := Try.checked) (s := Rows.OpenSpec.upto Rows.layoutWordsSpec) (k := Rows.uptoSmall) rfl own started (by kernel_rfl) Try.func5
    (OpenSpec.witness (enc := enc) (C := Try.checked) (s := Rows.OpenSpec.upto Rows.layoutWordsSpec) (k := Rows.uptoSmall) rfl false ⟨#[], #[.agg #[.int .i64 0, .string .empty, .slice none 0 0], .int .i64 0, .int .i64 0], []⟩ 8 (by kernel_rfl) (by kernel_rfl) (by kernel_rfl)
      (x := ([.agg [.lit (.int .i64 0), .lit (.string []), .nil], .lit (.int .i64 0), .lit (.int .i64 0)], [], [])) (by kernel_rfl) rfl (by kernel_rfl)) ?_
  intro W base args ds gs before hval0 hW _ hk _
  have hval : ∀ (j : Nat) t v, Try.f5.params[j]? = some t → args[j]? = some v → Value.okWide Try.prog W .any base t v := hval0
  have hW' := hW
  obtain ⟨p, q, hA0, hV, rfl, hfz, hnd⟩ := hW
  have hA : DataW.TrodAll enc Try.prog W 0 (fun _ => true) true Try.f5.params.toList args.toList ds p := hA0
  rw [Try.params5] at hA hval
  obtain ⟨v0, vs0, d0, ds0, p0, q0, hargs0, rfl, rfl, h0, r0⟩ := trodAll_cons hA
  obtain ⟨v1, vs1, d1, ds1, p1, q1, hargs1, rfl, rfl, h1, r1⟩ := trodAll_cons r0
  obtain ⟨v2, vs2, d2, ds2, p2, q2, hargs2, rfl, rfl, h2, r2⟩ := trodAll_cons r1
  obtain ⟨rfl, rfl, rfl⟩ := trodAll_nil r2
  subst hargs1
  subst hargs2
  obtain rfl : args = #[v0, v1, v2] := by cases args; simp_all
  obtain ⟨rfl, rfl⟩ := trodVars_none hV
  have hsum : Rows.uptoBulkAll (([d0, d1, d2] : List (DataW H)) ++ []) ≤ 1048576 := of_decide_eq_true hk
  simp only [List.append_nil, Rows.uptoBulkAll] at hsum
  have k0 := h0
  have lt0 : ∀ x ∈ p0, x.block < W.heap.size := by obtain ⟨m, hm⟩ := k0; exact DataW.trod_lt m _ _ _ hm
  obtain ⟨t0, ht0, hb0⟩ : ∃ t : T, Reps (inE W) t.enc v0.cells.toList ∧ bulk t ≤ Rows.uptoBulk d0 := by
    obtain ⟨fuel, hf⟩ := h0
    exact rd_B fuel 27 ⟨rfl, by kernel_rfl⟩ _ _ _ hf
  have rep0 : Rep (inE W) (.agg t0.enc) v0 := by
    have h24 := hval 0 27 v0 rfl rfl
    unfold Value.okWide at h24
    rw [Try.underlying27] at h24
    obtain ⟨cs, rfl, _⟩ := h24
    exact .agg' ht0
  have k1 := h1
  have lt1 : ∀ x ∈ p1, x.block < W.heap.size := by obtain ⟨m, hm⟩ := k1; exact DataW.trod_lt m _ _ _ hm
  obtain ⟨n1, rfl⟩ := okWide_int Try.underlying3 (hval 1 3 v1 rfl rfl)
  have wf1 : (Lit.int .i64 n1).wf = true := by
    obtain ⟨fuel, hf⟩ := h1
    obtain ⟨x, e, _, hw⟩ := inInt Try.underlying3 hf
    simp [Value.cells] at e; rw [e]; exact hw
  have rep1 : Rep (inE W) (.int .i64 n1) (.int .i64 n1) := .int _ _
  have k2 := h2
  have lt2 : ∀ x ∈ p2, x.block < W.heap.size := by obtain ⟨m, hm⟩ := k2; exact DataW.trod_lt m _ _ _ hm
  obtain ⟨n2, rfl⟩ := okWide_int Try.underlying3 (hval 2 3 v2 rfl rfl)
  have wf2 : (Lit.int .i64 n2).wf = true := by
    obtain ⟨fuel, hf⟩ := h2
    obtain ⟨x, e, _, hw⟩ := inInt Try.underlying3 hf
    simp [Value.cells] at e; rw [e]; exact hw
  have rep2 : Rep (inE W) (.int .i64 n2) (.int .i64 n2) := .int _ _
  clear hA0 hval0 hval
  refine (ACalls.join (((layoutWords_spec t0 (by omega) n1 wf1 n2 wf2) ⟨0, fun _ => none⟩).mono fun o σ' _ h => h.1) (vs := #[v0, .int .i64 n1, .int .i64 n2]) (.cons rep0 (.cons rep1 (.cons rep2 .nil)))).mono fun e W' ⟨he, bel⟩ => ?_
  subst he
  exact ⟨_, rfl, _, _, _, [], _, [], hW', trodAll_mk1 (shut_bool Try.underlying4 _), (trodAll_cons_mk (Below.trod laidOut (by kernel_rfl) (of_decide_eq_true (by kernel_rfl)) k0 bel lt0) (trodAll_cons_mk (Below.trod laidOut (by kernel_rfl) (of_decide_eq_true (by kernel_rfl)) k1 bel lt1) (trodAll_cons_mk (Below.trod laidOut (by kernel_rfl) (of_decide_eq_true (by kernel_rfl)) k2 bel lt2) trodAll_mk0))), rfl, bel.frame _, fun h => by cases h⟩
theorem over : Rows.LayoutWordsUptoSaid :=
  OpenClaim.holds_of_cond 5 Try.f5 rfl rfl rfl rfl rfl rfl rfl ⟨rfl, rfl, rfl, rfl, rfl⟩ rfl rfl rfl rfl rfl (by kernel_rfl) Try.func5 (by kernel_rfl)
    (of_decide_eq_true (by kernel_rfl)) (by unfold Func.isWrapper; first | (rw [if_pos (by decide +kernel)]; kernel_rfl) | (rw [if_neg (by decide +kernel)]; exact ⟨rfl, rfl⟩))
    (fun os started H enc _ F => lifted os started H enc F)
end Go.Proofs.Ytoeonamjbohokaa.layoutWords
namespace Go.Proofs.Ytoeonamjbohokaa
theorem layoutWords_upto : Rows.LayoutWordsUptoSaid := layoutWords.over
end Go.Proofs.Ytoeonamjbohokaa
