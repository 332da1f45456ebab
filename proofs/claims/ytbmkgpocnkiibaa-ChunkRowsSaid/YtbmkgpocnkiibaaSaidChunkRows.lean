/- 'ChunkRows', true, whatever the input; the input reads as it did. Conditions: none. -/
import Derived.Test.YtbmkgpocnkiibaaRows
import Derived.Test.YtbmkgpocnkiibaaA23
import Derived.Test.YtbmkgpocnkiibaaRa
import Derived.WalkKit
import Derived.ProofKit
import Derived.OpenShut
import Derived.ShutString
import Derived.ChangeOld
import Derived.Below
import Derived.SizedLaws
namespace Go.Proofs.Ytbmkgpocnkiibaa.chunkRows
open Go.ChangeShapes Go.WideShapes Go.ChangeAt Go.RowKit
open Go.Proofs.YtbmkgpocnkiibaaW.Abs Go.Proofs.Ytbmkgpocnkiibaa.Lt
set_option linter.unusedVariables false
theorem own : ownKnob Try.prog.godebug = none := by kernel_rfl
theorem laidOut : laidOutB Try.prog = true := by kernel_rfl
set_option maxRecDepth 100000 in
theorem lifted (os : Os) (started : os.Started) (H : Type) (enc : TypeId × Value → H) :
    ReturnsInHanded {} Try.checked os 6 .any (Rows.chunkRowsSpec.pre6 enc Try.prog Try.f6 Rows.chunkRowsRow.domain false) (Rows.chunkRowsSpec.post enc Try.prog Try.f6 false true false false) := by
  refine returnsInHanded_of_change_sized (C := Try.checked) own started (by kernel_rfl) Try.func6
    (ChangeSpec.witness6 (enc := enc) (C := Try.checked) false ⟨#[], #[.slice none 0 0, .slice none 0 0, .slice none 0 0, .slice none 0 0, .slice none 0 0, .bool false], []⟩ 8 (by kernel_rfl) (by kernel_rfl) (by kernel_rfl) (by kernel_rfl)) ?_
  intro W base args ds gs before hval0 hW hcnd hsz0 _
  have hsz : (DataW.weightsEach Try.prog (Try.f6.params.toList ++ Rows.chunkRowsSpec.plain.varTypes Try.prog) (ds ++ gs)).all (· ≤ reachBytes) = true := hsz0
  have hval : ∀ (j : Nat) t v, Try.f6.params[j]? = some t → args[j]? = some v → Value.okWide Try.prog W .any base t v := hval0
  have hW' := hW
  obtain ⟨p, q, hA0, hV, rfl, hfz, hnd⟩ := hW
  have hA : DataW.TrodAll enc Try.prog W 0 (fun _ => true) true Try.f6.params.toList args.toList ds p := hA0
  rw [Try.params6] at hA hval hsz
  obtain ⟨v0, vs0, d0, ds0, p0, q0, hargs0, rfl, rfl, h0, r0⟩ := trodAll_cons hA
  obtain ⟨v1, vs1, d1, ds1, p1, q1, hargs1, rfl, rfl, h1, r1⟩ := trodAll_cons r0
  obtain ⟨v2, vs2, d2, ds2, p2, q2, hargs2, rfl, rfl, h2, r2⟩ := trodAll_cons r1
  obtain ⟨v3, vs3, d3, ds3, p3, q3, hargs3, rfl, rfl, h3, r3⟩ := trodAll_cons r2
  obtain ⟨v4, vs4, d4, ds4, p4, q4, hargs4, rfl, rfl, h4, r4⟩ := trodAll_cons r3
  obtain ⟨v5, vs5, d5, ds5, p5, q5, hargs5, rfl, rfl, h5, r5⟩ := trodAll_cons r4
  obtain ⟨rfl, rfl, rfl⟩ := trodAll_nil r5
  subst hargs1
  subst hargs2
  subst hargs3
  subst hargs4
  subst hargs5
  obtain rfl : args = #[v0, v1, v2, v3, v4, v5] := by cases args; simp_all
  obtain ⟨rfl, rfl⟩ := trodVars_none hV
  have k0 := h0
  have lt0 : ∀ x ∈ p0, x.block < W.heap.size := by obtain ⟨m, hm⟩ := k0; exact DataW.trod_lt m _ _ _ hm
  have wt0 : ∀ n ∈ DataW.weights Try.prog 22 d0, n ≤ reachBytes := fun n hn => by
    have := List.all_eq_true.1 hsz n (by simp [DataW.weightsEach, hn])
    simpa using this
  obtain ⟨a0, len0, cap0, hv0⟩ := okWide_slice Try.underlying22 (hval 0 22 v0 rfl rfl)
  obtain ⟨l0, A0, rep0, row0, wf0, sz0⟩ : ∃ l A, Rep (inE W) A v0 ∧ IsRow A (ints l) ∧ (∀ x ∈ l, (Lit.int .i64 x).wf = true) ∧ l.length * 8 ≤ 140737488351232 := by
    obtain ⟨fuel, hf⟩ := h0
    obtain ⟨l, A, h1, h2, h3, h4⟩ := inInts Try.underlying22 Try.underlying3 (by kernel_rfl) (by kernel_rfl) hf
    rw [hv0] at h1
    refine ⟨l, A, by rw [hv0]; exact h1.2 0 _ _ rfl rfl, h2, h3, ?_⟩
    rcases h4 with ⟨rfl, _⟩ | ⟨el, re, rfl, h5⟩
    · simp
    · have := list_weight Try.underlying22 wt0; rw [show Try.prog.bytesOf 3 = 8 by kernel_rfl] at this; omega
  have k1 := h1
  have lt1 : ∀ x ∈ p1, x.block < W.heap.size := by obtain ⟨m, hm⟩ := k1; exact DataW.trod_lt m _ _ _ hm
  have wt1 : ∀ n ∈ DataW.weights Try.prog 22 d1, n ≤ reachBytes := fun n hn => by
    have := List.all_eq_true.1 hsz n (by simp [DataW.weightsEach, hn])
    simpa using this
  obtain ⟨a1, len1, cap1, hv1⟩ := okWide_slice Try.underlying22 (hval 1 22 v1 rfl rfl)
  obtain ⟨l1, A1, rep1, row1, wf1, sz1⟩ : ∃ l A, Rep (inE W) A v1 ∧ IsRow A (ints l) ∧ (∀ x ∈ l, (Lit.int .i64 x).wf = true) ∧ l.length * 8 ≤ 140737488351232 := by
    obtain ⟨fuel, hf⟩ := h1
    obtain ⟨l, A, h1, h2, h3, h4⟩ := inInts Try.underlying22 Try.underlying3 (by kernel_rfl) (by kernel_rfl) hf
    rw [hv1] at h1
    refine ⟨l, A, by rw [hv1]; exact h1.2 0 _ _ rfl rfl, h2, h3, ?_⟩
    rcases h4 with ⟨rfl, _⟩ | ⟨el, re, rfl, h5⟩
    · simp
    · have := list_weight Try.underlying22 wt1; rw [show Try.prog.bytesOf 3 = 8 by kernel_rfl] at this; omega
  have k2 := h2
  have lt2 : ∀ x ∈ p2, x.block < W.heap.size := by obtain ⟨m, hm⟩ := k2; exact DataW.trod_lt m _ _ _ hm
  have wt2 : ∀ n ∈ DataW.weights Try.prog 22 d2, n ≤ reachBytes := fun n hn => by
    have := List.all_eq_true.1 hsz n (by simp [DataW.weightsEach, hn])
    simpa using this
  obtain ⟨a2, len2, cap2, hv2⟩ := okWide_slice Try.underlying22 (hval 2 22 v2 rfl rfl)
  obtain ⟨l2, A2, rep2, row2, wf2, sz2⟩ : ∃ l A, Rep (inE W) A v2 ∧ IsRow A (ints l) ∧ (∀ x ∈ l, (Lit.int .i64 x).wf = true) ∧ l.length * 8 ≤ 140737488351232 := by
    obtain ⟨fuel, hf⟩ := h2
    obtain ⟨l, A, h1, h2, h3, h4⟩ := inInts Try.underlying22 Try.underlying3 (by kernel_rfl) (by kernel_rfl) hf
    rw [hv2] at h1
    refine ⟨l, A, by rw [hv2]; exact h1.2 0 _ _ rfl rfl, h2, h3, ?_⟩
    rcases h4 with ⟨rfl, _⟩ | ⟨el, re, rfl, h5⟩
    · simp
    · have := list_weight Try.underlying22 wt2; rw [show Try.prog.bytesOf 3 = 8 by kernel_rfl] at this; omega
  have k3 := h3
  have lt3 : ∀ x ∈ p3, x.block < W.heap.size := by obtain ⟨m, hm⟩ := k3; exact DataW.trod_lt m _ _ _ hm
  have wt3 : ∀ n ∈ DataW.weights Try.prog 23 d3, n ≤ reachBytes := fun n hn => by
    have := List.all_eq_true.1 hsz n (by simp [DataW.weightsEach, hn])
    simpa using this
  obtain ⟨a3, len3, cap3, hv3⟩ := okWide_slice Try.underlying23 (hval 3 23 v3 rfl rfl)
  obtain ⟨l3, A3, rep3, row3, wf3, sz3⟩ : ∃ l A, Rep (inE W) A v3 ∧ IsRow A (prs l) ∧ (∀ x ∈ l, (Lit.int .i64 x.1).wf = true ∧ (Lit.int .i64 x.2).wf = true) ∧ l.length * 16 ≤ 140737488351232 := by
    obtain ⟨fuel, hf⟩ := h3
    obtain ⟨l, A, h1, h2, h3, h4⟩ := inPrs Try.underlying23 Try.underlying31 Try.underlying3 (by kernel_rfl) (by kernel_rfl) hf
    rw [hv3] at h1
    refine ⟨l, A, by rw [hv3]; exact h1.2 0 _ _ rfl rfl, h2, h3, ?_⟩
    rcases h4 with ⟨rfl, _⟩ | ⟨el, re, rfl, h5⟩
    · simp
    · have := list_weight Try.underlying23 wt3; rw [show Try.prog.bytesOf 31 = 16 by kernel_rfl] at this; omega
  have k4 := h4
  have lt4 : ∀ x ∈ p4, x.block < W.heap.size := by obtain ⟨m, hm⟩ := k4; exact DataW.trod_lt m _ _ _ hm
  have wt4 : ∀ n ∈ DataW.weights Try.prog 23 d4, n ≤ reachBytes := fun n hn => by
    have := List.all_eq_true.1 hsz n (by simp [DataW.weightsEach, hn])
    simpa using this
  obtain ⟨a4, len4, cap4, hv4⟩ := okWide_slice Try.underlying23 (hval 4 23 v4 rfl rfl)
  obtain ⟨l4, A4, rep4, row4, wf4, sz4⟩ : ∃ l A, Rep (inE W) A v4 ∧ IsRow A (prs l) ∧ (∀ x ∈ l, (Lit.int .i64 x.1).wf = true ∧ (Lit.int .i64 x.2).wf = true) ∧ l.length * 16 ≤ 140737488351232 := by
    obtain ⟨fuel, hf⟩ := h4
    obtain ⟨l, A, h1, h2, h3, h4⟩ := inPrs Try.underlying23 Try.underlying31 Try.underlying3 (by kernel_rfl) (by kernel_rfl) hf
    rw [hv4] at h1
    refine ⟨l, A, by rw [hv4]; exact h1.2 0 _ _ rfl rfl, h2, h3, ?_⟩
    rcases h4 with ⟨rfl, _⟩ | ⟨el, re, rfl, h5⟩
    · simp
    · have := list_weight Try.underlying23 wt4; rw [show Try.prog.bytesOf 31 = 16 by kernel_rfl] at this; omega
  have k5 := h5
  have lt5 : ∀ x ∈ p5, x.block < W.heap.size := by obtain ⟨m, hm⟩ := k5; exact DataW.trod_lt m _ _ _ hm
  obtain ⟨b5, rfl⟩ := okWide_bool Try.underlying4 (hval 5 4 v5 rfl rfl)
  have rep5 : Rep (inE W) (.bool b5) (.bool b5) := .bool _
  clear hA0 hval0 hval hsz0 hsz
  refine (ACalls.join (((chunkRows_spec l0 row0 wf0 sz0 l1 row1 wf1 sz1 l2 row2 wf2 sz2 l3 row3 wf3 sz3 l4 row4 wf4 sz4 b5) ⟨0, fun _ => none⟩).mono fun o σ' _ h => h.1) (vs := #[v0, v1, v2, v3, v4, .bool b5]) (.cons rep0 (.cons rep1 (.cons rep2 (.cons rep3 (.cons rep4 (.cons rep5 .nil))))))).mono fun e W' ⟨he, bel⟩ => ?_
  subst he
  exact ⟨_, rfl, _, _, _, [], _, [], hW', trodAll_mk1 (shut_bool Try.underlying4 _), (trodAll_cons_mk (Below.trod laidOut (by kernel_rfl) (of_decide_eq_true (by kernel_rfl)) k0 bel lt0) (trodAll_cons_mk (Below.trod laidOut (by kernel_rfl) (of_decide_eq_true (by kernel_rfl)) k1 bel lt1) (trodAll_cons_mk (Below.trod laidOut (by kernel_rfl) (of_decide_eq_true (by kernel_rfl)) k2 bel lt2) (trodAll_cons_mk (Below.trod laidOut (by kernel_rfl) (of_decide_eq_true (by kernel_rfl)) k3 bel lt3) (trodAll_cons_mk (Below.trod laidOut (by kernel_rfl) (of_decide_eq_true (by kernel_rfl)) k4 bel lt4) (trodAll_cons_mk (Below.trod laidOut (by kernel_rfl) (of_decide_eq_true (by kernel_rfl)) k5 bel lt5) trodAll_mk0)))))), rfl, bel.frame _, fun h => by cases h⟩
theorem over : Rows.ChunkRowsSaid :=
  OpenClaim.holds_of_wide 6 Try.f6 rfl rfl rfl rfl rfl rfl rfl ⟨rfl, rfl, rfl, rfl, rfl⟩ rfl rfl rfl rfl rfl (by kernel_rfl) Try.func6 (by kernel_rfl)
    (of_decide_eq_true (by kernel_rfl)) (by unfold Func.isWrapper; first | (rw [if_pos (by decide +kernel)]; kernel_rfl) | (rw [if_neg (by decide +kernel)]; exact ⟨rfl, rfl⟩))
    (fun os started H enc _ => lifted os started H enc)
end Go.Proofs.Ytbmkgpocnkiibaa.chunkRows
namespace Go.Proofs.Ytbmkgpocnkiibaa
theorem chunkRows_holds : Rows.ChunkRowsSaid := chunkRows.over
end Go.Proofs.Ytbmkgpocnkiibaa
