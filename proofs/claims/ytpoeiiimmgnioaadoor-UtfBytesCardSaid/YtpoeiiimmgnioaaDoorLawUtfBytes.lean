-- Written by this repo's card.py over the printed row of the law scarflaw01_UtfBytes, out of its Pure (the session's) and the printed walk. Not trusted: Lean checks it.
import Derived.Test.YtpoeiiimmgnioaaDoorRows
import Derived.Test.YtpoeiiimmgnioaaDoorCards
import Derived.Test.YtpoeiiimmgnioaaDoorTie
import Derived.Test.YtpoeiiimmgnioaaDoorXLaid
import Derived.SevenTiedAt
import Derived.JoinedOf
import Derived.Test.YtpoeiiimmgnioaaDoorQ4
import Derived.Test.YtpoeiiimmgnioaaDoorPureUtfBytes
import Derived.WalkKit
import Derived.ProofKit
import Derived.OpenShut
import Derived.ShutString
import Derived.ChangeOld
import Derived.Below
import Derived.SizedLaws
namespace Go.Proofs.YtpoeiiimmgnioaaDoor.utfBytes
open Go.ChangeShapes Go.WideShapes Go.ChangeAt Go.RowKit
open Go.ChangeMaps (open_string shut_string)
set_option linter.unusedVariables false
theorem own : ownKnob Tryd.prog.godebug = none := by kernel_rfl
set_option maxRecDepth 100000 in
theorem lifted (os : Os) (started : os.Started) (H : Type) (enc : TypeId × Value → H) :
    ReturnsInHanded {} Tryd.checked os 4 .any (fun w args => (Rows.utfBytesSpec.pre enc Tryd.prog Tryd.f4 [] false w args ∧ laidMetH Tryd.prog Laid.list w) ∧ sizedMet enc Tryd.prog Tryd.f4 (OpenSpec.ofChange Rows.utfBytesSpec) false w args) (Rows.utfBytesSpec.post enc Tryd.prog Tryd.f4 false true false false) := by
  refine returnsInHanded_of_change_and (C := Tryd.checked) (X := fun w _ => laidMetH Tryd.prog Laid.list w) (fun _ _ _ hh h => h.of_heap hh) own started (by kernel_rfl) Tryd.func4
    (ChangeSpec.witness_at (enc := enc) (C := Tryd.checked) (os := os) (X := fun w _ => laidMetH Tryd.prog Laid.list w) false (Laid.laidWorld os) #[.int .i64 0] 8 rfl (by kernel_rfl) (by kernel_rfl) (by kernel_rfl) (by kernel_rfl) (by kernel_rfl) (Laid.met os _)) ?_
  intro W base args ds gs before hval0 hW hcnd hsz0 hL _
  have hsz : (DataW.weightsEach Tryd.prog (Tryd.f4.params.toList ++ Rows.utfBytesSpec.plain.varTypes Tryd.prog) (ds ++ gs)).all (· ≤ reachBytes) = true := hsz0
  have hval : ∀ (j : Nat) t v, Tryd.f4.params[j]? = some t → args[j]? = some v → Value.okWide Tryd.prog W .any base t v := hval0
  have hW' := hW
  obtain ⟨p, q, hA0, hV, rfl, hfz, hnd⟩ := hW
  have hA : DataW.TrodAll enc Tryd.prog W 0 (fun _ => true) true Tryd.f4.params.toList args.toList ds p := hA0
  rw [Tryd.params4] at hA hval hsz
  obtain ⟨v0, vs0, d0, ds0, p0, q0, hargs, rfl, rfl, h0, r0⟩ := trodAll_cons hA
  obtain ⟨rfl, rfl, rfl⟩ := trodAll_nil r0
  obtain rfl : args = #[v0] := by cases args; simp_all
  obtain ⟨rfl, rfl⟩ := trodVars_none hV
  obtain ⟨a0, rfl, rfl, rfl, w0⟩ := open_int Tryd.underlying3 (hval 0 3 v0 rfl rfl) h0
  clear hA0 hval0 hsz0 hsz
  refine (Q.scarflaw01_UtfBytes.walk Pure.UtfBytes a0 W (Laid.glob hL) w0).mono fun e W' ⟨he, bel⟩ => ?_
  subst he
  exact ⟨_, rfl, _, _, _, [], _, [], hW', trodAll_mk1 (shut_bool Tryd.underlying4 _), (trodAll_cons_mk (shut_int Tryd.underlying3 w0) trodAll_mk0), rfl, bel.frame _, fun h => by cases h⟩
theorem over : Rows.utfBytesRow.holds Tryd.pinned (OpenSpec.ofChange Rows.utfBytesSpec) :=
  OpenClaim.holds_of_wide 4 Tryd.f4 rfl rfl rfl rfl rfl rfl rfl ⟨rfl, rfl, rfl, rfl, rfl⟩ rfl rfl rfl rfl rfl (by kernel_rfl) Tryd.func4 (by kernel_rfl)
    (of_decide_eq_true (by kernel_rfl)) (by unfold Func.isWrapper; first | (rw [if_pos (by decide +kernel)]; kernel_rfl) | (rw [if_neg (by decide +kernel)]; exact ⟨rfl, rfl⟩))
    (fun os started H enc _ => lifted os started H enc)
theorem proved : Rows.UtfBytesSaid := over
theorem card : Rows.UtfBytesCardSaid :=
  Claim7.holds_tied_plain_at .later [] [.data, .pinned] true (true, "82a117f9a28e114c02d05ee72539387ab44d1b5dfdbffc9cd67ac615bf3b386e") false
    over (fun _ h => by cases h) (by kernel_rfl) (fun _ h => by cases h) utfBytes_row_tie rfl ⟨rfl, rfl⟩ (by kernel_rfl) rfl
    (fun f fn hf hfn => by
      obtain rfl : f = 4 := Option.some.inj ((show Tryd.prog.funcNamed "scarf/scarflaw01.UtfBytes" = some 4 by kernel_rfl).symm.trans hf) |>.symm
      obtain rfl : fn = Tryd.f4 := (Option.some.inj (Tryd.func4.symm.trans hfn)).symm
      exact ⟨by kernel_rfl, fun j t ht => by
        have hall : ∀ u ∈ Tryd.f4.params.toList, Tryd.prog.wantsStandIn u = false := by
          rw [Tryd.params4]
          intro u hu
          simp only [List.mem_cons, List.not_mem_nil, or_false] at hu
          obtain rfl := hu
          all_goals kernel_rfl
        exact hall t (by rw [Array.mem_toList_iff]; exact Array.mem_of_getElem? ht)⟩)
    (by kernel_rfl)
#print axioms card
end Go.Proofs.YtpoeiiimmgnioaaDoor.utfBytes
namespace Go.Proofs.YtpoeiiimmgnioaaDoor
/-- The row, under a short name, for the claim. -/
theorem utfBytes_holds : Rows.UtfBytesCardSaid := utfBytes.card
end Go.Proofs.YtpoeiiimmgnioaaDoor
