/- utf.Bytes: a sign's bytes, by the shelf's contract of unicode/utf8.AppendRune, in the print's form. -/
import Derived.Test.YtpoeiiimmgnioaaDoorXWords
import Derived.Test.YtpoeiiimmgnioaaDoorXApp
namespace Go.Proofs.YtpoeiiimmgnioaaDoor.Q
open Go.RowKit Go.Proofs.YtpoeiiimmgnioaaDoorW.PrintWords Go.Proofs.YtpoeiiimmgnioaaDoorW.PrintLast Go.Proofs.YtpoeiiimmgnioaaDoorW.PrintMore

def utf_Bytes.f (a0 : Int) : Option (List Int × Int) := if a0 < 0 then some ([], 1) else if a0 > 1114111 then some ([], 1) else if 55296 ≤ a0 ∧ a0 ≤ 57343 then some ([], 1) else some (Lib.encodeRuneZ a0, 0)
theorem infoX5 : (Tryd.prog.info? 5).map (fun i => (i.zero, i.size, i.bytes)) = some (some (.int .u8 0), 1, 1) := by kernel_rfl

set_option maxHeartbeats 1000000 in
theorem utf_Bytes.calls (a0 : Int) (r1 : List Int) (r2 : Int) (w : World) (h : utf_Bytes.f a0 = some (r1, r2)) :
    Calls Tryd.prog 13 #[.int .i64 a0] w fun e w' => ∃ v0_ : Value, e = .returned (.tuple #[v0_, .int .i64 r2]) ∧ Kd.R (Kd.int .u8) 5 w' w.heap.size (fun _ => True) v0_ r1 ∧ Below w.heap.size w w' := by
  unfold utf_Bytes.f at h
  by_cases c1 : a0 < 0
  · rw [if_pos c1] at h
    simp only [Option.some.injEq, Prod.mk.injEq] at h
    obtain ⟨rfl, rfl⟩ := h
    have d1 : decide (a0 < 0) = true := decide_eq_true c1
    clear c1
    go_enter Tryd.func13, Tryd.ntmps13
    go_wp2
    go_ret2
    exact ⟨_, rfl, Kd.R_nil _ _ _ _ _, Below.refl _ _⟩
  · rw [if_neg c1] at h
    have d1 : decide (a0 < 0) = false := decide_eq_false c1
    by_cases c2 : a0 > 1114111
    · rw [if_pos c2] at h
      simp only [Option.some.injEq, Prod.mk.injEq] at h
      obtain ⟨rfl, rfl⟩ := h
      have d2 : decide (1114111 < a0) = true := decide_eq_true c2
      clear c2
      go_enter Tryd.func13, Tryd.ntmps13
      go_wp2
      go_ret2
      exact ⟨_, rfl, Kd.R_nil _ _ _ _ _, Below.refl _ _⟩
    · rw [if_neg c2] at h
      have d2 : decide (1114111 < a0) = false := decide_eq_false c2
      by_cases c3 : 55296 ≤ a0 ∧ a0 ≤ 57343
      · rw [if_pos c3] at h
        simp only [Option.some.injEq, Prod.mk.injEq] at h
        obtain ⟨rfl, rfl⟩ := h
        have d3 : decide (55296 ≤ a0) = true := decide_eq_true c3.1
        have d4 : decide (a0 ≤ 57343) = true := decide_eq_true c3.2
        clear c1 c2 c3
        go_enter Tryd.func13, Tryd.ntmps13
        go_wp2
        go_ret2
        exact ⟨_, rfl, Kd.R_nil _ _ _ _ _, Below.refl _ _⟩
      · rw [if_neg c3] at h
        simp only [Option.some.injEq, Prod.mk.injEq] at h
        obtain ⟨rfl, rfl⟩ := h
        have call : Calls Tryd.prog 22 #[.slice none 0 0, .int .i32 a0] w fun e w' => ∃ v' : Value, e = .returned v' ∧ Kd.R (Kd.int .u8) 5 w' w.heap.size (fun _ => True) v' (Lib.encodeRuneZ a0) ∧ Below w.heap.size w w' := by
          refine (Any.utf8_AppendRune_plain Tryd.lays242 infoX5 w.heap.size (.slice none 0 0) 0 [] a0 (by omega) (by omega) w ⟨rfl, .inl ⟨rfl, rfl⟩⟩ (by omega) (Nat.le_refl _)).mono ?_
          rintro e w' ⟨v', rfl, hown, o, hg⟩
          refine ⟨v', rfl, Kd.R_of_own ?_ (fun _ _ => trivial), ((Below.refl _ w).alloc (Nat.le_refl _) o).grown hg (by simp) (fun k hk => by simp [Value.ownBlock] at hk)⟩
          simp only [Nat.zero_add, List.nil_append] at hown
          have e1 : (Lib.runeCells a0).length = (Lib.encodeRuneZ a0).length := by simp [Lib.runeCells]
          rw [e1] at hown
          exact hown
        have e2 : wrap32 a0 = a0 := by unfold wrap32; omega
        by_cases c4 : 55296 ≤ a0
        · have d3 : decide (55296 ≤ a0) = true := decide_eq_true c4
          have d4 : decide (a0 ≤ 57343) = false := decide_eq_false (by omega)
          clear c3
          go_enter Tryd.func13, Tryd.ntmps13
          go_wp2_with (go_at_call 22; refine call.mono ?_; rintro e w' ⟨v', rfl, hR, hB⟩)
          go_ret2
          exact ⟨_, rfl, hR, hB⟩
        · have d3 : decide (55296 ≤ a0) = false := decide_eq_false c4
          clear c3
          go_enter Tryd.func13, Tryd.ntmps13
          go_wp2_with (go_at_call 22; refine call.mono ?_; rintro e w' ⟨v', rfl, hR, hB⟩)
          go_ret2
          exact ⟨_, rfl, hR, hB⟩
end Go.Proofs.YtpoeiiimmgnioaaDoor.Q
