/- line.Join (slices.Concat, slices.Grow), in the print's form. -/
import Derived.Test.YtdekcmaakdpmaaaXLineA
import Derived.Test.YtdekcmaakdpmaaaWZeros
namespace Go.Proofs.Ytdekcmaakdpmaaa.Q
open Go.RowKit Go.Proofs.YtdekcmaakdpmaaaW.PrintWords Go.Proofs.YtdekcmaakdpmaaaW.PrintLast Go.Proofs.YtdekcmaakdpmaaaW.PrintMore
set_option linter.unusedVariables false
set_option linter.unusedSimpArgs false

theorem atLL {w : World} {A : Option Addr} {n : Nat} {xs : List (List Int)} (h : Kd.C (Kd.slice 5 (Kd.int .u8)) w A n xs) (i : Nat) (h1 : i < n) : ∃ ad A0 c0, A = some ad ∧ w.cell? (ad.add i) = some (.slice A0 (xs.getD i []).length c0) ∧ (xs.getD i []).length ≤ c0 ∧ (Kd.int .u8).C w A0 (xs.getD i []).length (xs.getD i []) := by
  obtain ⟨ad, c, hA, hcl, hK, hcell⟩ := Kd.C_get h ([] : List Int) (i : Int) (by omega) (by omega)
  simp only [Int.toNat_natCast] at hK hcell
  obtain ⟨A0, c0, rfl, hl, hC⟩ := hK
  refine ⟨ad, A0, c0, hA, ?_, hl, hC⟩
  have := hcell 0 _ rfl
  rw [show i * (Kd.slice 5 (Kd.int .u8)).sz + 0 = i by show i * 1 + 0 = i; omega] at this
  exact this

set_option maxHeartbeats 4000000 in
set_option maxRecDepth 100000 in
theorem grow_calls (n : Nat) (hn : n ≤ 1000000000) (w : World) :
    Calls Try.prog 25 #[.slice none 0 0, .int .i64 n] w fun e w' => ∃ v, e = .returned v ∧ Kd.R (Kd.int .u8) 5 w' w.heap.size (fun _ => True) v [] ∧ Below w.heap.size w w' := by
  obtain ⟨i0, hi, hz0, hz1, hz2⟩ := info_parts infoL5
  have hw : wrap64 (n : Int) = (n : Int) := by unfold wrap64; omega
  have hd0 : decide ((n : Int) < 0) = false := decide_eq_false (by omega)
  by_cases h0 : n = 0
  · subst h0
    go_enter Try.func25, Try.ntmps25
    go_wp2
    go_ret
    exact ⟨_, rfl, Kd.R_nil _ _ _ _ _, Below.refl _ _⟩
  · have hd1 : decide (0 < (n : Int)) = true := decide_eq_true (by omega)
    have hd2 : decide (0 < n) = true := decide_eq_true (by omega)
    have hq : (0 < n) = True := eq_true (by omega)
    have hcutA := cut_to (P := Try.prog) 22 5 .i64 Try.underlying22 hi none 0 0 0 (by omega) (by omega) (by omega)
    go_enter Try.func25, Try.ntmps25
    go_wp2_with (at_builtin; refine Kd.R_append_zeros (Kd.int .u8) (w0 := w) w.heap.size rfl (.tmp 20) (.tmp 21) 22 3 5 (.int .u8 0) 1 rfl Try.underlying22 Try.underlying3 infoL5 rfl (by decide) (by omega) (.slice none 0 0) [] (0 : Int) (n : Int) (fun _ => True) rfl rfl rfl (fun _ _ => trivial) (Kd.R_nil _ _ _ _ _) (by omega) (Below.refl _ _) (Nat.le_refl _) (by simp; omega) ?_)
    intro v1 w1 ho hb hg hat
    obtain ⟨A1, c1, rfl⟩ := Kd.R_slice ho
    rw [List.length_replicate] at ho ⊢
    have hcutB := cut_to (P := Try.prog) 22 5 .i64 Try.underlying22 hi A1 n c1 0 (by omega) (by omega) (Kd.R_reads' ho).2.1
    go_wp2
    go_ret
    refine ⟨_, rfl, ?_, hb⟩
    have := Kd.R_take (m := 0) ho (by omega)
    simpa using this

theorem flat_take (ls : List (List Int)) (i : Nat) (h : i < ls.length) : (ls.take (i + 1)).flatten = (ls.take i).flatten ++ ls.getD i [] := by
  rw [List.take_add_one, List.flatten_append, List.getD_eq_getElem?_getD, List.getElem?_eq_getElem h]
  simp
theorem flat_le (ls : List (List Int)) (i : Nat) : (ls.take i).flatten.length ≤ ls.flatten.length := by
  conv => rhs; rw [← List.take_append_drop i ls]
  rw [List.flatten_append, List.length_append]
  omega

set_option maxHeartbeats 8000000 in
set_option maxRecDepth 100000 in
theorem concat_calls (A0 : Option Addr) (c0 : Nat) (l0 : List (List Int)) (w : World) (hr0 : Kd.C (Kd.slice 5 (Kd.int .u8)) w A0 l0.length l0) (hn1 : l0.length ≤ 1000000) (hn2 : l0.flatten.length ≤ 1000000000) :
    Calls Try.prog 22 #[.slice A0 l0.length c0] w fun e w' => ∃ v, e = .returned v ∧ Kd.R (Kd.int .u8) 5 w' w.heap.size (fun _ => True) v l0.flatten ∧ Below w.heap.size w w' := by
  have HR := Aside0.mk hr0
  clear hr0
  go_enter Try.func22, Try.ntmps22
  go_wp2
  go_loopg [3, 11] l0.length (fun kq v3 v11 w' => ∃ i : Nat, i ≤ l0.length ∧ kq = l0.length - i ∧ v11 = .int .i64 i ∧ v3 = .int .i64 ((l0.take i).flatten.length : Nat) ∧ w' = w)
  case atStart => exact ⟨0, Nat.zero_le _, rfl, rfl, rfl, rfl⟩
  case round =>
    obtain ⟨i, hi, rfl, rfl, rfl, hwr⟩ := hrel
    have hwr2 := hwr.symm
    clear hwr
    subst hwr2
    have hfi := flat_le l0 i
    by_cases hlt : i < l0.length
    · have hd : decide ((i : Int) < (l0.length : Int)) = true := decide_eq_true (by omega)
      have hq : ((i : Int) < (l0.length : Int)) = True := eq_true (by omega)
      have hq2 : (i < l0.length) = True := eq_true hlt
      obtain ⟨ad, Ai, ci, e1, hcell, hlc, hCi⟩ := atLL HR.out i hlt
      cases e1
      have hft := flat_take l0 i hlt
      have hfi1 := flat_le l0 (i + 1)
      have hsum : wrap64 (((l0.take i).flatten.length : Int) + ((l0.getD i []).length : Int)) = ((l0.take (i + 1)).flatten.length : Int) := by
        rw [hft, List.length_append] at hfi1 ⊢
        unfold wrap64
        omega
      have hs0 : decide (((l0.take (i + 1)).flatten.length : Int) < 0) = false := decide_eq_false (by omega)
      have hwi : wrap64 ((i : Int) + 1) = (i : Int) + 1 := by unfold wrap64; omega
      generalize (l0.getD i []).length = m at *
      generalize hS1 : (l0.take (i + 1)).flatten.length = S1 at *
      generalize (l0.take i).flatten.length = S0 at *
      go_wp2
      go_roundg (l0.length - (i + 1))
      case measure => omega
      case rel => exact ⟨i + 1, by omega, rfl, rfl, by rw [hsum, hS1], rfl⟩
    · obtain rfl : i = l0.length := by omega
      rw [List.take_length] at hfi ⊢
      have hgrow := grow_calls l0.flatten.length hn2 w
      have HN2 := Aside0.mk hn2
      clear hn2 hfi
      generalize l0.flatten.length = T at hgrow ⊢
      have hd : decide ((l0.length : Int) < (l0.length : Int)) = false := decide_eq_false (by omega)
      go_wp2_with (go_at_call 25; refine hgrow.mono ?_; rintro e w1 ⟨vg, rfl, hRg, hBg⟩)
      go_loopg [6, 27] l0.length (fun kq v6 v27 w' => ∃ i : Nat, i ≤ l0.length ∧ kq = l0.length - i ∧ v27 = .int .i64 i ∧ Aside0 (Kd.R (Kd.int .u8) 5 w' w.heap.size (fun _ => True) v6 (l0.take i).flatten) ∧ Aside0 (Below w.heap.size w w'))
      case atStart => exact ⟨0, Nat.zero_le _, rfl, rfl, ⟨hRg⟩, ⟨hBg⟩⟩
      case round =>
        clear hgrow hRg hBg hd
        obtain ⟨i, hi, rfl, rfl, HO, HB⟩ := hrel
        by_cases hlt : i < l0.length
        · have hd : decide ((i : Int) < (l0.length : Int)) = true := decide_eq_true (by omega)
          have hq2 : (i < l0.length) = True := eq_true hlt
          obtain ⟨ad, Ai, ci, e1, hcell0, hlc, hCi⟩ := atLL HR.out i hlt
          cases e1
          have hcell := (HB.out.cell (World.block_lt_of_cell? w _ hcell0)).trans hcell0
          have hCi2 := Kd.C_below hCi HB.out
          have hft := flat_take l0 i hlt
          have hfi1 := flat_le l0 (i + 1)
          have hn2 := HN2.out
          rw [hft, List.length_append] at hfi1
          have hwi : wrap64 ((i : Int) + 1) = (i : Int) + 1 := by unfold wrap64; omega
          have hs := HB.out.size
          clear hcell0 hCi hd
          generalize l0.getD i [] = Y at *
          have hd : decide ((i : Int) < (l0.length : Int)) = true := decide_eq_true (by omega)
          go_wp2_with (at_builtin; refine Kd.R_append_row (Value.int .u8) (0 : Int) (h1 := fun _ => rfl) (w0 := w) w.heap.size rfl (.tmp 31) (.tmp 32) 22 5 (.int .u8 0) 1 rfl Try.underlying22 infoL5 rfl (by decide) u6 (l0.take i).flatten Y Ai Y.length ci (fun _ => True) rfl rfl (fun _ _ => trivial) HO.out hCi2 HB.out hs (by omega) ?_)
          intro v1 w3 ho hb hg hat
          rw [← hft] at ho
          go_wp2
          go_roundg (l0.length - (i + 1))
          case measure => omega
          case rel => exact ⟨i + 1, by omega, rfl, rfl, ⟨ho⟩, ⟨hb⟩⟩
        · obtain rfl : i = l0.length := by omega
          have hO := HO.out
          rw [List.take_length] at hO
          have hd : decide ((l0.length : Int) < (l0.length : Int)) = false := decide_eq_false (by omega)
          go_wp2
          go_ret
          exact ⟨_, rfl, hO, HB.out⟩
theorem line_Join.calls (A0 : Option Addr) (c0 : Nat) (l0 : List (List Int)) (r : List Int) (w : World) (hr0 : Kd.C (Kd.slice 5 (Kd.int .u8)) w A0 l0.length l0) (hc0 : l0.length ≤ c0) (h : line_Join.f l0 = some r) :
    Calls Try.prog 17 #[.slice A0 l0.length c0] w fun e w' => ∃ v0_ : Value, e = .returned (v0_) ∧ Kd.R (Kd.int .u8) 5 w' w.heap.size (fun _ => True) v0_ r ∧ Below w.heap.size w w' := by
  unfold line_Join.f at h
  split at h
  case isFalse => cases h
  case isTrue hbs =>
  obtain rfl := Option.some.inj h
  simp only [Bool.and_eq_true, decide_eq_true_eq] at hbs
  have hc := concat_calls A0 c0 l0 w hr0 hbs.1 hbs.2
  clear hr0 h
  go_enter Try.func17, Try.ntmps17
  go_wp2_with (go_at_call 22; refine hc.mono ?_; rintro e w' ⟨v, rfl, hR, hB⟩)
  go_ret
  exact ⟨v, rfl, hR, hB⟩
end Go.Proofs.Ytdekcmaakdpmaaa.Q
