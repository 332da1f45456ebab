/- package line: bytes.IndexByte, slices.Clone, the iterator. -/
import Derived.Test.YtdekcmaakdpmaaaXRange
import Derived.Test.YtdekcmaakdpmaaaXLineF
import Derived.Test.YtdekcmaakdpmaaaXIdx
import Derived.Shelf.SlicesG.Clone
namespace Go.Proofs.Ytdekcmaakdpmaaa.Q
open Go.RowKit Go.Proofs.YtdekcmaakdpmaaaW.PrintWords Go.Proofs.YtdekcmaakdpmaaaW.PrintLast Go.Proofs.YtdekcmaakdpmaaaW.PrintMore
set_option linter.unusedVariables false
set_option linter.unusedSimpArgs false

theorem infoL5 : (Try.prog.info? 5).map (fun i => (i.zero, i.size, i.bytes)) = some (some (.int .u8 0), 1, 1) := by kernel_rfl

theorem cells_of {A : Option Addr} {l : List Int} {w : World} (hr : Kd.C (Kd.int .u8) w A l.length l) (hne : l ≠ []) : ∃ b off, A = some ⟨b, off, none⟩ ∧ ∀ j, j < l.length → w.cell? ⟨b, off + j, none⟩ = some (.int .u8 (l.getD j 0)) := by
  have hp : 0 < l.length := List.length_pos_iff.2 hne
  obtain ⟨ad, rfl, hcell⟩ := hr.2.2 hp
  have hcell' : ∀ j, j < l.length → w.cell? (ad.add j) = some (.int .u8 (l.getD j 0)) := by
    intro j hj
    obtain ⟨c, hc, hR, hu⟩ := hcell j l[j] (List.getElem?_eq_getElem hj)
    have hR' : c = [Value.int .u8 l[j]] := hR
    subst hR'
    have := hu 0 _ rfl
    have e1 : j * (Kd.int .u8).sz + 0 = j := by show j * 1 + 0 = j; omega
    rw [e1] at this
    rw [this, List.getD_eq_getElem?_getD, List.getElem?_eq_getElem hj]
    rfl
  obtain ⟨b, off, spot⟩ := ad
  have hs : spot = none := by
    have := hcell' 0 hp
    cases spot with
    | none => rfl
    | some s => simp [Addr.add, World.cell?] at this; split at this <;> simp at this
  subst hs
  refine ⟨b, off, rfl, fun j hj => ?_⟩
  have := hcell' j hj
  unfold Addr.add at this
  split at this
  · rename_i hj0; subst hj0; exact this
  · exact this

theorem idx_calls (A : Option Addr) (c : Nat) (l : List Int) (w : World) (hr : Kd.C (Kd.int .u8) w A l.length l) (hne : l ≠ []) (hb : bytesOk l = true) :
    Calls Try.prog 24 #[.slice A l.length c, .int .u8 10] w fun e w' => e = .returned (.int .i64 (if (10 : Int) ∈ l then (nl l : Int) - 1 else -1)) ∧ w' = w := by
  obtain ⟨b, off, rfl, hc⟩ := cells_of hr hne
  have := Any.bytes_IndexByte Try.lays187 b off l.length c l 10 w rfl hc
  rw [idx_eq l hb] at this
  exact this

set_option maxHeartbeats 1000000 in
theorem lines_calls (A : Option Addr) (n c : Nat) (w : World) :
    Calls Try.prog 18 #[.slice A n c] w fun e w' => e = .returned (.func (.func 23) #[] #[.pointer (some ⟨w.heap.size, 0, none⟩)]) ∧ w' = w.alloc (.cells #[.slice A n c] 22) := by
  go_enter Try.func18, Try.ntmps18
  go_wp2
  go_ret
  exact ⟨rfl, rfl⟩

/-- what a round keeps for the iterator -/
def KpL (H bx : Nat) (W W' : World) : Prop := Below H W W' ∧ W.heap.size ≤ W'.heap.size ∧ W'.heap[bx]? = W.heap[bx]?
theorem KpL_t {H bx : Nat} {A B C : World} (h : KpL H bx A B) (k : KpL H bx B C) : KpL H bx A C := ⟨h.1.trans k.1, Nat.le_trans h.2.1 k.2.1, k.2.2.trans h.2.2⟩

def leftL (bx : Nat) (W : World) : Nat := match W.cell? ⟨bx, 0, none⟩ with | some (.slice _ n _) => n | _ => 0

set_option maxHeartbeats 4000000 in
set_option maxRecDepth 100000 in
theorem lines1 {n : Nat} (w : World) (k bx : Nat) (A0 : Option Addr) (c0 : Nat) (l0 : List Int) (hr0 : Kd.C (Kd.int .u8) w A0 l0.length l0) (hc0 : l0.length ≤ c0) (hb : bytesOk l0 = true) (hsz : l0.length ≤ 1000000) (hbx : w.heap.size ≤ bx)
    (W : World) (hW : Below w.heap.size w W) (hBx : Boxed W bx 22 (.slice A0 l0.length c0)) (J : List (Option Addr × Nat × List Int) → World → Prop) (hJb : ∀ pre W v, J pre W → J pre (W.setCell ⟨bx, 0, none⟩ v))
    (hY : ∀ pre x W1, J pre W1 → pre ++ [x] <+: linesV A0 c0 (splitL l0) → YieldAt Fence.wide n Try.prog k #[.slice x.1 x.2.2.length x.2.1] W1 fun e W' => e = .returned (.bool true) ∧ J (pre ++ [x]) W' ∧ KpL w.heap.size bx W1 W') (h0 : J [] W) :
    Calls Try.prog 23 #[.func (.yield k) #[] #[], .pointer (some ⟨bx, 0, none⟩)] W fun e W' => (∃ v, e = .returned v) ∧ J (linesV A0 c0 (splitL l0)) W' := by
  have HR := Aside0.mk hr0
  clear hr0
  refine (callsIn_wide (n := n + 1)).1 ?_
  refine callsIn_of_wp Try.func23 rfl trivial ?_ rfl
  simp only [Try.ntmps23, List.size_toArray, List.length_cons, List.length_nil, Nat.reduceAdd, Nat.reduceSub, Array.replicate_succ, Array.replicate_zero, List.push_toArray, List.append_toArray, List.nil_append, List.cons_append]
  gi_wp2
  gi_loopw [3] (fun _ wr => ∃ (pre : List (Option Addr × Nat × List Int)) (rest : List Int) (A : Option Addr) (c : Nat), J pre wr ∧ Below w.heap.size w wr ∧ Boxed wr bx 22 (.slice A rest.length c) ∧ Aside0 (Kd.C (Kd.int .u8) w A rest.length rest) ∧ Aside0 (rest.length ≤ c) ∧ Aside0 (pre ++ linesV A c (splitL rest) = linesV A0 c0 (splitL l0)) ∧ Aside0 (bytesOk rest = true) ∧ Aside0 (rest.length ≤ 1000000)) (fun _ wr => leftL bx wr)
  case atStart => exact ⟨[], l0, A0, c0, h0, hW, hBx, HR, ⟨hc0⟩, ⟨rfl⟩, ⟨hb⟩, ⟨hsz⟩⟩
  case round =>
    obtain ⟨pre, rest, A, c, hJ, hB, hBx, HC, HL, HE, HB, HS⟩ := hrel
    have hcell := hBx.cell
    have hfro := hBx.frozen
    by_cases hne : rest = []
    · subst hne
      simp only [List.length_nil] at hcell
      gi_wp2
      go_end0
      have := HE.out
      simp only [splitL, linesV, List.append_nil] at this
      rw [← this]
      exact ⟨⟨_, rfl⟩, hJ⟩
    · have hpos : 0 < rest.length := List.length_pos_iff.2 hne
      have hposd : decide ((0 : Int) < (rest.length : Int)) = true := decide_eq_true (by omega)
      have hidx := idx_calls A c rest wr (Kd.C_below HC.out hB) hne HB.out
      obtain ⟨i0, hi, _, hsz5, _⟩ := info_parts infoL5
      have hEq := splitL_step hne
      have hnp := nl_pos hne
      have hnle := nl_le rest
      have hS := HS.out
      have hw : wrap64 (nl rest : Int) = (nl rest : Int) := by unfold wrap64; omega
      have hl : (rest.take (nl rest)).length = nl rest := by rw [List.length_take]; omega
      have hnext : (pre ++ [(A, c, rest.take (nl rest))]) ++ linesV (if c = nl rest then A else A.map (·.add (nl rest * 1))) (c - nl rest) (splitL (rest.drop (nl rest))) = linesV A0 c0 (splitL l0) := by
        rw [← HE.out, hEq]
        simp only [linesV, hl, List.append_assoc, List.singleton_append]
      obtain ⟨fn, tmps, assign, body, hy, hR⟩ := hY pre (A, c, rest.take (nl rest)) wr hJ ⟨_, hnext⟩
      dsimp only at hy
      rw [hl] at hy
      have hC2 := Kd.C_drop HC.out hnle HL.out
      have hgo : ∀ W3, J (pre ++ [(A, c, rest.take (nl rest))]) W3 → KpL w.heap.size bx wr W3 → ∃ (pre : List (Option Addr × Nat × List Int)) (rest2 : List Int) (A2 : Option Addr) (c2 : Nat), J pre (W3.setCell ⟨bx, 0, none⟩ (.slice (if c = nl rest then A else A.map (·.add (nl rest))) (rest.length - nl rest) (c - nl rest))) ∧ Below w.heap.size w (W3.setCell ⟨bx, 0, none⟩ (.slice (if c = nl rest then A else A.map (·.add (nl rest))) (rest.length - nl rest) (c - nl rest))) ∧ Boxed (W3.setCell ⟨bx, 0, none⟩ (.slice (if c = nl rest then A else A.map (·.add (nl rest))) (rest.length - nl rest) (c - nl rest))) bx 22 (.slice A2 rest2.length c2) ∧ Aside0 (Kd.C (Kd.int .u8) w A2 rest2.length rest2) ∧ Aside0 (rest2.length ≤ c2) ∧ Aside0 (pre ++ linesV A2 c2 (splitL rest2) = linesV A0 c0 (splitL l0)) ∧ Aside0 (bytesOk rest2 = true) ∧ Aside0 (rest2.length ≤ 1000000) := by
        intro W3 hJ3 hk3
        have hBx3 : Boxed W3 bx 22 (.slice A rest.length c) := hk3.2.2.trans hBx
        have hl2 : (rest.drop (nl rest)).length = rest.length - nl rest := List.length_drop
        refine ⟨_, rest.drop (nl rest), (if c = nl rest then A else A.map (·.add (nl rest * 1))), c - nl rest, hJb _ _ _ hJ3, (hB.trans hk3.1).setCell hbx _, ?_, ⟨hC2⟩, ⟨by have := HL.out; omega⟩, ⟨hnext⟩, ⟨?_⟩, ⟨by omega⟩⟩
        · rw [hl2, Nat.mul_one]; exact hBx3.set _
        · have := HB.out
          unfold bytesOk at this ⊢
          rw [List.all_eq_true] at this ⊢
          exact fun x hx => this x (List.mem_of_mem_drop hx)
      have hme : ∀ W3 (u : Value), KpL w.heap.size bx wr W3 → Boxed (W3.setCell ⟨bx, 0, none⟩ (.slice (if c = nl rest then A else A.map (·.add (nl rest))) (rest.length - nl rest) (c - nl rest))) bx 22 (.slice (if c = nl rest then A else A.map (·.add (nl rest))) (rest.length - nl rest) (c - nl rest)) := fun W3 u hk3 => by
        have hBx3 : Boxed W3 bx 22 (.slice A rest.length c) := hk3.2.2.trans hBx
        exact hBx3.set _
      by_cases hm : (10 : Int) ∈ rest
      · rw [if_pos hm] at hidx
        have hz : ((nl rest : Int) == 0) = false := beq_eq_false_iff_ne.2 (by omega)
        have hcut := cut_to (P := Try.prog) 22 5 .i64 Try.underlying22 hi A rest.length c (nl rest : Int) (by omega) (by omega) HL.out
        have hcut2 := cut_from (P := Try.prog) 22 5 .i64 Try.underlying22 hi 1 hsz5 A rest.length c (nl rest : Int) (by omega) (by omega)
        simp only [Int.toNat_natCast, Nat.mul_one] at hcut hcut2
        gi_wp2_with (refine ⟨trivial, ?_⟩; gi_at_call 24; refine (callsIn_wide.2 hidx).mono ?_; rintro e w' ⟨rfl, rfl⟩)
        refine hR.mono ?_
        rintro e W3 ⟨rfl, hJ3, hk3⟩
        have hBx3 : Boxed W3 bx 22 (.slice A rest.length c) := hk3.2.2.trans hBx
        have hcell3 := hBx3.cell
        have hfro3 := hBx3.frozen
        gi_wp2
        go_roundw
        case rel => exact hgo W3 hJ3 hk3
        case measure =>
          unfold leftL
          rw [(hme W3 undef hk3).cell, hcell]
          show rest.length - nl rest < rest.length
          omega
      · rw [if_neg hm] at hidx
        have hnl := nl_none rest hm
        rw [hnl] at hl hy hgo hme hR hw
        simp only [Nat.sub_self] at hgo hme
        have hposi : ((rest.length : Int) == 0) = false := beq_eq_false_iff_ne.2 (by omega)
        have hcut := cut_to (P := Try.prog) 22 5 .i64 Try.underlying22 hi A rest.length c (rest.length : Int) (by omega) (by omega) HL.out
        have hcut2 := cut_from (P := Try.prog) 22 5 .i64 Try.underlying22 hi 1 hsz5 A rest.length c (rest.length : Int) (by omega) (by omega)
        simp only [Int.toNat_natCast, Nat.mul_one] at hcut hcut2
        gi_wp2_with (refine ⟨trivial, ?_⟩; gi_at_call 24; refine (callsIn_wide.2 hidx).mono ?_; rintro e w' ⟨rfl, rfl⟩)
        refine hR.mono ?_
        rintro e W3 ⟨rfl, hJ3, hk3⟩
        have hBx3 : Boxed W3 bx 22 (.slice A rest.length c) := hk3.2.2.trans hBx
        have hcell3 := hBx3.cell
        have hfro3 := hBx3.frozen
        gi_wp2
        go_roundw
        case rel => exact hgo W3 hJ3 hk3
        case measure =>
          unfold leftL
          rw [(hme W3 undef hk3).cell, hcell]
          show 0 < rest.length
          omega

set_option maxHeartbeats 2000000 in
set_option maxRecDepth 100000 in
/-- slices.Clone of bytes -/
theorem clone_calls (A : Option Addr) (c : Nat) (l : List Int) (w : World) (hr : Kd.C (Kd.int .u8) w A l.length l) (hne : l ≠ []) (hsz : l.length ≤ 1000000) :
    Calls Try.prog 19 #[.slice A l.length c] w fun e w' => ∃ v, e = .returned v ∧ Kd.R (Kd.int .u8) 5 w' w.heap.size (fun _ => True) v l ∧ Below w.heap.size w w' := by
  obtain ⟨b, off, rfl, hc⟩ := cells_of hr hne
  obtain ⟨i0, hi, hz0, hz1, hz2⟩ := info_parts infoL5
  have q22 : ∀ (w : World) (a : Option Addr) (n c n' c' : Nat), (binOp .eql 22 (.slice a n c) (.slice none n' c')).run Try.prog w = .ok (.bool a.isNone) w := fun w a n c n' c' => Lib.run_eql_slice_nil w _ _ a n c n' c' Try.underlying22
  have HC := Aside0.mk hc
  clear hc hr
  go_enter Try.func19, Try.ntmps19
  go_wp2_with (at_builtin; refine wpList_append_own _ rfl _ _ 22 rfl w.heap.size 5 i0 (.int .u8 0) 1 1 Try.underlying22 hi hz0 hz1 hz2 rfl (by decide) _ _ _ rfl (World.ownsRow_made w #[] 0 (Nat.le_refl _) (Nat.zero_le _) rfl) ⟨b, off, none⟩ l.length c (l.map (Value.int .u8)) rfl ?qc1 ?qc2 ?qc3 ?qc4 ?qc5 ?qc6 ?_)
  case qc1 => simp
  case qc2 =>
    intro j u hj
    have hjn : j < l.length := by
      have := (List.getElem?_eq_some_iff.1 hj).1
      simpa using this
    rw [Addr.add_lit]
    refine Lib.cell?_alloc_some _ ?_
    rw [HC.out j hjn]
    have e : (l.map (Value.int .u8))[j]? = some (Value.int .u8 (l.getD j 0)) := by simp [List.getD, List.getElem?_eq_getElem hjn]
    rw [e] at hj
    exact hj
  case qc3 => intro u hu; obtain ⟨x, _, rfl⟩ := List.mem_map.1 hu; rfl
  case qc4 => unfold maxLen; omega
  case qc5 => omega
  case qc6 => simp
  intro v' w1 hown hgrow hnil
  go_wp2
  go_ret
  refine ⟨v', rfl, Kd.R_of_own ?_ (fun _ _ => trivial), ((Below.refl _ w).alloc (Nat.le_refl _) _).grown hgrow (by simp) (by intro k hk; simp [Value.ownBlock] at hk; omega)⟩
  simpa [encs] using hown
end Go.Proofs.Ytdekcmaakdpmaaa.Q
