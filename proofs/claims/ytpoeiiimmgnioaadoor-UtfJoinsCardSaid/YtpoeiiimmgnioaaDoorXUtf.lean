/- unicode/utf8.DecodeRune by the shelf's contract, in the print's form; the two tables that it reads. -/
import Derived.Test.YtpoeiiimmgnioaaDoorXWords
import Derived.Test.YtpoeiiimmgnioaaDoorXDec
namespace Go.Proofs.YtpoeiiimmgnioaaDoor.Q
open Go.RowKit Go.Proofs.YtpoeiiimmgnioaaDoorW.PrintWords Go.Proofs.YtpoeiiimmgnioaaDoorW.PrintLast Go.Proofs.YtpoeiiimmgnioaaDoorW.PrintMore

/-- the program's variables that are read: unicode/utf8's two tables -/
def GLOB (w : World) : Prop := Lib.Utf8Tabs (Tryd.lays7_32_ren.g 2) (Tryd.lays7_32_ren.g 3) w
theorem GLOB_below {w w1 : World} (h : GLOB w) (hb : Below w.heap.size w w1) : GLOB w1 :=
  ⟨fun c hc => pw_cell_below hb (h.1 c hc), fun i hi => ⟨pw_cell_below hb (h.2 i hi).1, pw_cell_below hb (h.2 i hi).2⟩⟩
theorem GLOB_alloc {w : World} (h : GLOB w) (o : Obj) : GLOB (w.alloc o) := GLOB_below h ((Below.refl _ w).alloc (Nat.le_refl _) o)
theorem GLOB_drewN {w : World} (h : GLOB w) (n : Nat) : GLOB (w.drewN n) := h
theorem GLOB_drew {w : World} (h : GLOB w) : GLOB w.drew := h

def toBA (l : List Int) : ByteArray := ⟨(l.map fun x => UInt8.ofNat x.toNat).toArray⟩
theorem toBA_size (l : List Int) : (toBA l).size = l.length := by simp [toBA, ByteArray.size]
def bytesB (l : List Int) : Bool := l.all fun x => decide (0 ≤ x) && decide (x < 256)
def utf8_DecodeRune.f (l0 : List Int) : Option (Int × Int) := if bytesB l0 = true then some (((Lib.decodeGo (toBA l0)).1 : Int), ((Lib.decodeGo (toBA l0)).2 : Int)) else none

theorem toBA_get (l : List Int) (hb : bytesB l = true) (j : Nat) (hj : j < l.length) : (((toBA l).get! j).toNat : Int) = l.getD j 0 := by
  have hlt : j < (toBA l).size := by rw [toBA_size]; exact hj
  have hx := List.all_eq_true.1 hb (l[j]) (List.getElem_mem hj)
  simp only [Bool.and_eq_true, decide_eq_true_eq] at hx
  rw [Utf8W.get!_of_lt _ _ hlt]
  have : (toBA l)[j] = UInt8.ofNat (l[j]).toNat := by simp [toBA, ByteArray.getElem_eq_getElem_data]
  rw [this, List.getD_eq_getElem?_getD, List.getElem?_eq_getElem hj]
  simp
  omega

set_option maxHeartbeats 1000000 in
theorem slow_empty (A0 : Option Addr) (c0 : Nat) (w : World) : Calls Tryd.prog 24 #[.slice A0 0 c0] w fun e w' => e = .returned (.tuple #[.int .i32 65533, .int .i64 0]) ∧ w' = w := by
  go_enter Tryd.func24, Tryd.ntmps24
  go_wp2
  go_ret2
  exact ⟨rfl, rfl⟩
set_option maxHeartbeats 1000000 in
theorem decode_empty (A0 : Option Addr) (c0 : Nat) (w : World) : Calls Tryd.prog 21 #[.slice A0 0 c0] w fun e w' => e = .returned (.tuple #[.int .i32 65533, .int .i64 0]) ∧ w' = w := by
  go_enter Tryd.func21, Tryd.ntmps21
  go_wp2
  go_loop [8] (fun i => i = .int .i64 0) (fun _ => 0)
  case atStart => rfl
  case round =>
    subst hrel
    go_wp2_with (go_at_call 24; refine (slow_empty A0 c0 _).mono ?_; rintro e w' ⟨rfl, rfl⟩)
    go_ret2
    exact ⟨rfl, rfl⟩

theorem utf8_DecodeRune.calls (A0 : Option Addr) (c0 : Nat) (l0 : List Int) (r1 r2 : Int) (w : World) (hr0 : Kd.C (Kd.int .u8) w A0 l0.length l0) (hc0 : l0.length ≤ c0) (hG : GLOB w) (h : utf8_DecodeRune.f l0 = some (r1, r2)) :
    Calls Tryd.prog 21 #[.slice A0 l0.length c0] w fun e w' => e = .returned (.tuple #[.int .i32 r1, .int .i64 r2]) ∧ Below w.heap.size w w' := by
  unfold utf8_DecodeRune.f at h
  by_cases hb : bytesB l0 = true
  · rw [if_pos hb] at h
    simp only [Option.some.injEq, Prod.mk.injEq] at h
    obtain ⟨rfl, rfl⟩ := h
    by_cases h0 : l0.length = 0
    · obtain rfl := List.length_eq_zero_iff.1 h0
      refine (decode_empty A0 c0 w).mono ?_
      rintro e w' ⟨rfl, rfl⟩
      exact ⟨rfl, Below.refl _ _⟩
    · obtain ⟨ad, rfl, hcell⟩ := hr0.2.2 (by omega)
      have hcell' : ∀ j, j < l0.length → w.cell? (ad.add j) = some (.int .u8 (l0.getD j 0)) := by
        intro j hj
        obtain ⟨c, hc, hR, hu⟩ := hcell j l0[j] (List.getElem?_eq_getElem hj)
        have hR' : c = [Value.int .u8 l0[j]] := hR
        subst hR'
        have := hu 0 _ rfl
        have e1 : j * (Kd.int .u8).sz + 0 = j := by show j * 1 + 0 = j; omega
        rw [e1] at this
        rw [this, List.getD_eq_getElem?_getD, List.getElem?_eq_getElem hj]
        rfl
      obtain ⟨b, off, spot⟩ := ad
      have hs : spot = none := by
        have := hcell' 0 (by omega)
        cases spot with
        | none => rfl
        | some s => simp [Addr.add, World.cell?] at this; split at this <;> simp at this
      subst hs
      have hsz := toBA_size l0
      have := Any7.utf8_DecodeRune Tryd.lays7_32 (toBA l0) b off c0 w hG (by
        intro j hj
        rw [hsz] at hj
        rw [toBA_get l0 hb j hj]
        have := hcell' j hj
        unfold Addr.add at this
        split at this
        · rename_i hj0; subst hj0; exact this
        · exact this)
      rw [hsz] at this
      exact this
  · rw [if_neg hb] at h
    cases h
end Go.Proofs.YtpoeiiimmgnioaaDoor.Q
