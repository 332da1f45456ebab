/- scarflaw02.known: the chapter's examples hold (by hand: the bytes of a constant bear the run-time's mark). -/
import Derived.Test.YtdekcmaakdpmaaaXLine
import Derived.Lib.SlBytesConst
namespace Go.Proofs.Ytdekcmaakdpmaaa.Q
open Go.RowKit Go.Proofs.YtdekcmaakdpmaaaW.PrintWords Go.Proofs.YtdekcmaakdpmaaaW.PrintLast Go.Proofs.YtdekcmaakdpmaaaW.PrintMore
set_option linter.unusedVariables false
set_option linter.unusedSimpArgs false

def scarflaw02_known.f : Option Bool := some true
theorem exC (w : World) (fr : Nat × Nat) : Kd.C (Kd.int .u8) (w.alloc (.cells #[.int .u8 97, .int .u8 10, .int .u8 10, .int .u8 98] 5 fr)) (some ⟨w.heap.size, 0, none⟩) 4 [97, 10, 10, 98] := by
  refine Kd.C_of_reads (d := (0 : Int)) (h1 := fun _ => rfl) ⟨rfl, by decide, fun _ => ⟨_, rfl, fun j hj => ?_⟩⟩
  have h4 : j = 0 ∨ j = 1 ∨ j = 2 ∨ j = 3 := by have h5 : j < 4 := hj; omega
  have hc := World.cell?_alloc_mark w #[.int .u8 97, .int .u8 10, .int .u8 10, .int .u8 98] 5 fr j
  rcases h4 with rfl | rfl | rfl | rfl <;> exact hc
theorem ex_split : line_Split.f [97, 10, 10, 98] = some [[97, 10], [10], [98]] := by decide
theorem ex_starts : line_Starts.f [97, 10, 10, 98] = some [0, 2, 3] := by decide
theorem ex_place : line_Place.f [0, 2, 3] 3 = some (2, 0) := by decide +kernel

set_option maxHeartbeats 8000000 in
set_option maxRecDepth 100000 in
theorem scarflaw02_known.calls (r : Bool) (w : World) (h : scarflaw02_known.f = some r) :
    Calls Try.prog 12 #[] w fun e w' => e = .returned (.bool r) ∧ Below w.heap.size w w' := by
  obtain rfl : true = r := Option.some.inj h
  have kc := fun (w : World) (C : Array Value) (n c : Nat) => Lib.run_convert_bytes_const (P := Try.prog) w 22 5 C n c Try.underlying22 Try.underlying5
  have hs0 : ((strOfNums [97, 10]).toList == ([97, 10] : List UInt8)) = true := by decide +kernel
  have hs2 : ((strOfNums [98]).toList == ([98] : List UInt8)) = true := by decide +kernel
  go_enter Try.func12, Try.ntmps12
  go_wp2_with (first
    | (go_at_call 9; refine (line_Split.calls (some ⟨w.heap.size, 0, none⟩) 4 [97, 10, 10, 98] _ _ (exC w _) (by decide) ex_split).mono ?_; rintro e w2 ⟨v, rfl, hS, hB2⟩; obtain ⟨Av, cv, rfl⟩ := Kd.S_slice hS)
    | (go_at_call 10; refine (line_Starts.calls (some ⟨w2.heap.size, 0, none⟩) 4 [97, 10, 10, 98] _ _ (exC w2 _) (by decide) ex_starts).mono ?_; rintro e w3 ⟨u, rfl, hR, hB3⟩; obtain ⟨Au, cu, rfl⟩ := Kd.R_slice hR)
    | (go_at_call 15; refine (line_Place.calls Au cu [0, 2, 3] 3 _ _ _ (Kd.R_reads' hR).2.2 (Kd.R_reads' hR).2.1 ex_place).mono ?_; rintro e w4 ⟨rfl, hB4⟩; have hb24 : Below w2.heap.size w2 w4 := (((Below.refl _ w2).alloc (Nat.le_refl _) _).trans (hB3.mono (by simp))).trans (hB4.mono (by have := hB3.size; simp at this; omega)); have hC4 := Kd.C_below (Kd.S_reads' hS).2.2 hb24; obtain ⟨ad, B0, d0, e0, hx0, hl0, hi0⟩ := atLL hC4 0 (by decide); cases e0; obtain ⟨ad2, B2, d2, e2, hx2, hl2, hi2⟩ := atLL hC4 2 (by decide); cases e2; have hcv0 := Kd.C_string (P := Try.prog) (c := d0) Try.underlying22 Try.underlying5 Try.underlying9 hi0; have hcv2 := Kd.C_string (P := Try.prog) (c := d2) Try.underlying22 Try.underlying5 Try.underlying9 hi2; obtain ⟨ad3, e3, hx3⟩ := Kd.at_int (Kd.C_below (Kd.R_reads' hR).2.2 hB4) 1 (by decide) (by decide); cases e3; rw [Addr.add_zero'] at hx0; simp only [show ([[97, 10], [10], [98]] : List (List Int)).getD 0 [] = [97, 10] from rfl, show ([97, 10] : List Int).length = 2 from rfl] at hx0 hcv0; simp only [show ([[97, 10], [10], [98]] : List (List Int)).getD 2 [] = [98] from rfl, show ([98] : List Int).length = 1 from rfl] at hx2 hcv2; simp only [show (1 : Int).toNat = 1 from rfl, show rd [0, 2, 3] 1 = 2 from rfl] at hx3; simp only [Nat.reduceMul, Nat.reduceEqDiff, Go.Addr.add, ↓reduceIte] at hx2 hx3))
  go_ret
  exact ⟨rfl, ((((((Below.refl _ w).alloc (Nat.le_refl _) _).trans (hB2.mono (by simp))).trans (hb24.mono (by have := hB2.size; simp at this; omega)))))⟩
end Go.Proofs.Ytdekcmaakdpmaaa.Q
