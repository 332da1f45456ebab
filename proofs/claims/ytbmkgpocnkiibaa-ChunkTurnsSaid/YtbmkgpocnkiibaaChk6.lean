/- A chunk that is no run, with its sort. -/
import Derived.Test.YtbmkgpocnkiibaaChk5
namespace Go.Proofs.Ytbmkgpocnkiibaa.Lt
open Go.Proofs.YtbmkgpocnkiibaaW.Abs Go
set_option maxRecDepth 100000
set_option maxHeartbeats 2000000
set_option linter.unusedSimpArgs false
set_option linter.unusedVariables false
variable {W0 : World}

def sortOf (x y z : List Int) : Int := if y = z then 4 else if x = y then 3 else if x = z then 2 else 5

theorem sorted_spec (b o t : List Int) (k : Int) (b0 b1 o0 o1 t0 t1 : Nat) {B O T : AV} (hB : IsRow B (ints b)) (hO : IsRow O (ints o)) (hT : IsRow T (ints t)) (hb : b0 ≤ b1) (hb' : b1 ≤ b.length) (ho : o0 ≤ o1) (ho' : o1 ≤ o.length) (ht : t0 ≤ t1) (ht' : t1 ≤ t.length) (hlo : o.length ≤ 1000000) (hlb : b.length ≤ 1000000) :
    PCall Try.prog W0 17 [B, O, T, .agg [.int .i64 k, .int .i64 b0, .int .i64 b1, .int .i64 o0, .int .i64 o1, .int .i64 t0, .int .i64 t1]] (.agg [.int .i64 (sortOf (cut b b0 b1) (cut o o0 o1) (cut t t0 t1)), .int .i64 b0, .int .i64 b1, .int .i64 o0, .int .i64 o1, .int .i64 t0, .int .i64 t1]) := by
  refine pcall2 cok Try.func17 F17d F17e F17c F17w F17r (fun N => ?_)
  refine ev2I_intro ?_
  have sB := hB.sub b0 b1 (by simpa using hb')
  have sO := hO.sub o0 o1 (by simpa using ho')
  have sT := hT.sub t0 t1 (by simpa using ht')
  rw [ints_cut] at sB sO sT
  have fit : ∀ (l : List Int) (i j : Nat) (A : AV), IsRow A (ints l) → i ≤ j → j ≤ l.length → slOk (fun _ => none) 1 A (i : Int) (fun _ => (j : Int)) := fun l i j A hA h1 h2 => by
    rw [hA.slOk]; exact ⟨by omega, by omega, by simp; omega, fun e he => ints_one he⟩
  have hN : N < N + 2 := by omega
  simp (disch := first | omega | (simp only [List.length_set]; omega)) [F17s, hN, fit b b0 b1 B hB hb hb', fit o o0 o1 O hO ho ho', fit t t0 t1 T hT ht ht', hB.chk, hO.chk, hT.chk]
  intro M hM
  have lo : (cut o o0 o1).length ≤ 140737488355328 := by rw [cut_length ho']; omega
  have lb : (cut b b0 b1).length ≤ 140737488355328 := by rw [cut_length hb']; omega
  have bB := sB.same (ints_bare _)
  have bO := sO.same (ints_bare _)
  have bT := sT.same (ints_bare _)
  refine hcallI_pure (equal_spec (cut o o0 o1) (cut t t0 t1) sO sT lo) (by simp [bareL, bO, bT]) (fun M2 hM2 => ?_)
  by_cases h1 : cut o o0 o1 = cut t t0 t1
  · simp [h1, sortOf]
  simp [h1]
  refine hcallI_pure (equal_spec (cut b b0 b1) (cut o o0 o1) sB sO lb) (by simp [bareL, bO, bB]) (fun M3 hM3 => ?_)
  by_cases h2 : cut b b0 b1 = cut o o0 o1
  · have e3 : sortOf (cut b b0 b1) (cut o o0 o1) (cut t t0 t1) = 3 := by
      unfold sortOf; rw [if_neg h1, if_pos h2]
    rw [e3]; simp [h2]
  simp [h2]
  refine hcallI_pure (equal_spec (cut b b0 b1) (cut t t0 t1) sB sT lb) (by simp [bareL, bT, bB]) (fun M4 hM4 => ?_)
  by_cases h3 : cut b b0 b1 = cut t t0 t1
  · have e3 : sortOf (cut b b0 b1) (cut o o0 o1) (cut t t0 t1) = 2 := by
      unfold sortOf; rw [if_neg h1, if_neg h2, if_pos h3]
    rw [e3]; simp [h3]
  · have e3 : sortOf (cut b b0 b1) (cut o o0 o1) (cut t t0 t1) = 5 := by
      unfold sortOf; rw [if_neg h1, if_neg h2, if_neg h3]
    rw [e3]; simp [h3]
end Go.Proofs.Ytbmkgpocnkiibaa.Lt
