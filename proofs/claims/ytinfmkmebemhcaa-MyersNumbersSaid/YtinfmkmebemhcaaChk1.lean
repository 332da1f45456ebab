/- Rows of few numbers; are two rows the same; whether pairs are a common row. -/
import Derived.Test.YtinfmkmebemhcaaLt
import Derived.Test.YtinfmkmebemhcaaA22
namespace Go.Proofs.Ytinfmkmebemhcaa.Lt
open Go.Proofs.YtinfmkmebemhcaaW.Abs Go
set_option maxRecDepth 100000
set_option maxHeartbeats 1000000
set_option linter.unusedSimpArgs false
set_option linter.unusedVariables false
variable {W0 : World}

def fewN (x : Int) : Int := (x % 18446744073709551616) % 6
theorem fewN_bd (x : Int) : 0 ≤ fewN x ∧ fewN x < 6 := by unfold fewN; omega
def fewL (l : List Int) : List Int := (l.take 80).map fewN

theorem fewN_eq (x : Int) : IntKind.i64.wrap (((IntKind.u64.wrap x).tmod 6)) = fewN x := by
  have h1 : IntKind.u64.wrap x = x % 18446744073709551616 := by rw [IntKind.wrap_u64]
  rw [h1, Int.tmod_eq_emod_of_nonneg (by omega)]
  rw [wrap_id (by omega) (by omega)]; rfl

theorem same_spec (a b : List Int) {A B : AV} (hA : IsRow A (ints a)) (hB : IsRow B (ints b)) (hl : a.length ≤ 140737488355328) : PCall Try.prog W0 14 [A, B] (.bool (decide (a = b))) := by
  refine pcall2 cok Try.func14 F14d F14e F14c F14w F14r (fun N => ?_)
  refine ev2I_intro ?_
  simp [F14s, hA.len, hB.len]
  by_cases hlen : a.length = b.length
  · simp [hlen]
    refine loop2I_ind cok F14l0w (m := fun i => a.length - i) (I := fun i ts loc τ => i ≤ a.length ∧ ts.length = 26 ∧ tmp ts 0 = A ∧ tmp ts 1 = B ∧ tmp ts 5 = .int .i64 i ∧ decide (a.drop i = b.drop i) = decide (a = b)) ?_ 0 ?_
    · rintro i ts loc τ ⟨hi, hts, h0, h1, h5, hs⟩ ih'
      simp (disch := first | omega | (simp only [List.length_set]; omega)) [F14l0, h0, h1, h5, hA.len, hts]
      by_cases hlt : i < a.length
      · obtain ⟨x, hx⟩ : ∃ x, a[i]? = some x := ⟨a[i], by simp [hlt]⟩
        obtain ⟨y, hy⟩ : ∃ y, b[i]? = some y := ⟨b[i]'(by omega), by simp [hlen ▸ hlt]⟩
        have ha := ints_at hx
        have hb := ints_at hy
        rw [drop_at hx, drop_at hy] at hs
        simp (disch := first | omega | (simp only [List.length_set]; omega)) [hlt, h0, h1, h5, hts, hA.elems, hB.elems, hA.chk, hB.chk, hA.at ha, hB.at hb, ha, hb]
        by_cases hxy : x = y
        · subst hxy
          simp at hs
          simp (disch := first | omega | (simp only [List.length_set]; omega)) [h0, h1, h5, hts]
          intro M hM
          refine ih' (i + 1) _ _ _ (by omega) ⟨by omega, ?_⟩
          simp (disch := first | omega | (simp only [List.length_set]; omega)) [h0, h1, h5, hts, wrap_id]
          simpa using hs
        · simp [hxy] at hs
          simp (disch := first | omega | (simp only [List.length_set]; omega)) [hxy, h0, h1, h5, hts]
          intro M hM
          simpa using hs
      · simp (disch := first | omega | (simp only [List.length_set]; omega)) [hlt, h0, h1, h5, hts]
        rw [List.drop_of_length_le (by omega), List.drop_of_length_le (by omega)] at hs
        simpa using hs
    · simp
  · have hne : a ≠ b := fun e => hlen (by rw [e])
    have hlen' : ¬ ((a.length : Int) = b.length) := by omega
    simp [hlen', hne]

/-- the partner of a place -/
def toF : List (Int × Int) → Int → Int
  | [], _ => -1
  | p :: r, i => if p.1 = i then p.2 else toF r i
end Go.Proofs.Ytinfmkmebemhcaa.Lt
