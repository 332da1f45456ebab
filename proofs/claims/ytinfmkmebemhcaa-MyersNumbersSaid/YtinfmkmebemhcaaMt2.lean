/- slices.Index over numbers: its walk. -/
import Derived.Test.YtinfmkmebemhcaaMt1
namespace Go.Proofs.Ytinfmkmebemhcaa.Lt
open Go.Proofs.YtinfmkmebemhcaaW.Abs Go
set_option maxRecDepth 100000
set_option maxHeartbeats 4000000
set_option linter.unusedSimpArgs false
set_option linter.unusedVariables false
variable {W0 : World}

def idxN (x : Int) (l : List Int) : Int := match idx x l with | none => -1 | some k => k
theorem index_spec (l : List Int) {L : AV} (hL : IsRow L (ints l)) (hl : l.length ≤ 1000000) (x : Int) : PCall Try.prog W0 20 [L, .int .i64 x] (.int .i64 (idxN x l)) := by
  refine pcall2 cok Try.func20 F20d F20e F20c F20w F20r (fun N => ?_)
  refine ev2I_intro ?_
  simp (disch := first | omega | (simp only [List.length_set]; omega)) [F20s, hL.len]
  refine loop2I_ind cok F20l0w (m := fun k => l.length - k) (I := fun k ts loc τ => k ≤ l.length ∧ ts.length = 19 ∧ tmp ts 0 = L ∧ tmp ts 1 = .int .i64 x ∧ tmp ts 7 = .int .i64 l.length ∧ tmp ts 8 = .int .i64 k ∧ idx x l = (idx x (l.drop k)).map (· + k)) ?_ 0 ?_
  · rintro k ts loc τ ⟨hk, g, g0, g1, g7, g8, hi⟩ ih'
    simp (disch := first | omega | (simp only [List.length_set]; omega)) [F20l0, g, g7, g8]
    by_cases hlt : k < l.length
    · obtain ⟨y, hy⟩ : ∃ y, l[k]? = some y := ⟨l[k], by simp [hlt]⟩
      have hye := nums_at hy
      rw [drop_at hy, idx] at hi
      by_cases hxy : y = x
      · subst hxy
        simp (disch := first | omega | (simp only [List.length_set]; omega)) [hlt, g, g0, g1, g8, hL.elems, hL.at hye, hye]
        simp at hi
        simp [idxN, hi]
      · have hxy' : ¬ x = y := fun h => hxy h.symm
        simp (disch := first | omega | (simp only [List.length_set]; omega)) [hlt, g, g0, g1, g8, hL.elems, hL.at hye, hye, hxy']
        refine ih' (k + 1) _ _ _ (by omega) ⟨by omega, ?_⟩
        simp (disch := first | omega | (simp only [List.length_set]; omega)) [g, g0, g1, g7, g8, wrap_id]
        rw [if_neg hxy] at hi
        rw [hi]
        cases idx x (l.drop (k + 1)) with
        | none => rfl
        | some j => simp; omega
    · simp (disch := first | omega | (simp only [List.length_set]; omega)) [hlt, g, g7, g8]
      rw [List.drop_of_length_le (by omega)] at hi
      simp [idx] at hi
      simp [idxN, hi]
  · simp
end Go.Proofs.Ytinfmkmebemhcaa.Lt
