/- Chapter 16: few numbers of few kinds; the chapter's example. -/
import Derived.Test.YtinfmkmebemhcaaMt7
namespace Go.Proofs.Ytinfmkmebemhcaa.Lt
open Go.Proofs.YtinfmkmebemhcaaW.Abs Go
set_option maxRecDepth 100000
set_option maxHeartbeats 4000000
set_option linter.unusedSimpArgs false
set_option linter.unusedVariables false
variable {W0 : World}

def kindN (k x : Int) : Int := (x % 18446744073709551616) % k
def kindL (k : Int) (l : List Int) : List Int := (l.take 150).map (kindN k)
theorem kindL_len (k : Int) (l : List Int) : (kindL k l).length ≤ 150 := by simp [kindL]; omega
theorem kindN_eq (k x : Int) (h1 : 1 ≤ k) (h2 : k ≤ 9) : IntKind.i64.wrap (((IntKind.u64.wrap x).tmod (IntKind.u64.wrap k))) = kindN k x := by
  have e1 : IntKind.u64.wrap x = x % 18446744073709551616 := by rw [IntKind.wrap_u64]
  have e2 : IntKind.u64.wrap k = k := by rw [IntKind.wrap_u64]; omega
  rw [e1, e2, Int.tmod_eq_emod_of_nonneg (by omega)]
  have := Int.emod_nonneg (x % 18446744073709551616) (show k ≠ 0 by omega)
  have := Int.emod_lt_of_pos (x % 18446744073709551616) (show 0 < k by omega)
  rw [wrap_id (by omega) (by omega)]; rfl
theorem kind_ne {k : Int} (h1 : 1 ≤ k) (h2 : k ≤ 9) : ¬ IntKind.u64.wrap k = 0 := by rw [IntKind.wrap_u64]; omega

theorem few_spec (l : List Int) {A : AV} (hA : IsRow A (ints l)) (k : Int) (hk1 : 1 ≤ k) (hk2 : k ≤ 9) : PCall Try.prog W0 9 [A, .int .i64 k] (rowV (ints (kindL k l))) := by
  refine pcall2 cok Try.func9 F9d F9e F9c F9w F9r (fun N => ?_)
  refine ev2I_intro ?_
  have hkn := kind_ne hk1 hk2
  have key : ∀ (m : List Int) (B : AV) (ts : List AV) (loc : Go.Proofs.YtinfmkmebemhcaaW.Abs.Loc) (τ : Heap), m.length ≤ 150 → IsRow B (ints m) → ts.length = 31 → tmp ts 0 = B → tmp ts 1 = .int .i64 k → tmp ts 5 = .nils → tmp ts 6 = .int .i64 0 → ∀ K : KC2, (∀ ts loc τ tok, tmp ts 5 = accV (ints (m.map (kindN k))) tok → ts.length = 31 → K.k (.exit 0) ts loc τ) → @loop2I Try.prog W0 C [] K F9l0 ts loc τ := by
    intro m B ts loc τ hm hB hl h0 h1 h5 h6 K hK
    refine loop2I_ind cok F9l0w (m := fun i => m.length - i) (I := fun i ts loc τ => i ≤ m.length ∧ ts.length = 31 ∧ tmp ts 0 = B ∧ tmp ts 1 = .int .i64 k ∧ tmp ts 6 = .int .i64 i ∧ ∃ acc tok, tmp ts 5 = accV (ints acc) tok ∧ AccL (loc 0) 1 tok (ints acc) ∧ acc.length = i ∧ acc ++ (m.drop i).map (kindN k) = m.map (kindN k)) ?_ 0 ⟨by omega, hl, h0, h1, by simpa using h6, [], 0, by simpa using h5, by simp, rfl, by simp⟩
    clear hl h0 h1 h5 h6 ts loc τ
    rintro i ts loc τ ⟨hi, hl, h0, h1, h6, acc, tok, h5, ha, hal, hR⟩ ih'
    simp (disch := first | omega | (simp only [List.length_set]; omega)) [F9l0, h0, h1, h5, h6, hl, hB.len]
    by_cases hlt : i < m.length
    · obtain ⟨x, hx⟩ : ∃ x, m[i]? = some x := ⟨m[i], by simp [hlt]⟩
      have hxe := nums_at hx
      have hke := kindN_eq k x hk1 hk2
      simp (disch := first | omega | (simp only [List.length_set]; omega)) [hlt, h0, h1, h5, h6, hl, hB.elems, hB.at hxe, hxe, hke, ha.grow, hkn]
      refine andI_intro (by omega) ?_
      simp (disch := first | omega | (simp only [List.length_set]; omega)) [hlt, h0, h1, h5, h6, hl, wrap_id]
      refine ih' (i + 1) _ _ _ (by omega) ⟨by omega, ?_⟩
      simp (disch := first | omega | (simp only [List.length_set]; omega)) [h0, h1, h5, h6, hl, wrap_id]
      rw [drop_at hx] at hR
      exact ⟨acc ++ [kindN k x], _, by rw [ints_app]; rfl, AccL.next' _ _ _ (by rw [ints_app]; rfl), by simp; omega, by simpa using hR⟩
    · have hR' : acc = m.map (kindN k) := by rw [List.drop_of_length_le (by omega)] at hR; simpa using hR
      rw [hR'] at h5
      simp (disch := first | omega | (simp only [List.length_set]; omega)) [hlt, h0, h1, h5, h6, hl]
      exact hK _ _ _ tok (by simp (disch := first | omega | (simp only [List.length_set]; omega)) [h5]) (by simp [hl])
  simp [F9s, hA.len]
  refine condI_dec (fun h => ?_) (fun h => ?_)
  · simp
    refine andI_intro (by rw [hA.slOk]; exact ⟨by omega, by omega, by simp; omega, fun e he => ints_one he⟩) ?_
    have hB := hA.sub 0 150 (by simp; omega)
    rw [ints_cut] at hB
    simp
    refine key (l.take 150) (subVal 0 (fun _ => 150) A) _ _ _ (by simp; omega) (by simpa using hB) (by simp) (by simp) (by simp) (by simp) (by simp) _ (fun ts loc τ tok h5 hl => ?_)
    simp (disch := first | omega | (simp only [List.length_set]; omega)) [h5, hl, kindL]
  · simp
    refine key l A _ _ _ (by omega) hA (by simp) (by simp) (by simp) (by simp) (by simp) _ (fun ts loc τ tok h5 hl => ?_)
    simp (disch := first | omega | (simp only [List.length_set]; omega)) [h5, hl, kindL, List.take_of_length_le (show l.length ≤ 150 by omega)]

theorem ints3 (l : List Int) : l.map (fun n => [AV.int .i64 n]) = ints l := rfl
def txA : Txs := ⟨.row [[.row (ind [97]) none], [.row (ind [98]) none]] none, [⟨_, [97], IsRow.row _⟩, ⟨_, [98], IsRow.row _⟩], IsRow.row _⟩
def txB : Txs := ⟨.row [[.row (ind [98]) none], [.row (ind [99]) none]] none, [⟨_, [98], IsRow.row _⟩, ⟨_, [99], IsRow.row _⟩], IsRow.row _⟩
theorem ex_num : numA [] ([txA, txB].map Txs.txt) = [[0, 1], [1, 2]] := by decide
theorem known_spec : PCall Try.prog W0 11 [] (.bool true) := by
  refine pcall2 cok Try.func11 F11d F11e F11c F11w F11r (fun N => ?_)
  refine ev2I_intro ?_
  simp (disch := first | omega | (simp only [List.length_set]; omega)) [F11s]
  refine hcallI_pure (of_spec (a := [1, 2, 3, 4]) (b := [2, 4, 1]) (IsRow.row _) (IsRow.row _) (by simp) (by simp)) (by simp [ints, bareL]) (fun M hM => ?_)
  simp (disch := first | omega | (simp only [List.length_set]; omega)) [ex16]
  refine hcallI_pure (numbers_spec [txA, txB] (IsRow.row _) (by simp) (by simp [txA, txB])) (by simp [txA, txB, ind, bareL]) (fun M2 hM2 => ?_)
  rw [ex_num]
  simp (disch := first | omega | (simp only [List.length_set]; omega)) [intss, rowV, np, prs, ints]
  have e1 : rightM [1] [1] (-1, -1) [(0, 0)] = true := by decide
  have e2 : rightM [1] [2] (-1, -1) [(0, 0)] = false := by decide
  refine hcallI_pure (same_spec [1, 2] [1, 2] (IsRow.row _) (IsRow.row _) (by simp)) (by simp [ints, bareL]) (fun M3 hM3 => ?_)
  simp (disch := first | omega | (simp only [List.length_set]; omega)) []
  refine hcallI_pure (right_spec [1] [1] [(0, 0)] (IsRow.row _) (IsRow.row _) (IsRow.row _) (by simp)) (by simp [ints, prs, bareL]) (fun M4 hM4 => ?_)
  simp (disch := first | omega | (simp only [List.length_set]; omega)) [e1]
  refine hcallI_pure (right_spec [1] [2] [(0, 0)] (IsRow.row _) (IsRow.row _) (IsRow.row _) (by simp)) (by simp [ints, prs, bareL]) (fun M5 hM5 => ?_)
  simp (disch := first | omega | (simp only [List.length_set]; omega)) [e2]
end Go.Proofs.Ytinfmkmebemhcaa.Lt
