/- MyersTurns: the other way round, and backwards. -/
import Derived.Test.YtinfmkmebemhcaaMt9
namespace Go.Proofs.Ytinfmkmebemhcaa.Lt
open Go.Proofs.YtinfmkmebemhcaaW.Abs Go
set_option maxRecDepth 100000
set_option maxHeartbeats 4000000
set_option linter.unusedSimpArgs false
set_option linter.unusedVariables false
variable {W0 : World}

theorem back_spec (l : List Int) {A : AV} (hA : IsRow A (ints l)) (hl : l.length ≤ 1000000) : PCall Try.prog W0 18 [A] (rowV (ints l.reverse)) := by
  refine pcall2 cok Try.func18 F18d F18e F18c F18w F18r (fun N => ?_)
  refine ev2I_intro ?_
  have lA := hA.len
  simp only [ints_len] at lA
  have w0 : IntKind.i64.wrap ((l.length : Int) - 1) = (l.length : Int) - 1 := wrap_id (by omega) (by omega)
  simp (disch := first | omega | (simp only [List.length_set]; omega)) [F18s, lA, w0]
  refine loop2I_ind cok F18l0w (m := fun k => l.length - k) (I := fun k ts loc τ => k ≤ l.length ∧ ts.length = 20 ∧ tmp ts 0 = A ∧ tmp ts 4 = .int .i64 ((l.length : Int) - 1 - k) ∧
    ∃ acc tok, tmp ts 3 = accV (ints acc) tok ∧ AccL (loc 0) 1 tok (ints acc) ∧ acc.length = k ∧ acc ++ l.reverse.drop k = l.reverse) ?_ 0 ?_
  · rintro k ts loc τ ⟨hk, gl, g0, g4, acc, tok, g3, ha, hal, hR⟩ ih'
    simp (disch := first | omega | (simp only [List.length_set]; omega)) [F18l0, gl, g4]
    by_cases hlt : k < l.length
    · have c1 : (0 : Int) ≤ (l.length : Int) - 1 - k := by omega
      have c1' : (k : Int) ≤ (l.length : Int) - 1 := by omega
      have c2 : ((l.length : Int) - 1 - k).toNat = l.length - 1 - k := by omega
      have c3 : IntKind.i64.wrap ((l.length : Int) - 1 - k - 1) = (l.length : Int) - 1 - k - 1 := wrap_id (by omega) (by omega)
      obtain ⟨x, hx⟩ : ∃ x, l[l.length - 1 - k]? = some x := ⟨l[l.length - 1 - k]'(by omega), List.getElem?_eq_getElem _⟩
      have hr : l.reverse[k]? = some x := by rw [List.getElem?_reverse hlt]; exact hx
      have ex := nums_at hx
      have eA := hA.elems τ.obj
      have tA := hA.at ex
      rw [drop_at hr] at hR
      simp (disch := first | omega | (simp only [List.length_set]; omega)) [gl, g0, g3, g4, c1, c1', c2, eA, ex, tA, ha.grow]
      refine andI_intro (by omega) ?_
      simp (disch := first | omega | (simp only [List.length_set]; omega)) [gl, g0, g3, g4, c3]
      refine ih' (k + 1) _ _ _ (by omega) ⟨by omega, ?_⟩
      simp (disch := first | omega | (simp only [List.length_set]; omega)) [gl, g0, g3, g4]
      exact ⟨by omega, acc ++ [x], _, by rw [ints_app]; rfl, AccL.next' _ _ _ (by rw [ints_app]; rfl), by simp; omega, by simpa using hR⟩
    · have c1 : ¬ (0 : Int) ≤ (l.length : Int) - 1 - k := by omega
      have c1' : ¬ (k : Int) ≤ (l.length : Int) - 1 := by omega
      rw [List.drop_of_length_le (by simp; omega), List.append_nil] at hR
      rw [hR] at g3
      simp (disch := first | omega | (simp only [List.length_set]; omega)) [gl, g0, g3, g4, c1, c1']
  · exact ⟨by omega, by simp, by simp, by simp, [], 0, by simp, by simp, rfl, by simp⟩

theorem np_diag_at (n i : Nat) (h : i < n) : (prs (np (diag n 0 0)))[i]? = some [.int .i64 (i : Int), .int .i64 (i : Int)] := by
  have : (np (diag n 0 0))[i]? = some ((i : Int), (i : Int)) := by rw [np, List.getElem?_map, diag_at _ _ _ _ h]; simp
  exact prs_at this

theorem myersTurns_spec (l : List Int) {X : AV} (hX : IsRow X (ints l)) (_ : ∀ v ∈ l, (Lit.int .i64 v).wf = true) (_ : l.length * 8 ≤ 140737488351232) (m : List Int) {Y : AV} (hY : IsRow Y (ints m)) (_ : ∀ v ∈ m, (Lit.int .i64 v).wf = true) (_ : m.length * 8 ≤ 140737488351232) :
    PCall Try.prog W0 8 [X, Y] (.bool true) := by
  refine pcall2 cok Try.func8 F8d F8e F8c F8w F8r (fun N => ?_)
  refine ev2I_intro ?_
  obtain ⟨a, hae⟩ : ∃ a, a = kindL 6 l := ⟨_, rfl⟩
  obtain ⟨b, hbe⟩ : ∃ b, b = kindL 6 m := ⟨_, rfl⟩
  have ha : a.length ≤ 150 := by rw [hae]; exact kindL_len _ _
  have hb : b.length ≤ 150 := by rw [hbe]; exact kindL_len _ _
  simp (disch := first | omega | (simp only [List.length_set]; omega)) [F8s]
  refine hcallI_pure (few_spec l hX 6 (by omega) (by omega)) (by simp [hX.same (ints_bare _)]) (fun M hM => ?_)
  rw [← hae]
  simp (disch := first | omega | (simp only [List.length_set]; omega)) []
  refine hcallI_pure (few_spec m hY 6 (by omega) (by omega)) (by simp [hY.same (ints_bare _)]) (fun M hM => ?_)
  rw [← hbe]
  simp (disch := first | omega | (simp only [List.length_set]; omega)) []
  refine hcallI_pure (of_spec (rowInts a) (rowInts b) (by omega) (by omega)) (by simp) (fun M hM => ?_)
  simp (disch := first | omega | (simp only [List.length_set]; omega)) []
  refine hcallI_pure (of_spec (rowInts b) (rowInts a) (by omega) (by omega)) (by simp) (fun M hM => ?_)
  simp (disch := first | omega | (simp only [List.length_set]; omega)) []
  refine hcallI_pure (back_spec a (rowInts a) (by omega)) (by simp) (fun M hM => ?_)
  simp (disch := first | omega | (simp only [List.length_set]; omega)) []
  refine hcallI_pure (back_spec b (rowInts b) (by omega)) (by simp) (fun M hM => ?_)
  simp (disch := first | omega | (simp only [List.length_set]; omega)) []
  refine hcallI_pure (of_spec (rowInts a.reverse) (rowInts b.reverse) (by simp; omega) (by simp; omega)) (by simp) (fun M hM => ?_)
  simp (disch := first | omega | (simp only [List.length_set]; omega)) []
  refine andI_intro ⟨fun e he => ints_one he, by omega, by omega⟩ ?_
  simp (disch := first | omega | (simp only [List.length_set]; omega)) []
  refine hcallI_pure (of_spec (rowInts a) (IsRow.row (ints a)) (by omega) (by omega)) (by simp) (fun M hM => ?_)
  rw [hvO_self]
  simp (disch := first | omega | (simp only [List.length_set]; omega)) []
  obtain ⟨R, hR⟩ : ∃ R, R = rowV (prs (np (hvO a b 0 0))) := ⟨_, rfl⟩
  obtain ⟨S, hS⟩ : ∃ S, S = rowV (prs (np (hvO b a 0 0))) := ⟨_, rfl⟩
  obtain ⟨T, hT⟩ : ∃ T, T = rowV (prs (np (hvO a.reverse b.reverse 0 0))) := ⟨_, rfl⟩
  obtain ⟨U, hU⟩ : ∃ U, U = rowV (prs (np (diag a.length 0 0))) := ⟨_, rfl⟩
  rw [← hR, ← hS, ← hT, ← hU]
  have iU : IsRow U (prs (np (diag a.length 0 0))) := by rw [hU]; exact IsRow.rowV _
  have lR : lenOf R = some (hvO a b 0 0).length := by rw [hR, (IsRow.rowV _).len]; simp
  have lS : lenOf S = some (hvO a b 0 0).length := by rw [hS, (IsRow.rowV _).len]; simp [hvO_swap_len a b]
  have lT : lenOf T = some (hvO a b 0 0).length := by rw [hT, (IsRow.rowV _).len]; simp [hvO_back_len a b]
  have lU : lenOf U = some a.length := by rw [iU.len]; simp [diag_len]
  have lA : lenOf (rowV (ints a)) = some a.length := by rw [(IsRow.rowV _).len]; simp
  generalize rowV (ints a) = Z at lA ⊢
  refine loop2I_ind cok F8l0w (m := fun i => a.length - i) (I := fun i ts loc τ => i ≤ a.length ∧ ts.length = 103 ∧ tmp ts 5 = Z ∧ tmp ts 8 = R ∧ tmp ts 9 = .int .i64 0 ∧ tmp ts 10 = S ∧ tmp ts 11 = .int .i64 0 ∧ tmp ts 12 = T ∧ tmp ts 13 = .int .i64 0 ∧ tmp ts 14 = U ∧ tmp ts 15 = .int .i64 0 ∧ tmp ts 16 = .int .i64 (i : Int)) ?_ 0 ?_
  · clear hR hS hT hU
    rintro i ts loc τ ⟨hi, gl, g5, g8, g9, g10, g11, g12, g13, g14, g15, g16⟩ ih'
    simp (disch := first | omega | (simp only [List.length_set]; omega)) [F8l0, gl, g14, g16, lU]
    by_cases hlt : i < a.length
    · have hae := np_diag_at a.length i hlt
      have eU := iU.elems τ.obj
      have tU := iU.at hae
      simp (disch := first | omega | (simp only [List.length_set]; omega)) [hlt, gl, g14, g16, lU, eU, tU, hae]
      refine ih' (i + 1) _ _ _ (by omega) ⟨by omega, ?_⟩
      simp (disch := first | omega | (simp only [List.length_set]; omega)) [gl, g5, g8, g9, g10, g11, g12, g13, g14, g15, g16, wrap_id]
    · simp (disch := first | omega | (simp only [List.length_set]; omega)) [hlt, gl, g14, g16, lU]
      refine hcallI_pure known_spec (by simp) (fun M hM => ?_)
      simp (disch := first | omega | (simp only [List.length_set]; omega)) [gl, g5, g8, g9, g10, g11, g12, g13, g14, g15, g16, lR, lS, lT, lU, lA]
  · exact ⟨by omega, by rfl, by rfl, by rfl, by rfl, by rfl, by rfl, by rfl, by rfl, by rfl, by rfl, by rfl⟩
end Go.Proofs.Ytinfmkmebemhcaa.Lt
