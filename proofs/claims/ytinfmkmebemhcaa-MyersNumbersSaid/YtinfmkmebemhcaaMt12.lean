/- scarfref16.Numbers: the document's numbers of texts. -/
import Derived.Test.YtinfmkmebemhcaaMt9
namespace Go.Proofs.Ytinfmkmebemhcaa.Lt
open Go.Proofs.YtinfmkmebemhcaaW.Abs Go
set_option maxRecDepth 100000
set_option maxHeartbeats 4000000
set_option linter.unusedSimpArgs false
set_option linter.unusedVariables false
variable {W0 : World}

theorem placeN_lt (s : List UInt8) : ∀ (l : List (List UInt8)) (j : Nat), j < placeN s l → ∃ x, l[j]? = some x ∧ x ≠ s
  | [], j, h => by simp [placeN] at h
  | x :: r, j, h => by
    rw [placeN] at h
    split at h
    · omega
    · rename_i hx
      cases j with
      | zero => exact ⟨x, rfl, hx⟩
      | succ j => obtain ⟨y, h1, h2⟩ := placeN_lt s r j (by omega); exact ⟨y, by simpa using h1, h2⟩
theorem placeN_at (s : List UInt8) : ∀ (l : List (List UInt8)), placeN s l < l.length → l[placeN s l]? = some s
  | [], h => by simp at h
  | x :: r, h => by
    rw [placeN] at h ⊢
    split
    · rename_i hx; simp [hx]
    · rename_i hx; rw [if_neg hx] at h; simp at h; simpa using placeN_at s r h
/-- texts in a row -/
def strs (l : List (List UInt8)) : List (List AV) := l.map fun s => [.str s]
@[simp] theorem strs_len (l : List (List UInt8)) : (strs l).length = l.length := by simp [strs]
theorem strs_at {l : List (List UInt8)} {i : Nat} {s : List UInt8} (h : l[i]? = some s) : (strs l)[i]? = some [.str s] := by simp [strs, h]
theorem strs_app (a b : List (List UInt8)) : strs (a ++ b) = strs a ++ strs b := by simp [strs]

theorem refNum_l0 {K : KC2} {hs : Hints} {L : List Txs} {A : AV} {T : Txs} {S : Tx} {i k : Nat} {seen : List (List UInt8)} {tok : Nat} {w4 w6 : AV} {c : Go.Proofs.YtinfmkmebemhcaaW.Abs.Loc} (hA : IsRow A (L.map fun t => [t.v])) (hT : L[i]? = some T) (hS : T.l[k]? = some S) (hsl : seen.length ≤ 2000000)
    (hK : ∀ ts loc (τ : Heap), ts.length = 69 → tmp ts 0 = A → tmp ts 3 = accV (strs seen) tok → tmp ts 4 = w4 → tmp ts 5 = .int .i64 (i : Int) → tmp ts 6 = w6 → tmp ts 7 = .int .i64 (k : Int) → tmp ts 8 = .int .i64 ((placeN S.s seen : Nat) : Int) → loc = c → K.k (.exit 4) ts loc τ)
    (ts : List AV) (loc : Go.Proofs.YtinfmkmebemhcaaW.Abs.Loc) (τ : Heap) (gl : ts.length = 69) (g0 : tmp ts 0 = A) (g3 : tmp ts 3 = accV (strs seen) tok) (g4 : tmp ts 4 = w4) (g5 : tmp ts 5 = .int .i64 (i : Int)) (g6 : tmp ts 6 = w6) (g7 : tmp ts 7 = .int .i64 (k : Int)) (g8 : tmp ts 8 = .int .i64 0) (gc : loc = c) :
    loop2I Try.prog W0 C hs F17l0 ts loc τ := by
  refine loop2I_ind cok F17l0w (m := fun j => seen.length - j) (I := fun j ts loc τ => j ≤ placeN S.s seen ∧ ts.length = 69 ∧ tmp ts 0 = A ∧ tmp ts 3 = accV (strs seen) tok ∧ tmp ts 4 = w4 ∧ tmp ts 5 = .int .i64 (i : Int) ∧ tmp ts 6 = w6 ∧ tmp ts 7 = .int .i64 (k : Int) ∧ tmp ts 8 = .int .i64 (j : Int) ∧ loc = c) ?_ 0
    ⟨by omega, gl, g0, g3, g4, g5, g6, g7, by simpa using g8, gc⟩
  clear gl g0 g3 g4 g5 g6 g7 g8 gc ts loc τ
  rintro j ts loc τ ⟨hj, gl, g0, g3, g4, g5, g6, g7, g8, gc⟩ ih'
  have hpl := placeN_le S.s seen
  simp (disch := first | omega | (simp only [List.length_set]; omega)) [F17l0, gl, g3, g8]
  by_cases hlt : j < seen.length
  · obtain ⟨z, hz⟩ : ∃ z, seen[j]? = some z := ⟨seen[j], by simp [hlt]⟩
    have ze := strs_at hz
    have tZ := accV_at (tok := tok) ze
    have hTe : (L.map fun t => [t.v])[i]? = some [T.v] := by rw [List.getElem?_map, hT]; rfl
    have hSe : (T.l.map fun t => [t.v])[k]? = some [S.v] := by rw [List.getElem?_map, hS]; rfl
    have eA := hA.elems τ.obj
    have tA := hA.at hTe
    have eT := T.ok.elems τ.obj
    have tT := T.ok.at hSe
    have eS := S.ok.elems τ.obj
    simp (disch := first | omega | (simp only [List.length_set]; omega)) [hlt, gl, g0, g3, g5, g7, g8, ze, tZ, hTe, hSe, eA, tA, eT, tT, eS, bytesOf_ind, hA.chk, T.ok.chk, S.ok.chk]
    intro m hm
    by_cases hzs : z = S.s
    · have : j = placeN S.s seen := by
        rcases Nat.lt_or_ge j (placeN S.s seen) with h | h
        · obtain ⟨x, h1, h2⟩ := placeN_lt S.s seen j h
          rw [hz] at h1; cases h1; exact absurd hzs h2
        · omega
      have hne : (z != S.s) = false := by simp [hzs]
      simp (disch := first | omega | (simp only [List.length_set]; omega)) [hne, gl, g0, g3, g4, g5, g6, g7, g8]
      rw [this] at g8
      exact hK _ _ _ (by simp [gl]) (by simp (disch := first | omega | (simp only [List.length_set]; omega)) [g0]) (by simp (disch := first | omega | (simp only [List.length_set]; omega)) [g3]) (by simp (disch := first | omega | (simp only [List.length_set]; omega)) [g4]) (by simp (disch := first | omega | (simp only [List.length_set]; omega)) [g5]) (by simp (disch := first | omega | (simp only [List.length_set]; omega)) [g6]) (by simp (disch := first | omega | (simp only [List.length_set]; omega)) [g7]) (by simp (disch := first | omega | (simp only [List.length_set]; omega)) [g8]) gc
    · have hlt2 : j < placeN S.s seen := by
        rcases Nat.lt_or_ge j (placeN S.s seen) with h | h
        · exact h
        · have e : j = placeN S.s seen := by omega
          have := placeN_at S.s seen (by omega)
          rw [← e, hz] at this; cases this; exact absurd rfl hzs
      have hne : (z != S.s) = true := by simpa using hzs
      simp (disch := first | omega | (simp only [List.length_set]; omega)) [hne, gl, g0, g3, g4, g5, g6, g7, g8]
      refine ih' (j + 1) _ _ _ (by omega) ⟨by omega, ?_⟩
      simp (disch := first | omega | (simp only [List.length_set]; omega)) [gl, g0, g3, g4, g5, g6, g7, g8, wrap_id]
      exact gc
  · have hj' : j = placeN S.s seen := by omega
    simp (disch := first | omega | (simp only [List.length_set]; omega)) [hlt, gl, g3, g8]
    intro m hm
    rw [hj'] at g8
    exact hK _ _ _ (by simp [gl]) (by simp (disch := first | omega | (simp only [List.length_set]; omega)) [g0]) (by simp (disch := first | omega | (simp only [List.length_set]; omega)) [g3]) (by simp (disch := first | omega | (simp only [List.length_set]; omega)) [g4]) (by simp (disch := first | omega | (simp only [List.length_set]; omega)) [g5]) (by simp (disch := first | omega | (simp only [List.length_set]; omega)) [g6]) (by simp (disch := first | omega | (simp only [List.length_set]; omega)) [g7]) (by simp (disch := first | omega | (simp only [List.length_set]; omega)) [g8]) gc

theorem refNum_l1 {K : KC2} {hs : Hints} {L : List Txs} {A : AV} {T : Txs} {i : Nat} {seen0 : List (List UInt8)} {w4 : AV} {c1 : LC} (hA : IsRow A (L.map fun t => [t.v])) (hT : L[i]? = some T) (hTl : T.l.length ≤ 1000) (hsl : seen0.length + T.l.length ≤ 1000000)
    (hK : ∀ ts loc (τ : Heap) tok tok2, ts.length = 69 → tmp ts 0 = A → tmp ts 3 = accV (strs (numR seen0 T.txt).2) tok → AccL (loc 0) 1 tok (strs (numR seen0 T.txt).2) → tmp ts 4 = w4 → tmp ts 5 = .int .i64 (i : Int) → tmp ts 6 = accV (ints (numR seen0 T.txt).1) tok2 → loc 1 = c1 → (numR seen0 T.txt).2.length ≤ seen0.length + T.l.length → K.k (.exit 2) ts loc τ)
    (ts : List AV) (loc : Go.Proofs.YtinfmkmebemhcaaW.Abs.Loc) (τ : Heap) (tok0 : Nat) (gl : ts.length = 69) (g0 : tmp ts 0 = A) (g3 : tmp ts 3 = accV (strs seen0) tok0) (gs : AccL (loc 0) 1 tok0 (strs seen0)) (g4 : tmp ts 4 = w4) (g5 : tmp ts 5 = .int .i64 (i : Int)) (g6 : tmp ts 6 = .nils) (g7 : tmp ts 7 = .int .i64 0) (gc : loc 1 = c1) :
    loop2I Try.prog W0 C hs F17l1 ts loc τ := by
  refine loop2I_ind cok F17l1w (m := fun k => T.l.length - k) (I := fun k ts loc τ => k ≤ T.l.length ∧ ts.length = 69 ∧ tmp ts 0 = A ∧ tmp ts 4 = w4 ∧ tmp ts 5 = .int .i64 (i : Int) ∧ tmp ts 7 = .int .i64 (k : Int) ∧ loc 1 = c1 ∧
    ∃ seen tok acc tok2, tmp ts 3 = accV (strs seen) tok ∧ AccL (loc 0) 1 tok (strs seen) ∧ tmp ts 6 = accV (ints acc) tok2 ∧ AccL (loc 2) 1 tok2 (ints acc) ∧ acc.length = k ∧ seen.length ≤ seen0.length + k ∧ acc ++ (numR seen (T.txt.drop k)).1 = (numR seen0 T.txt).1 ∧ (numR seen (T.txt.drop k)).2 = (numR seen0 T.txt).2) ?_ 0
    ⟨by omega, gl, g0, g4, g5, by simpa using g7, gc, seen0, tok0, [], 0, g3, gs, by simpa using g6, by simp, rfl, by omega, by simp, by simp⟩
  clear gl g0 g3 gs g4 g5 g6 g7 gc ts loc τ tok0
  rintro k ts loc τ ⟨hk, gl, g0, g4, g5, g7, gc, seen, tok, acc, tok2, g3, gs, g6, ga, hal, hsn, hR1, hR2⟩ ih'
  have hTe : (L.map fun t => [t.v])[i]? = some [T.v] := by rw [List.getElem?_map, hT]; rfl
  have eA := hA.elems τ.obj
  have tA := hA.at hTe
  have lT := T.ok.len
  simp only [List.length_map] at lT
  simp (disch := first | omega | (simp only [List.length_set]; omega)) [F17l1, gl, g0, g5, g7, eA, tA, hTe, lT]
  by_cases hlt : k < T.l.length
  · obtain ⟨S, hS⟩ : ∃ S, T.l[k]? = some S := ⟨T.l[k], by simp [hlt]⟩
    have hSt : T.txt[k]? = some S.s := by rw [Txs.txt, List.getElem?_map, hS]; rfl
    rw [drop_at hSt, numR] at hR1 hR2
    dsimp only at hR1 hR2
    have hSe : (T.l.map fun t => [t.v])[k]? = some [S.v] := by rw [List.getElem?_map, hS]; rfl
    have eT := T.ok.elems τ.obj
    have tT := T.ok.at hSe
    simp (disch := first | omega | (simp only [List.length_set]; omega)) [hlt, gl, g0, g5, g7]
    refine refNum_l0 (L := L) (A := A) (T := T) (S := S) (i := i) (k := k) (seen := seen) (tok := tok) (w4 := w4) (w6 := accV (ints acc) tok2) (c := loc) hA hT hS (by omega) ?_ _ _ _ (by simp [gl]) (by simp (disch := first | omega | (simp only [List.length_set]; omega)) [g0]) (by simp (disch := first | omega | (simp only [List.length_set]; omega)) [g3]) (by simp (disch := first | omega | (simp only [List.length_set]; omega)) [g4]) (by simp (disch := first | omega | (simp only [List.length_set]; omega)) [g5]) (by simp (disch := first | omega | (simp only [List.length_set]; omega)) [g6]) (by simp (disch := first | omega | (simp only [List.length_set]; omega)) [g7]) (by simp (disch := first | omega | (simp only [List.length_set]; omega)) []) rfl
    intro ts2 loc2 τ2 q q0 q3 q4 q5 q6 q7 q8 qc
    subst qc
    have eA := hA.elems τ2.obj
    have eT := T.ok.elems τ2.obj
    have eS := S.ok.elems τ2.obj
    by_cases hp : placeN S.s seen = seen.length
    · rw [seenN, if_pos hp, hp] at hR1
      rw [seenN, if_pos hp] at hR2
      rw [hp] at q8
      simp (disch := first | omega | (simp only [List.length_set]; omega)) [q, q0, q3, q4, q5, q6, q7, q8, eA, tA, hTe, eT, tT, hSe, eS, bytesOf_ind, gs.grow]
      refine andI_intro (by omega) ?_
      simp (disch := first | omega | (simp only [List.length_set]; omega)) [q, q0, q3, q4, q5, q6, q7, q8, ga.grow]
      refine andI_intro (by omega) ?_
      simp (disch := first | omega | (simp only [List.length_set]; omega)) [q, q0, q3, q4, q5, q6, q7, q8]
      refine ih' (k + 1) _ _ _ (by omega) ⟨by omega, ?_⟩
      simp (disch := first | omega | (simp only [List.length_set]; omega)) [q, q0, q3, q4, q5, q6, q7, q8, wrap_id]
      exact ⟨gc, seen ++ [S.s], _, by rw [strs_app]; rfl, AccL.next' _ _ _ (by rw [strs_app]; rfl), acc ++ [(seen.length : Int)], _, by rw [ints_app]; rfl, AccL.next' _ _ _ (by rw [ints_app]; rfl), by simp; omega, by simp; omega, by simpa using hR1, hR2⟩
    · have hpn : ¬ (placeN S.s seen : Int) = (seen.length : Int) := by omega
      rw [seenN, if_neg hp] at hR1
      rw [seenN, if_neg hp] at hR2
      simp (disch := first | omega | (simp only [List.length_set]; omega)) [q, q0, q3, q4, q5, q6, q7, q8, hpn, ga.grow]
      refine andI_intro (by omega) ?_
      simp (disch := first | omega | (simp only [List.length_set]; omega)) [q, q0, q3, q4, q5, q6, q7, q8]
      refine ih' (k + 1) _ _ _ (by omega) ⟨by omega, ?_⟩
      simp (disch := first | omega | (simp only [List.length_set]; omega)) [q, q0, q3, q4, q5, q6, q7, q8, wrap_id]
      exact ⟨gc, seen, tok, rfl, gs, acc ++ [(placeN S.s seen : Int)], _, by rw [ints_app]; rfl, AccL.next' _ _ _ (by rw [ints_app]; rfl), by simp; omega, by omega, by simpa using hR1, hR2⟩
  · simp (disch := first | omega | (simp only [List.length_set]; omega)) [hlt, gl]
    have hk' : k = T.l.length := by omega
    subst hk'
    have hd : T.txt.drop T.l.length = [] := List.drop_of_length_le (by simp [Txs.txt])
    rw [hd, numR] at hR1 hR2
    simp only [List.append_nil] at hR1 hR2
    rw [hR1] at g6
    rw [hR2] at g3 gs hsn
    exact hK _ _ _ tok tok2 (by simp [gl]) (by simp (disch := first | omega | (simp only [List.length_set]; omega)) [g0]) (by simp (disch := first | omega | (simp only [List.length_set]; omega)) [g3]) gs (by simp (disch := first | omega | (simp only [List.length_set]; omega)) [g4]) (by simp (disch := first | omega | (simp only [List.length_set]; omega)) [g5]) (by simp (disch := first | omega | (simp only [List.length_set]; omega)) [g6]) gc hsn

theorem refNumbers_spec (L : List Txs) {A : AV} (hA : IsRow A (L.map fun t => [t.v])) (hl : L.length ≤ 500) (hT : ∀ t ∈ L, t.l.length ≤ 1000) : PCall Try.prog W0 17 [A] (rowV (intss (numA [] (L.map Txs.txt)))) := by
  refine pcall2 cok Try.func17 F17d F17e F17c F17w F17r (fun N => ?_)
  refine ev2I_intro ?_
  have lA := hA.len
  simp only [List.length_map] at lA
  simp (disch := first | omega | (simp only [List.length_set]; omega)) [F17s]
  refine loop2I_ind cok F17l2w (m := fun k => L.length - k) (I := fun k ts loc τ => k ≤ L.length ∧ ts.length = 69 ∧ tmp ts 0 = A ∧ tmp ts 5 = .int .i64 (k : Int) ∧
    ∃ outs tok seen tok2, tmp ts 4 = accV outs tok ∧ AccL (loc 1) 1 tok outs ∧ outs.length = k ∧ tmp ts 3 = accV (strs seen) tok2 ∧ AccL (loc 0) 1 tok2 (strs seen) ∧ seen.length ≤ 1000 * k ∧ bareLL outs ++ intss (numA seen ((L.map Txs.txt).drop k)) = intss (numA [] (L.map Txs.txt))) ?_ 0 ?_
  · rintro k ts loc τ ⟨hk, gl, g0, g5, outs, tok, seen, tok2, g4, ha, hal, g3, gs, hsn, hR⟩ ih'
    simp (disch := first | omega | (simp only [List.length_set]; omega)) [F17l2, gl, g0, g5, lA]
    by_cases hlt : k < L.length
    · obtain ⟨T, hTe⟩ : ∃ T, L[k]? = some T := ⟨L[k], by simp [hlt]⟩
      have hTm := hT T (List.mem_of_getElem? hTe)
      have hTt : (L.map Txs.txt)[k]? = some T.txt := by rw [List.getElem?_map, hTe]; rfl
      rw [drop_at hTt, numA] at hR
      simp (disch := first | omega | (simp only [List.length_set]; omega)) [hlt, gl, g0, g5]
      refine refNum_l1 (L := L) (A := A) (T := T) (i := k) (seen0 := seen) (w4 := accV outs tok) (c1 := loc 1) hA hTe hTm (by omega) ?_ _ _ _ tok2 (by simp [gl]) (by simp (disch := first | omega | (simp only [List.length_set]; omega)) [g0]) (by simp (disch := first | omega | (simp only [List.length_set]; omega)) [g3]) gs (by simp (disch := first | omega | (simp only [List.length_set]; omega)) [g4]) (by simp (disch := first | omega | (simp only [List.length_set]; omega)) [g5]) (by simp (disch := first | omega | (simp only [List.length_set]; omega)) []) (by simp (disch := first | omega | (simp only [List.length_set]; omega)) []) rfl
      intro ts2 loc2 τ2 t1 t2 q q0 q3 qs q4 q5 q6 qc qn
      have ha2 : AccL (loc2 1) 1 tok outs := by rw [qc]; exact ha
      simp (disch := first | omega | (simp only [List.length_set]; omega)) [q, q0, q3, q4, q5, q6, ha2.grow]
      refine andI_intro (by omega) ?_
      simp (disch := first | omega | (simp only [List.length_set]; omega)) [q, q0, q3, q4, q5, q6]
      refine ih' (k + 1) _ _ _ (by omega) ⟨by omega, ?_⟩
      simp (disch := first | omega | (simp only [List.length_set]; omega)) [q, q0, q3, q4, q5, q6, wrap_id]
      refine ⟨outs ++ [[accV (ints (numR seen T.txt).1) t2]], _, rfl, AccL.next' _ _ _ rfl, by simp; omega, _, t1, rfl, qs, by omega, ?_⟩
      have e1 : bareLL [[accV (ints (numR seen T.txt).1) t2]] = [[rowV (ints (numR seen T.txt).1)]] := by
        rw [bareLL_eq]; simp only [List.map_cons, List.map_nil, accV_bare, ints_bareLL]
      rw [bareLL_app, List.append_assoc, e1]
      simpa only [intss, List.map_cons, List.cons_append, List.nil_append] using hR
    · simp (disch := first | omega | (simp only [List.length_set]; omega)) [hlt, gl]
      rw [List.drop_of_length_le (by simp; omega)] at hR
      simp only [numA, intss, List.map_nil, List.append_nil] at hR
      simp (disch := first | omega | (simp only [List.length_set]; omega)) [g4, intss]
      rw [← hR]
  · exact ⟨by omega, by simp, by simp, by simp, [], 0, [], 0, by simp, by simp, rfl, by simp [strs], by simp [strs], by simp, by simp [bareLL_eq]⟩
end Go.Proofs.Ytinfmkmebemhcaa.Lt
