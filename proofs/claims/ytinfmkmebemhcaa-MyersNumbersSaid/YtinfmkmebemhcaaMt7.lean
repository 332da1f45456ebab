/- myers.Numbers: texts as numbers. -/
import Derived.Test.YtinfmkmebemhcaaMt6
import Derived.Test.YtinfmkmebemhcaaChk3
namespace Go.Proofs.Ytinfmkmebemhcaa.Lt
open Go.Proofs.YtinfmkmebemhcaaW.Abs Go
set_option maxRecDepth 100000
set_option maxHeartbeats 4000000
set_option linter.unusedSimpArgs false
set_option linter.unusedVariables false
variable {W0 : World}

/-- a text as it lies in a row of texts -/
structure Tx where
  v : AV
  s : List UInt8
  ok : IsRow v (ind s)
/-- a row of texts as it lies in a row of rows -/
structure Txs where
  v : AV
  l : List Tx
  ok : IsRow v (l.map fun t => [t.v])
def Txs.txt (t : Txs) : List (List UInt8) := t.l.map (·.s)
theorem ind_bare' (l : List UInt8) : bareLL (ind l) = ind l := by simp [ind, bareLL_eq]
theorem Tx.bare (t : Tx) : t.v.bare = t.v := t.ok.same (ind_bare' t.s)
theorem Txs.bare (t : Txs) : t.v.bare = t.v := t.ok.same (by
  rw [bareLL_eq, List.map_map]
  refine List.map_congr_left fun x _ => ?_
  simp [x.bare])
theorem txss_bare {A : AV} {L : List Txs} (h : IsRow A (L.map fun t => [t.v])) : A.bare = A := h.same (by
  rw [bareLL_eq, List.map_map]
  refine List.map_congr_left fun x _ => ?_
  simp [x.bare])

/-- a text's number among those seen -/
def placeN (s : List UInt8) : List (List UInt8) → Nat
  | [] => 0
  | x :: r => if x = s then 0 else placeN s r + 1
theorem placeN_le (s : List UInt8) : ∀ l, placeN s l ≤ l.length
  | [] => Nat.le_refl _
  | x :: r => by have := placeN_le s r; rw [placeN]; split <;> simp <;> omega
def seenN (s : List UInt8) (seen : List (List UInt8)) : List (List UInt8) := if placeN s seen = seen.length then seen ++ [s] else seen
def numR : List (List UInt8) → List (List UInt8) → List Int × List (List UInt8)
  | seen, [] => ([], seen)
  | seen, s :: r => let q := numR (seenN s seen) r; ((placeN s seen : Int) :: q.1, q.2)
def numA : List (List UInt8) → List (List (List UInt8)) → List (List Int)
  | _, [] => []
  | seen, t :: r => (numR seen t).1 :: numA (numR seen t).2 r
theorem numR_len : ∀ (t seen : List (List UInt8)), (numR seen t).1.length = t.length
  | [], _ => rfl
  | s :: r, seen => by simp [numR, numR_len r]

/-- the map of those seen -/
def kvF (n : Nat) : List (List UInt8) → List (AV × AV)
  | [] => []
  | s :: r => (.str s, .int .i64 (n : Int)) :: kvF (n + 1) r
theorem kvF_len : ∀ (l : List (List UInt8)) n, (kvF n l).length = l.length
  | [], _ => rfl
  | s :: r, n => by simp [kvF, kvF_len r]
theorem kvF_app : ∀ (l : List (List UInt8)) n (s : List UInt8), kvF n (l ++ [s]) = kvF n l ++ [(.str s, .int .i64 ((n + l.length : Nat) : Int))]
  | [], n, s => by simp [kvF]
  | x :: r, n, s => by simp [kvF, kvF_app r]; omega
theorem mfind_kvF (s : List UInt8) : ∀ (l : List (List UInt8)) (n : Nat), mfind .str (.str s) (kvF n l) = some (if placeN s l = l.length then none else some (placeN s l, .int .i64 ((n + placeN s l : Nat) : Int)))
  | [], n => rfl
  | x :: r, n => by
    rw [kvF, mfind]
    by_cases h : x = s
    · subst h; simp [eqCell, placeN]
    · have h' : (x == s) = false := by simpa using h
      have h'' : (s == x) = false := by simpa using fun e => h e.symm
      simp only [eqCell, h', h'', placeN, if_neg h, mfind_kvF s r (n + 1), Option.map_some, List.length_cons]
      by_cases h2 : placeN s r = r.length
      · simp [h2]
      · have h3 : ¬ placeN s r + 1 = r.length + 1 := by omega
        rw [if_neg h2, if_neg h3]
        simp [Nat.add_assoc, Nat.add_comm]
theorem mset_kvF {s : List UInt8} {l : List (List UInt8)} (h : placeN s l = l.length) : mset .str (.str s) (.int .i64 (l.length : Int)) (kvF 0 l) = kvF 0 (l ++ [s]) := by
  simp only [mset, mfind_kvF, if_pos h]
  rw [kvF_app]; simp

theorem numbers_l0 {K : KC2} {hs : Hints} {T : Txs} {M : Nat} {seen0 : List (List UInt8)} {w4 w13 w14 w15 : AV} {c0 : LC} (hT : T.l.length ≤ 1000000)
    (hK : ∀ ts loc (τ : Heap) tok, ts.length = 51 → tmp ts 3 = .mp M → tmp ts 4 = w4 → tmp ts 13 = w13 → tmp ts 14 = w14 → tmp ts 15 = w15 → tmp ts 7 = accV (ints (numR seen0 T.txt).1) tok → loc 0 = c0 → M < τ.next → τ.obj M = some (.map (kvF 0 (numR seen0 T.txt).2)) → K.k (.exit 2) ts loc τ)
    (ts : List AV) (loc : Go.Proofs.YtinfmkmebemhcaaW.Abs.Loc) (τ : Heap) (gl : ts.length = 51) (g3 : tmp ts 3 = .mp M) (g4 : tmp ts 4 = w4) (g7 : tmp ts 7 = .nils) (g13 : tmp ts 13 = w13) (g14 : tmp ts 14 = w14) (g15 : tmp ts 15 = w15) (g19 : tmp ts 19 = T.v) (g20 : tmp ts 20 = .int .i64 (T.l.length : Int)) (g21 : tmp ts 21 = .int .i64 0) (gc : loc 0 = c0) (hM : M < τ.next) (ho : τ.obj M = some (.map (kvF 0 seen0))) :
    loop2I Try.prog W0 C hs F16l0 ts loc τ := by
  refine loop2I_ind cok F16l0w (m := fun j => T.l.length - j) (I := fun j ts loc τ => j ≤ T.l.length ∧ ts.length = 51 ∧ tmp ts 3 = .mp M ∧ tmp ts 4 = w4 ∧ tmp ts 13 = w13 ∧ tmp ts 14 = w14 ∧ tmp ts 15 = w15 ∧ tmp ts 19 = T.v ∧ tmp ts 20 = .int .i64 (T.l.length : Int) ∧ tmp ts 21 = .int .i64 (j : Int) ∧ loc 0 = c0 ∧ M < τ.next ∧
    ∃ acc tok seen, tmp ts 7 = accV (ints acc) tok ∧ AccL (loc 1) 1 tok (ints acc) ∧ acc.length = j ∧ τ.obj M = some (.map (kvF 0 seen)) ∧ acc ++ (numR seen (T.txt.drop j)).1 = (numR seen0 T.txt).1 ∧ (numR seen (T.txt.drop j)).2 = (numR seen0 T.txt).2) ?_ 0
    ⟨by omega, gl, g3, g4, g13, g14, g15, g19, g20, by simpa using g21, gc, hM, [], 0, seen0, by simpa using g7, by simp, rfl, ho, by simp, by simp⟩
  clear gl g3 g4 g7 g13 g14 g15 g19 g20 g21 gc hM ho ts loc τ
  rintro j ts loc τ ⟨hj, gl, g3, g4, g13, g14, g15, g19, g20, g21, gc, hM, acc, tok, seen, g7, ha, hal, ho, hR1, hR2⟩ ih'
  simp (disch := first | omega | (simp only [List.length_set]; omega)) [F16l0, gl, g20, g21]
  by_cases hlt : j < T.l.length
  · obtain ⟨S, hS⟩ : ∃ S, T.l[j]? = some S := ⟨T.l[j], by simp [hlt]⟩
    have hSe : (T.l.map fun t => [t.v])[j]? = some [S.v] := by rw [List.getElem?_map, hS]; rfl
    have eT := T.ok.elems τ.obj
    have tT := T.ok.at hSe
    have eS := S.ok.elems τ.obj
    have hSt : T.txt[j]? = some S.s := by rw [Txs.txt, List.getElem?_map, hS]; rfl
    rw [drop_at hSt, numR] at hR1 hR2
    dsimp only at hR1 hR2
    by_cases hp : placeN S.s seen = seen.length
    · have hms := mset_kvF hp
      have hkl := kvF_len seen 0
      rw [seenN, if_pos hp, hp] at hR1
      rw [seenN, if_pos hp] at hR2
      simp (disch := first | omega | (simp only [List.length_set]; omega)) [gl, g3, g4, g7, g13, g14, g15, g19, g20, g21, hlt, eT, tT, hSe, eS, bytesOf_ind, ho, mfind_kvF, hp, hkl, hms, lookVal, ha.grow]
      refine andI_intro (by omega) ?_
      simp (disch := first | omega | (simp only [List.length_set]; omega)) [gl, g3, g4, g7, g13, g14, g15, g19, g20, g21]
      refine ih' (j + 1) _ _ _ (by omega) ⟨by omega, ?_⟩
      simp (disch := first | omega | (simp only [List.length_set]; omega)) [gl, g3, g4, g7, g13, g14, g15, g19, g20, g21, wrap_id]
      exact ⟨gc, by omega, acc ++ [(seen.length : Int)], _, by rw [ints_app]; rfl, AccL.next' _ _ _ (by rw [ints_app]; rfl), by simp; omega, seen ++ [S.s], rfl, by simpa using hR1, hR2⟩
    · have hms := mfind_kvF S.s seen 0
      rw [if_neg hp] at hms
      rw [seenN, if_neg hp] at hR1
      rw [seenN, if_neg hp] at hR2
      simp (disch := first | omega | (simp only [List.length_set]; omega)) [gl, g3, g4, g7, g13, g14, g15, g19, g20, g21, hlt, eT, tT, hSe, eS, bytesOf_ind, ho, hms, lookVal, ha.grow]
      refine andI_intro (by omega) ?_
      simp (disch := first | omega | (simp only [List.length_set]; omega)) [gl, g3, g4, g7, g13, g14, g15, g19, g20, g21]
      refine ih' (j + 1) _ _ _ (by omega) ⟨by omega, ?_⟩
      simp (disch := first | omega | (simp only [List.length_set]; omega)) [gl, g3, g4, g7, g13, g14, g15, g19, g20, g21, wrap_id]
      exact ⟨gc, by omega, acc ++ [(placeN S.s seen : Int)], _, by rw [ints_app]; rfl, AccL.next' _ _ _ (by rw [ints_app]; rfl), by simp; omega, seen, ho, by simpa using hR1, hR2⟩
  · simp (disch := first | omega | (simp only [List.length_set]; omega)) [hlt, gl, g20, g21]
    have hj' : j = T.l.length := by omega
    subst hj'
    have hd : T.txt.drop T.l.length = [] := List.drop_of_length_le (by simp [Txs.txt])
    rw [hd, numR] at hR1 hR2
    simp only [List.append_nil] at hR1 hR2
    rw [hR1] at g7
    rw [hR2] at ho
    exact hK _ _ _ tok (by simp [gl]) (by simp (disch := first | omega | (simp only [List.length_set]; omega)) [g3]) (by simp (disch := first | omega | (simp only [List.length_set]; omega)) [g4]) (by simp (disch := first | omega | (simp only [List.length_set]; omega)) [g13]) (by simp (disch := first | omega | (simp only [List.length_set]; omega)) [g14]) (by simp (disch := first | omega | (simp only [List.length_set]; omega)) [g15]) (by simp (disch := first | omega | (simp only [List.length_set]; omega)) [g7]) gc (by dsimp only; omega) ho

/-- rows of numbers as they are handed back -/
def intss (l : List (List Int)) : List (List AV) := l.map fun ns => [rowV (ints ns)]
theorem ints_bareLL (l : List Int) : bareLL (ints l) = ints l := ints_bare l
theorem bareLL_app (a b : List (List AV)) : bareLL (a ++ b) = bareLL a ++ bareLL b := by simp [bareLL_eq]
theorem numbers_spec (L : List Txs) {A : AV} (hA : IsRow A (L.map fun t => [t.v])) (hl : L.length ≤ 1000000) (hT : ∀ t ∈ L, t.l.length ≤ 1000000) : PCall Try.prog W0 16 [A] (rowV (intss (numA [] (L.map Txs.txt)))) := by
  refine pcall2 cok Try.func16 F16d F16e F16c F16w F16r (fun N => ?_)
  refine ev2I_intro ?_
  have lA := hA.len
  simp only [List.length_map] at lA
  simp (disch := first | omega | (simp only [List.length_set]; omega)) [F16s, lA]
  refine loop2I_ind cok F16l1w (m := fun k => L.length - k) (I := fun k ts loc τ => k ≤ L.length ∧ ts.length = 51 ∧ tmp ts 3 = .mp (N + 1) ∧ tmp ts 13 = A ∧ tmp ts 14 = .int .i64 (L.length : Int) ∧ tmp ts 15 = .int .i64 (k : Int) ∧ N + 1 < τ.next ∧
    ∃ outs tok seen, tmp ts 4 = accV outs tok ∧ AccL (loc 0) 1 tok outs ∧ outs.length = k ∧ τ.obj (N + 1) = some (.map (kvF 0 seen)) ∧ bareLL outs ++ intss (numA seen ((L.map Txs.txt).drop k)) = intss (numA [] (L.map Txs.txt))) ?_ 0 ?_
  · rintro k ts loc τ ⟨hk, gl, g3, g13, g14, g15, hN, outs, tok, seen, g4, ha, hal, ho, hR⟩ ih'
    simp (disch := first | omega | (simp only [List.length_set]; omega)) [F16l1, gl, g14, g15]
    by_cases hlt : k < L.length
    · obtain ⟨T, hTe⟩ : ∃ T, L[k]? = some T := ⟨L[k], by simp [hlt]⟩
      have hTm := hT T (List.mem_of_getElem? hTe)
      have hTv : (L.map fun t => [t.v])[k]? = some [T.v] := by rw [List.getElem?_map, hTe]; rfl
      have hTt : (L.map Txs.txt)[k]? = some T.txt := by rw [List.getElem?_map, hTe]; rfl
      rw [drop_at hTt, numA] at hR
      have eA := hA.elems τ.obj
      have tA := hA.at hTv
      have lT := T.ok.len
      simp only [List.length_map] at lT
      simp (disch := first | omega | (simp only [List.length_set]; omega)) [hlt, gl, g3, g13, g14, g15, eA, tA, hTv, lT]
      refine numbers_l0 (T := T) (M := N + 1) (seen0 := seen) (w4 := accV outs tok) (w13 := A) (w14 := .int .i64 (L.length : Int)) (w15 := .int .i64 (k : Int)) (c0 := loc 0) hTm ?_ _ _ _ (by simp [gl]) (by simp (disch := first | omega | (simp only [List.length_set]; omega)) [g3]) (by simp (disch := first | omega | (simp only [List.length_set]; omega)) [g4]) (by simp (disch := first | omega | (simp only [List.length_set]; omega)) []) (by simp (disch := first | omega | (simp only [List.length_set]; omega)) [g13]) (by simp (disch := first | omega | (simp only [List.length_set]; omega)) [g14]) (by simp (disch := first | omega | (simp only [List.length_set]; omega)) [g15]) (by simp (disch := first | omega | (simp only [List.length_set]; omega)) []) (by simp (disch := first | omega | (simp only [List.length_set]; omega)) []) (by simp (disch := first | omega | (simp only [List.length_set]; omega)) []) rfl (by dsimp only; omega) ho
      intro ts2 loc2 τ2 tok2 q0 q3 q4 q13 q14 q15 q7 qc hM2 ho2
      have ha2 : AccL (loc2 0) 1 tok outs := by rw [qc]; exact ha
      simp (disch := first | omega | (simp only [List.length_set]; omega)) [q0, q3, q4, q7, q13, q14, q15, ha2.grow]
      refine andI_intro (by omega) ?_
      simp (disch := first | omega | (simp only [List.length_set]; omega)) [q0, q3, q4, q7, q13, q14, q15]
      refine ih' (k + 1) _ _ _ (by omega) ⟨by omega, ?_⟩
      simp (disch := first | omega | (simp only [List.length_set]; omega)) [q0, q3, q4, q7, q13, q14, q15, wrap_id]
      refine ⟨by omega, outs ++ [[accV (ints (numR seen T.txt).1) tok2]], _, rfl, AccL.next' _ _ _ rfl, by simp; omega, _, ho2, ?_⟩
      have e1 : bareLL [[accV (ints (numR seen T.txt).1) tok2]] = [[rowV (ints (numR seen T.txt).1)]] := by
        rw [bareLL_eq]; simp only [List.map_cons, List.map_nil, accV_bare, ints_bareLL]
      rw [bareLL_app, List.append_assoc, e1]
      simpa only [intss, List.map_cons, List.cons_append, List.nil_append] using hR
    · simp (disch := first | omega | (simp only [List.length_set]; omega)) [hlt, gl, g14, g15]
      rw [List.drop_of_length_le (by simp; omega)] at hR
      simp only [numA, intss, List.map_nil, List.append_nil] at hR
      simp (disch := first | omega | (simp only [List.length_set]; omega)) [g4, intss]
      rw [← hR]
  · exact ⟨by omega, by simp, by simp, by simp, by simp, by simp, by simp, [], 0, [], by simp, by simp, rfl, by simp [kvF], by simp [bareLL_eq]⟩
end Go.Proofs.Ytinfmkmebemhcaa.Lt
