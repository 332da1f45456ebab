/- MyersNumbers: texts have the document's numbers. -/
import Derived.Test.YtinfmkmebemhcaaMt12
namespace Go.Proofs.Ytinfmkmebemhcaa.Lt
open Go.Proofs.YtinfmkmebemhcaaW.Abs Go Go.RowKit
set_option maxRecDepth 100000
set_option maxHeartbeats 4000000
set_option linter.unusedSimpArgs false
set_option linter.unusedVariables false

section
variable {W : World} {P : Program} {H : Type} {enc : TypeId × Value → H}
/-- bytes that came in -/
theorem inTx {t e : TypeId} (ht : P.underlying t = some (.slice e)) (he : P.underlying e = some (.int .u8)) (hc : P.cellsOf e = 1) {fuel : Nat} {cs : List Value} {d : DataW H} {ps : List MemPlace} (h : DataW.trod enc P W 0 (fun _ => true) true fuel t cs = some (d, ps)) :
    ∃ x : Tx, Reps (inE W) [x.v] cs ∧ ([x.v] : List AV).all AV.one = true ∧ True := by
  obtain ⟨l, A, h1, h2, _⟩ := inList (fun b : UInt8 => [AV.int .u8 b.toNat]) ht (by omega) h (Q := fun _ _ => True) (fun n _ cs d ps hh => by
    obtain ⟨x, rfl, _, hw⟩ := inInt he hh
    have hw' : 0 ≤ x ∧ x < 256 := by
      simp [Lit.wf, IntKind.min, IntKind.max, IntKind.signed, IntKind.bits] at hw
      omega
    refine ⟨UInt8.ofNat x.toNat, ?_, rfl, trivial⟩
    have : ((UInt8.ofNat x.toNat).toNat : Int) = x := by simp; omega
    rw [this]
    exact .cons (.int _ _) .nil)
  exact ⟨⟨A, l, h2⟩, h1, by simp [h2.one], trivial⟩
theorem inTxs {t e f : TypeId} (ht : P.underlying t = some (.slice e)) (he : P.underlying e = some (.slice f)) (hf : P.underlying f = some (.int .u8)) (hce : P.cellsOf e = 1) (hc : P.cellsOf f = 1) {fuel : Nat} {cs : List Value} {d : DataW H} {ps : List MemPlace} (h : DataW.trod enc P W 0 (fun _ => true) true fuel t cs = some (d, ps)) :
    ∃ x : Txs, Reps (inE W) [x.v] cs ∧ ([x.v] : List AV).all AV.one = true ∧ True := by
  obtain ⟨l, A, h1, h2, _⟩ := inList (fun x : Tx => [x.v]) ht (by omega) h (Q := fun _ _ => True) (fun n _ cs d ps hh => inTx he hf hc hh)
  exact ⟨⟨A, l, h2⟩, h1, by simp [h2.one], trivial⟩
/-- rows of texts that came in -/
theorem inTxss {t e f g : TypeId} (ht : P.underlying t = some (.slice e)) (he : P.underlying e = some (.slice f)) (hf : P.underlying f = some (.slice g)) (hg : P.underlying g = some (.int .u8)) (hct : P.cellsOf e = 1) (hce : P.cellsOf f = 1) (hc : P.cellsOf g = 1) {fuel : Nat} {cs : List Value} {d : DataW H} {ps : List MemPlace} (h : DataW.trod enc P W 0 (fun _ => true) true fuel t cs = some (d, ps)) :
    ∃ (L : List Txs) (A : AV), Reps (inE W) [A] cs ∧ IsRow A (L.map fun x => [x.v]) := by
  obtain ⟨l, A, h1, h2, _⟩ := inList (fun x : Txs => [x.v]) ht (by omega) h (Q := fun _ _ => True) (fun n _ cs d ps hh => inTxs he hf hg hce hc hh)
  exact ⟨l, A, h1, h2⟩
end

variable {W0 : World}
theorem numA_len : ∀ (L : List (List (List UInt8))) (seen : List (List UInt8)), (numA seen L).length = L.length
  | [], _ => rfl
  | t :: r, seen => by simp [numA, numA_len r]
theorem numA_mem : ∀ (L : List (List (List UInt8))) (seen : List (List UInt8)) (ns : List Int), ns ∈ numA seen L → ∃ t ∈ L, ns.length = t.length
  | [], _, _, h => by simp [numA] at h
  | t :: r, seen, ns, h => by
    simp only [numA, List.mem_cons] at h
    rcases h with h | h
    · exact ⟨t, by simp, by rw [h, numR_len]⟩
    · obtain ⟨u, h1, h2⟩ := numA_mem r _ ns h; exact ⟨u, by simp [h1], h2⟩
theorem ind_cut (s : List UInt8) (a b : Nat) : ((ind s).take b).drop a = ind ((s.take b).drop a) := by simp [ind, List.map_drop, List.map_take]
theorem ind_one' {s : List UInt8} {e : List AV} (h : e ∈ ind s) : e.length = 1 := by simp only [ind, List.mem_map] at h; obtain ⟨x, _, rfl⟩ := h; rfl
theorem txL_bare (l : List Tx) : bareLL (l.map fun t => [t.v]) = l.map fun t => [t.v] := by
  rw [bareLL_eq, List.map_map]
  refine List.map_congr_left fun x _ => ?_
  simp [x.bare]

theorem nums_l1 {K : KC2} {hs : Hints} {L : List Txs} {A : AV} {T : Txs} {i n0 : Nat} {w3 : AV} {c0 : LC} (hA : IsRow A (L.map fun t => [t.v])) (hT : L[i]? = some T) (hn0 : n0 ≤ 100)
    (hK : ∀ ts loc (τ : Heap) (own : List Tx) tok (n : Nat), ts.length = 89 → tmp ts 0 = A → tmp ts 3 = w3 → tmp ts 4 = .int .i64 (n : Int) → tmp ts 5 = .int .i64 (i : Int) → tmp ts 6 = accV (own.map fun t => [t.v]) tok → own.length ≤ 100 → n ≤ 100 → loc 0 = c0 → K.k (.exit 2) ts loc τ)
    (ts : List AV) (loc : Go.Proofs.YtinfmkmebemhcaaW.Abs.Loc) (τ : Heap) (gl : ts.length = 89) (g0 : tmp ts 0 = A) (g3 : tmp ts 3 = w3) (g4 : tmp ts 4 = .int .i64 (n0 : Int)) (g5 : tmp ts 5 = .int .i64 (i : Int)) (g6 : tmp ts 6 = .nils) (g7 : tmp ts 7 = .int .i64 0) (gc : loc 0 = c0) (hpos : 0 < τ.next) :
    loop2I Try.prog W0 C hs F6l1 ts loc τ := by
  refine loop2I_ind cok F6l1w (m := fun k => 100 - k) (I := fun k ts loc τ => ts.length = 89 ∧ tmp ts 0 = A ∧ tmp ts 3 = w3 ∧ tmp ts 5 = .int .i64 (i : Int) ∧ tmp ts 7 = .int .i64 (k : Int) ∧ loc 0 = c0 ∧ n0 + k ≤ 100 ∧ tmp ts 4 = .int .i64 ((n0 + k : Nat) : Int) ∧ ∃ own tok, tmp ts 6 = accV (own.map fun (t : Tx) => [t.v]) tok ∧ AccL (loc 1) 1 tok (own.map fun (t : Tx) => [t.v]) ∧ own.length = k ∧ tok < τ.next) ?_ 0
    ⟨gl, g0, g3, g5, by simpa using g7, gc, by omega, by simpa using g4, [], 0, by simpa using g6, by simp, rfl, hpos⟩
  clear gl g0 g3 g4 g5 g6 g7 gc hpos ts loc τ
  rintro k ts loc τ ⟨gl, g0, g3, g5, g7, gc, hnk, g4, own, tok, g6, ha, hol, htk⟩ ih'
  obtain ⟨n, hn⟩ : ∃ n, n = n0 + k := ⟨_, rfl⟩
  rw [← hn] at g4
  have hTe : (L.map fun t => [t.v])[i]? = some [T.v] := by rw [List.getElem?_map, hT]; rfl
  have eA := hA.elems τ.obj
  have tA := hA.at hTe
  have lT := T.ok.len
  simp only [List.length_map] at lT
  simp (disch := first | omega | (simp only [List.length_set]; omega)) [F6l1, gl, g0, g4, g5, g7, eA, tA, hTe, lT]
  by_cases hlt : k < T.l.length
  · simp (disch := first | omega | (simp only [List.length_set]; omega)) [hlt, gl, g4]
    by_cases hn100 : n < 100
    · obtain ⟨S, hS⟩ : ∃ S, T.l[k]? = some S := ⟨T.l[k], by simp [hlt]⟩
      have hSe : (T.l.map fun t => [t.v])[k]? = some [S.v] := by rw [List.getElem?_map, hS]; rfl
      have eT := T.ok.elems τ.obj
      have tT := T.ok.at hSe
      have lS := S.ok.len
      have hn' : (n : Int) < 100 := by omega
      obtain ⟨q, hqe⟩ : ∃ q, q = min S.s.length 100 := ⟨_, rfl⟩
      have hil : (ind S.s).length = S.s.length := by simp [ind]
      have hq : (if (100 : Int) < ((ind S.s).length : Int) then (100 : Int) else ((ind S.s).length : Int)) = (q : Int) := by rw [hil]; split <;> omega
      have sS : slOk τ.obj 1 S.v 0 fun _ => (q : Int) := by rw [S.ok.slOk]; exact ⟨by omega, by omega, by rw [hil]; omega, fun e he => ind_one' he⟩
      have cS := isRow_cut S.ok 0 (fun _ => q) (by rw [hil]; omega)
      rw [ind_cut, List.drop_zero] at cS
      have cc := cS.cells
      have c1 := cS.one
      simp (disch := first | omega | (simp only [List.length_set]; omega)) [hn', gl, g0, g3, g4, g5, g6, g7, eA, tA, hTe, eT, tT, hSe, lS, hA.chk, T.ok.chk, S.ok.chk, ha.grow, hq, sS, cc, c1]
      refine andI_intro (by omega) ?_
      have tk : tokIn (FP.W (τ.next + 11) { old := 2, news := [19] }) (accV (own.map fun (t : Tx) => [t.v]) tok) := by
        cases own with
        | nil => simp
        | cons y r => simp [accV, FP.W]; omega
      simp (disch := first | omega | (simp only [List.length_set]; omega)) [gl, g0, g3, g4, g5, g6, g7, tk]
      intro m hm
      have wn : IntKind.i64.wrap ((n : Int) + 1) = ((n0 + (k + 1) : Nat) : Int) := by rw [wrap_id (by omega) (by omega)]; omega
      have wk : IntKind.i64.wrap ((k : Int) + 1) = ((k + 1 : Nat) : Int) := by rw [wrap_id (by omega) (by omega)]; omega
      refine ih' (k + 1) _ _ _ (by omega) ⟨by simp [gl], by simp (disch := first | omega | (simp only [List.length_set]; omega)) [g0], by simp (disch := first | omega | (simp only [List.length_set]; omega)) [g3], by simp (disch := first | omega | (simp only [List.length_set]; omega)) [g5], by simp (disch := first | omega | (simp only [List.length_set]; omega)) [wk], by simp (disch := first | omega | (simp only [List.length_set]; omega)) [gc], by omega, by simp (disch := first | omega | (simp only [List.length_set]; omega)) [wn], own ++ [⟨subVal 0 (fun _ => q) S.v, S.s.take q, cS⟩], _, by simp (disch := first | omega | (simp only [List.length_set]; omega)) []; rfl, ?_, by simp; omega, by dsimp only; omega⟩
      have hnx := AccL.next' (c := loc 1) (s := 1) (t := tok) (l := own.map fun (t : Tx) => [t.v]) (τ.next + 11 + 19) 38 [[subVal 0 (fun _ => q) S.v]] rfl
      simpa [setL] using hnx
    · have hn' : ¬ (n : Int) < 100 := by omega
      simp (disch := first | omega | (simp only [List.length_set]; omega)) [hn', gl]
      exact hK _ _ _ own tok n (by simp [gl]) (by simp (disch := first | omega | (simp only [List.length_set]; omega)) [g0]) (by simp (disch := first | omega | (simp only [List.length_set]; omega)) [g3]) (by simp (disch := first | omega | (simp only [List.length_set]; omega)) [g4]) (by simp (disch := first | omega | (simp only [List.length_set]; omega)) [g5]) (by simp (disch := first | omega | (simp only [List.length_set]; omega)) [g6]) (by omega) (by omega) gc
  · simp (disch := first | omega | (simp only [List.length_set]; omega)) [hlt, gl]
    exact hK _ _ _ own tok n (by simp [gl]) (by simp (disch := first | omega | (simp only [List.length_set]; omega)) [g0]) (by simp (disch := first | omega | (simp only [List.length_set]; omega)) [g3]) (by simp (disch := first | omega | (simp only [List.length_set]; omega)) [g4]) (by simp (disch := first | omega | (simp only [List.length_set]; omega)) [g5]) (by simp (disch := first | omega | (simp only [List.length_set]; omega)) [g6]) (by omega) (by omega) gc

theorem intss_at {l : List (List Int)} {i : Nat} {ns : List Int} (h : l[i]? = some ns) : (intss l)[i]? = some [rowV (ints ns)] := by simp [intss, h]
@[simp] theorem intss_len (l : List (List Int)) : (intss l).length = l.length := by simp [intss]
theorem rowV_cells (l : List (List AV)) : (rowV l).cells = [rowV l] := (IsRow.rowV l).cells
theorem myersNumbers_spec (L : List Txs) {A : AV} (hA : IsRow A (L.map fun t => [t.v])) : PCall Try.prog W0 6 [A] (.bool true) := by
  refine pcall2 cok Try.func6 F6d F6e F6c F6w F6r (fun N => ?_)
  refine ev2I_intro ?_
  have lA := hA.len
  simp only [List.length_map] at lA
  simp (disch := first | omega | (simp only [List.length_set]; omega)) [F6s]
  refine loop2I_ind cok F6l2w (m := fun k => 20 - k) (I := fun k ts loc τ => k ≤ 20 ∧ ts.length = 89 ∧ tmp ts 0 = A ∧ tmp ts 5 = .int .i64 (k : Int) ∧ 0 < τ.next ∧
    ∃ outs tok n, ∃ M : List Txs, tmp ts 3 = accV outs tok ∧ AccL (loc 0) 1 tok outs ∧ outs.length = k ∧ n ≤ 100 ∧ tmp ts 4 = .int .i64 ((n : Nat) : Int) ∧ bareLL outs = M.map (fun t => [t.v]) ∧ M.length = k ∧ ∀ t ∈ M, t.l.length ≤ 100) ?_ 0 ?_
  · rintro k ts loc τ ⟨hk, gl, g0, g5, hpos, outs, tok, n, M, g3, ha, hol, hn, g4, hbo, hMl, hMt⟩ ih'
    have fin : ∀ ts' : List AV, ∀ loc' : Go.Proofs.YtinfmkmebemhcaaW.Abs.Loc, ∀ τ' : Heap, ts'.length = 89 → tmp ts' 3 = accV outs tok → @ev2I Try.prog W0 C [] ⟨Fin2 F6q fun o τ' => o.bare = AOut.ret (.bool true)⟩ .skip ts' loc' τ' → True := fun _ _ _ _ _ _ => trivial
    clear fin
    simp (disch := first | omega | (simp only [List.length_set]; omega)) [F6l2, gl, g0, g5, lA]
    by_cases hlt : k < L.length ∧ k < 20
    · have h1 := hlt.1
      have h2 : (k : Int) < 20 := by omega
      obtain ⟨T, hTe⟩ : ∃ T, L[k]? = some T := ⟨L[k], by simp [h1]⟩
      simp (disch := first | omega | (simp only [List.length_set]; omega)) [h1, h2, gl, g0, g5]
      refine nums_l1 (L := L) (A := A) (T := T) (i := k) (n0 := n) (w3 := accV outs tok) (c0 := loc 0) hA hTe hn ?_ _ _ _ (by simp [gl]) (by simp (disch := first | omega | (simp only [List.length_set]; omega)) [g0]) (by simp (disch := first | omega | (simp only [List.length_set]; omega)) [g3]) (by simp (disch := first | omega | (simp only [List.length_set]; omega)) [g4]) (by simp (disch := first | omega | (simp only [List.length_set]; omega)) [g5]) (by simp (disch := first | omega | (simp only [List.length_set]; omega)) []) (by simp (disch := first | omega | (simp only [List.length_set]; omega)) []) rfl (by dsimp only; omega)
      intro ts2 loc2 τ2 own tok2 n2 q q0 q3 q4 q5 q6 qo qn qc
      have ha2 : AccL (loc2 0) 1 tok outs := by rw [qc]; exact ha
      simp (disch := first | omega | (simp only [List.length_set]; omega)) [q, q0, q3, q4, q5, q6, ha2.grow]
      refine andI_intro (by omega) ?_
      simp (disch := first | omega | (simp only [List.length_set]; omega)) [q, q0, q3, q4, q5, q6]
      have w5 : IntKind.i64.wrap ((k : Int) + 1) = ((k + 1 : Nat) : Int) := by rw [wrap_id (by omega) (by omega)]; omega
      refine ih' (k + 1) _ _ _ (by omega) ⟨by omega, by simp [q], by simp (disch := first | omega | (simp only [List.length_set]; omega)) [q0], by simp (disch := first | omega | (simp only [List.length_set]; omega)) [w5], by dsimp only; omega, outs ++ [[accV (own.map fun (t : Tx) => [t.v]) tok2]], _, n2, M ++ [⟨rowV (own.map fun (t : Tx) => [t.v]), own, IsRow.rowV _⟩], by simp (disch := first | omega | (simp only [List.length_set]; omega)) []; rfl, ?_, by simp; omega, qn, by simp (disch := first | omega | (simp only [List.length_set]; omega)) [q4], ?_, by simp; omega, fun t ht => ?_⟩
      · have hnx := AccL.next' (c := loc2 0) (s := 1) (t := tok) (l := outs) (τ2.next + 3) 37 [[accV (own.map fun (t : Tx) => [t.v]) tok2]] rfl
        simpa [setL] using hnx
      · rw [bareLL_app, hbo, List.map_append]
        congr 1
        rw [bareLL_eq]; simp only [List.map_cons, List.map_nil, accV_bare, txL_bare]
      · rcases List.mem_append.1 ht with h | h
        · exact hMt t h
        · simp only [List.mem_singleton] at h; subst h; exact qo
    · have hM1 : M.length ≤ 20 := by omega
      by_cases h1 : k < L.length
      · have h2 : ¬ (k : Int) < 20 := by omega
        clear ih'
        simp (disch := first | omega | (simp only [List.length_set]; omega)) [h1, h2, gl, g0, g3, g5]
        refine hcallI_pure (numbers_spec M (IsRow.rowV _) (by omega) (fun t ht => by have := hMt t ht; omega)) (by simp only [bareL, accV_bare, hbo]) (fun m1 hm1 => ?_)
        simp (disch := first | omega | (simp only [List.length_set]; omega)) [gl, g3]
        refine hcallI_pure (refNumbers_spec M (IsRow.rowV _) (by omega) (fun t ht => by have := hMt t ht; omega)) (by simp only [bareL, accV_bare, hbo]) (fun m2 hm2 => ?_)
        simp (disch := first | omega | (simp only [List.length_set]; omega)) [gl]
        refine hcallI_pure known_spec (by simp) (fun m3 hm3 => ?_)
        obtain ⟨Q, hQ⟩ : ∃ Q, Q = numA [] (M.map Txs.txt) := ⟨_, rfl⟩
        have hQm : ∀ ns ∈ Q, ns.length ≤ 100 := fun ns h => by
          rw [hQ] at h
          obtain ⟨u, h1, h2⟩ := numA_mem _ _ _ h
          obtain ⟨t, h3, h4⟩ := List.mem_map.1 h1
          have := hMt t h3
          rw [h2, ← h4]; simpa [Txs.txt] using this
        have hQl : Q.length ≤ 20 := by rw [hQ, numA_len]; simp; omega
        rw [← hQ]
        have iV : IsRow (rowV (intss Q)) (intss Q) := IsRow.rowV _
        have lV := iV.len
        simp only [intss_len] at lV
        generalize rowV (intss Q) = V at iV lV ⊢
        simp (disch := first | omega | (simp only [List.length_set]; omega)) [gl, lV]
        refine loop2I_ind cok F6l0w (m := fun j => Q.length - j) (I := fun j ts loc τ => j ≤ Q.length ∧ ts.length = 89 ∧ tmp ts 8 = V ∧ tmp ts 9 = V ∧ tmp ts 10 = .int .i64 (j : Int)) ?_ 0 ⟨by omega, by simp [gl], by simp (disch := first | omega | (simp only [List.length_set]; omega)) [], by simp (disch := first | omega | (simp only [List.length_set]; omega)) [], by simp (disch := first | omega | (simp only [List.length_set]; omega)) []⟩
        rintro j ts loc τ ⟨hj, gl, g8, g9, g10⟩ ih'
        simp (disch := first | omega | (simp only [List.length_set]; omega)) [F6l0, gl, g8, g10, lV]
        by_cases hlt : j < Q.length
        · obtain ⟨ns, hns⟩ : ∃ ns, Q[j]? = some ns := ⟨Q[j], by simp [hlt]⟩
          have hnl := hQm ns (List.mem_of_getElem? hns)
          have en := intss_at hns
          have eV := iV.elems τ.obj
          have tV := iV.at en
          simp (disch := first | omega | (simp only [List.length_set]; omega)) [hlt, gl, g8, g9, g10, lV, en, eV, tV, iV.chk]
          refine pcallI_pure' (same_spec ns ns (rowInts ns) (rowInts ns) (by omega)) (by simp [bareL]) ?_
          simp (disch := first | omega | (simp only [List.length_set]; omega)) [gl, g10]
          intro m hm
          refine ih' (j + 1) _ _ _ (by omega) ⟨by omega, ?_⟩
          simp (disch := first | omega | (simp only [List.length_set]; omega)) [gl, g8, g9, g10, wrap_id]
        · simp (disch := first | omega | (simp only [List.length_set]; omega)) [hlt, gl]
      · clear ih'
        simp (disch := first | omega | (simp only [List.length_set]; omega)) [h1, gl, g0, g3, g5]
        refine hcallI_pure (numbers_spec M (IsRow.rowV _) (by omega) (fun t ht => by have := hMt t ht; omega)) (by simp only [bareL, accV_bare, hbo]) (fun m1 hm1 => ?_)
        simp (disch := first | omega | (simp only [List.length_set]; omega)) [gl, g3]
        refine hcallI_pure (refNumbers_spec M (IsRow.rowV _) (by omega) (fun t ht => by have := hMt t ht; omega)) (by simp only [bareL, accV_bare, hbo]) (fun m2 hm2 => ?_)
        simp (disch := first | omega | (simp only [List.length_set]; omega)) [gl]
        refine hcallI_pure known_spec (by simp) (fun m3 hm3 => ?_)
        obtain ⟨Q, hQ⟩ : ∃ Q, Q = numA [] (M.map Txs.txt) := ⟨_, rfl⟩
        have hQm : ∀ ns ∈ Q, ns.length ≤ 100 := fun ns h => by
          rw [hQ] at h
          obtain ⟨u, h1, h2⟩ := numA_mem _ _ _ h
          obtain ⟨t, h3, h4⟩ := List.mem_map.1 h1
          have := hMt t h3
          rw [h2, ← h4]; simpa [Txs.txt] using this
        have hQl : Q.length ≤ 20 := by rw [hQ, numA_len]; simp; omega
        rw [← hQ]
        have iV : IsRow (rowV (intss Q)) (intss Q) := IsRow.rowV _
        have lV := iV.len
        simp only [intss_len] at lV
        generalize rowV (intss Q) = V at iV lV ⊢
        simp (disch := first | omega | (simp only [List.length_set]; omega)) [gl, lV]
        refine loop2I_ind cok F6l0w (m := fun j => Q.length - j) (I := fun j ts loc τ => j ≤ Q.length ∧ ts.length = 89 ∧ tmp ts 8 = V ∧ tmp ts 9 = V ∧ tmp ts 10 = .int .i64 (j : Int)) ?_ 0 ⟨by omega, by simp [gl], by simp (disch := first | omega | (simp only [List.length_set]; omega)) [], by simp (disch := first | omega | (simp only [List.length_set]; omega)) [], by simp (disch := first | omega | (simp only [List.length_set]; omega)) []⟩
        rintro j ts loc τ ⟨hj, gl, g8, g9, g10⟩ ih'
        simp (disch := first | omega | (simp only [List.length_set]; omega)) [F6l0, gl, g8, g10, lV]
        by_cases hlt : j < Q.length
        · obtain ⟨ns, hns⟩ : ∃ ns, Q[j]? = some ns := ⟨Q[j], by simp [hlt]⟩
          have hnl := hQm ns (List.mem_of_getElem? hns)
          have en := intss_at hns
          have eV := iV.elems τ.obj
          have tV := iV.at en
          simp (disch := first | omega | (simp only [List.length_set]; omega)) [hlt, gl, g8, g9, g10, lV, en, eV, tV, iV.chk]
          refine pcallI_pure' (same_spec ns ns (rowInts ns) (rowInts ns) (by omega)) (by simp [bareL]) ?_
          simp (disch := first | omega | (simp only [List.length_set]; omega)) [gl, g10]
          intro m hm
          refine ih' (j + 1) _ _ _ (by omega) ⟨by omega, ?_⟩
          simp (disch := first | omega | (simp only [List.length_set]; omega)) [gl, g8, g9, g10, wrap_id]
        · simp (disch := first | omega | (simp only [List.length_set]; omega)) [hlt, gl]
  · exact ⟨by omega, by simp, by simp, by simp, by dsimp only; omega, [], 0, 0, [], by simp, by simp, rfl, by omega, by simp, by simp [bareLL_eq], rfl, by simp⟩
end Go.Proofs.Ytinfmkmebemhcaa.Lt
