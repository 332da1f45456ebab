/- scarfref16.Long: its walk. -/
import Derived.Test.YtinfmkmebemhcaaMt13
namespace Go.Proofs.Ytinfmkmebemhcaa.Lt
open Go.Proofs.YtinfmkmebemhcaaW.Abs Go
set_option maxRecDepth 100000
set_option maxHeartbeats 4000000
set_option linter.unusedSimpArgs false
set_option linter.unusedVariables false
variable {W0 : World}

/-- the table's rows by their numbers -/
def rowsOf (m : Nat) (ds : List Nat) : List (List AV) := ds.map fun d => [.sl d 0 (m + 1)]
theorem rowsOf_at {m : Nat} {ds : List Nat} {q d : Nat} (h : ds[q]? = some d) : (rowsOf m ds)[q]? = some [.sl d 0 (m + 1)] := by simp [rowsOf, h]
@[simp] theorem rowsOf_len (m : Nat) (ds : List Nat) : (rowsOf m ds).length = ds.length := by simp [rowsOf]
theorem rows_put (m : Nat) (ds : List Nat) (k d : Nat) : setAt (rowsOf m ds ++ List.replicate (k + 1) [AV.nils]) ds.length 0 [.sl d 0 (m + 1)] = rowsOf m (ds ++ [d]) ++ List.replicate k [AV.nils] := by
  apply List.ext_getElem?
  intro q
  rw [setAt_get]
  have hl : (rowsOf m ds).length = ds.length := rowsOf_len m ds
  by_cases e : ds.length = q
  · subst e
    rw [if_pos rfl, List.getElem?_append_right (by omega), hl, Nat.sub_self, List.getElem?_append_left (by simp)]
    rw [rowsOf_at (d := d) (by simp)]
    simp [List.replicate_succ]
  · rw [if_neg e]
    by_cases h2 : q < ds.length
    · rw [List.getElem?_append_left (by omega), List.getElem?_append_left (by simp; omega)]
      simp only [rowsOf, List.getElem?_map]
      rw [List.getElem?_append_left h2]
    · rw [List.getElem?_append_right (by omega), List.getElem?_append_right (by simp; omega), hl, rowsOf_len]
      simp only [List.length_append, List.length_cons, List.length_nil, List.getElem?_replicate]
      have : (q - ds.length < k + 1) ↔ (q - (ds.length + (0 + 1)) < k) := by omega
      by_cases h3 : q - ds.length < k + 1
      · rw [if_pos h3, if_pos (this.1 h3)]
      · rw [if_neg h3, if_neg (fun h => h3 (this.2 h))]
def RowsOk (a b : List Int) (h : Hp) (ds : List Nat) (i : Nat) : Prop := ∀ q d, ds[q]? = some d → ∃ F, h d = some (.box 3 (ints F)) ∧ F.length = b.length + 1 ∧ F[0]? = some 0 ∧ (q < i → ∀ k, k ≤ b.length → F[k]? = some (lcs (a.take q) (b.take k) : Int))

theorem long_l1 {K : KC2} {hs : Hints} {a b : List Int} {A B : AV} {tb n m : Nat} {ds : List Nat} (hA : IsRow A (ints a)) (hB : IsRow B (ints b)) (hn : a.length = n) (hm : b.length = m) (hn1 : n ≤ 1000) (hm1 : m ≤ 1000) (hdl : ds.length = n + 1) (hnd : ds.Nodup)
    (hK : ∀ ts loc (τ : Heap), ts.length = 138 → tmp ts 0 = A → tmp ts 1 = B → tmp ts 5 = .sl tb 0 (n + 1) → loc 0 = .box tb 22 (rowsOf m ds) → RowsOk a b τ.obj ds (n + 1) → K.k (.exit 2) ts loc τ)
    (ts : List AV) (loc : Go.Proofs.YtinfmkmebemhcaaW.Abs.Loc) (τ : Heap) (gl : ts.length = 138) (g0 : tmp ts 0 = A) (g1 : tmp ts 1 = B) (g5 : tmp ts 5 = .sl tb 0 (n + 1)) (g7 : tmp ts 7 = .int .i64 1) (gc : loc 0 = .box tb 22 (rowsOf m ds)) (nT : tb < τ.next) (nD : ∀ d ∈ ds, d < τ.next) (hr : RowsOk a b τ.obj ds 1) :
    loop2I Try.prog W0 C hs F13l1 ts loc τ := by
  refine loop2I_ind cok F13l1w (m := fun i => n - i) (I := fun i ts loc τ => i ≤ n ∧ ts.length = 138 ∧ tmp ts 0 = A ∧ tmp ts 1 = B ∧ tmp ts 5 = .sl tb 0 (n + 1) ∧ tmp ts 7 = .int .i64 ((i : Int) + 1) ∧ loc 0 = .box tb 22 (rowsOf m ds) ∧ tb < τ.next ∧ (∀ d ∈ ds, d < τ.next) ∧ RowsOk a b τ.obj ds (i + 1)) ?_ 0
    ⟨by omega, gl, g0, g1, g5, by simpa using g7, gc, nT, nD, hr⟩
  clear gl g0 g1 g5 g7 gc nT nD hr ts loc τ
  rintro i ts loc τ ⟨hi, gl, g0, g1, g5, g7, gc, nT, nD, hr⟩ ih'
  have lA := hA.len
  simp only [ints_len, hn] at lA
  by_cases hlt : i < n
  · have c1 : (i : Int) + 1 ≤ (n : Int) := by omega
    simp (disch := first | omega | (simp only [List.length_set]; omega)) [F13l1, gl, g0, g7, lA, c1]
    obtain ⟨cu, hcu⟩ : ∃ cu, ds[i + 1]? = some cu := ⟨ds[i + 1]'(by omega), List.getElem?_eq_getElem _⟩
    obtain ⟨pv, hpv⟩ : ∃ pv, ds[i]? = some pv := ⟨ds[i]'(by omega), List.getElem?_eq_getElem _⟩
    have hne : cu ≠ pv := fun e => by
      subst e
      have := (List.getElem?_inj (by omega) hnd).1 (hcu.trans hpv.symm)
      omega
    obtain ⟨F, f1, f2, f3, f4⟩ := hr i pv hpv
    obtain ⟨G0, q1, q2, q3, _⟩ := hr (i + 1) cu hcu
    rw [hm] at f2 f4 q2
    refine long_l0 (a := a) (b := b) (A := A) (B := B) (tb := tb) (cu := cu) (pv := pv) (i := i + 1) (n := n) (m := m) (es := rowsOf m ds) (F := F) (h0 := τ.obj) (N0 := τ.next) hA hB hn hm hn1 hm1 (by simp [hdl]) (rowsOf_at hcu) (by simpa using rowsOf_at hpv) (by omega) (by omega) hne f1 f2 (by simpa using f4 (by omega)) ?_ _ _ _ (by simp [gl]) (by simp (disch := first | omega | (simp only [List.length_set]; omega)) [g0]) (by simp (disch := first | omega | (simp only [List.length_set]; omega)) [g1]) (by simp (disch := first | omega | (simp only [List.length_set]; omega)) [g5]) (by simp (disch := first | omega | (simp only [List.length_set]; omega)) [g7]) (by simp (disch := first | omega | (simp only [List.length_set]; omega)) []) gc (by dsimp only; omega) (by have := nD cu (List.mem_of_getElem? hcu); dsimp only; omega) (by have := nD pv (List.mem_of_getElem? hpv); dsimp only; omega) (by dsimp only; omega) (fun q _ => rfl) G0 q1 q2 q3
    intro ts2 loc2 τ2 G t gg0 gg1 gg5 gg7 ggc nT2 nC2 nP2 nN2 ho2 hG hGl hGk
    simp (disch := first | omega | (simp only [List.length_set]; omega)) [t, gg0, gg1, gg5, gg7, ggc]
    refine ih' (i + 1) _ _ _ (by omega) ⟨by omega, ?_⟩
    simp (disch := first | omega | (simp only [List.length_set]; omega)) [t, gg0, gg1, gg5, gg7, ggc, wrap_id]
    refine ⟨by omega, fun d hd => by have := nD d hd; omega, fun q d hq => ?_⟩
    by_cases hqi : q = i + 1
    · subst hqi
      rw [hcu] at hq; cases hq
      refine ⟨G, hG, by rw [hm]; exact hGl, by have := hGk 0 (by omega); simpa [lcs_nil] using this, fun _ => by rw [hm]; exact hGk⟩
    · have hdc : d ≠ cu := fun e => by
        subst e
        exact hqi ((List.getElem?_inj (List.getElem?_eq_some_iff.1 hq).1 hnd).1 (hq.trans hcu.symm))
      obtain ⟨F', x1, x2, x3, x4⟩ := hr q d hq
      exact ⟨F', by rw [ho2 d hdc]; exact x1, x2, x3, fun h => x4 (by omega)⟩
  · have c1 : ¬ (i : Int) + 1 ≤ (n : Int) := by omega
    simp (disch := first | omega | (simp only [List.length_set]; omega)) [F13l1, gl, g0, g7, lA, c1]
    have : i = n := by omega
    subst this
    exact hK _ _ _ (by simp [gl]) (by simp (disch := first | omega | (simp only [List.length_set]; omega)) [g0]) (by simp (disch := first | omega | (simp only [List.length_set]; omega)) [g1]) (by simp (disch := first | omega | (simp only [List.length_set]; omega)) [g5]) gc hr

theorem refLong_spec (a b : List Int) {A B : AV} (hA : IsRow A (ints a)) (hB : IsRow B (ints b)) (hn1 : a.length ≤ 1000) (hm1 : b.length ≤ 1000) : PCall Try.prog W0 13 [A, B] (.int .i64 ((lcs a b : Nat) : Int)) := by
  refine pcall2 cok Try.func13 F13d F13e F13c F13w F13r (fun N => ?_)
  refine ev2I_intro ?_
  obtain ⟨n, hn⟩ : ∃ n, a.length = n := ⟨_, rfl⟩
  obtain ⟨m, hm⟩ : ∃ m, b.length = m := ⟨_, rfl⟩
  rw [hn] at hn1; rw [hm] at hm1
  have lA := hA.len
  have lB := hB.len
  simp only [ints_len, hn, hm] at lA lB
  have w1 : IntKind.i64.wrap ((n : Int) + 1) = (n : Int) + 1 := wrap_id (by omega) (by omega)
  have w2 : ((n : Int) + 1).toNat = n + 1 := by omega
  simp (disch := first | omega | (simp only [List.length_set]; omega)) [F13s, lA, w1, w2]
  refine andI_intro (by omega) ?_
  simp (disch := first | omega | (simp only [List.length_set]; omega)) [w2]
  refine loop2I_ind cok F13l2w (m := fun i => n + 1 - i) (I := fun i ts loc τ => i ≤ n + 1 ∧ ts.length = 138 ∧ tmp ts 0 = A ∧ tmp ts 1 = B ∧ tmp ts 5 = .sl (N + 1 + 3) 0 (n + 1) ∧ tmp ts 6 = .int .i64 (i : Int) ∧ N + 1 + 3 < τ.next ∧
    ∃ ds : List Nat, ds.length = i ∧ ds.Nodup ∧ loc 0 = .box (N + 1 + 3) 22 (rowsOf m ds ++ List.replicate (n + 1 - i) [AV.nils]) ∧ ∀ d ∈ ds, d < τ.next ∧ τ.obj d = some (.box 3 (ints (List.replicate (m + 1) 0)))) ?_ 0 ?_
  · rintro i ts loc τ ⟨hi, gl, g0, g1, g5, g6, nT, ds, hdl, hnd, gc, hds⟩ ih'
    by_cases hlt : i < n + 1
    · have c1 : (i : Int) ≤ (n : Int) := by omega
      have w3 : IntKind.i64.wrap ((m : Int) + 1) = (m : Int) + 1 := wrap_id (by omega) (by omega)
      have w4 : ((m : Int) + 1).toNat = m + 1 := by omega
      have w5 : IntKind.i64.wrap ((i : Int) + 1) = ((i + 1 : Nat) : Int) := by rw [wrap_id (by omega) (by omega)]; omega
      have hesl : (rowsOf m ds ++ List.replicate (n + 1 - i) [AV.nils]).length = n + 1 := by simp; omega
      have eT : elOf (.box (N + 1 + 3) 22 (rowsOf m ds ++ List.replicate (n + 1 - i) [AV.nils])) (.sl (N + 1 + 3) 0 (n + 1)) = some (rowsOf m ds ++ List.replicate (n + 1 - i) [AV.nils]) := elOf_all hesl
      have hei : (rowsOf m ds ++ List.replicate (n + 1 - i) [AV.nils])[i]? = some [AV.nils] := by
        rw [List.getElem?_append_right (by simp; omega), rowsOf_len, hdl, Nat.sub_self, List.getElem?_replicate, if_pos (by omega)]
      have hei' : ∀ h : i < (rowsOf m ds ++ List.replicate (n + 1 - i) [AV.nils]).length, (rowsOf m ds ++ List.replicate (n + 1 - i) [AV.nils])[i]'h = [AV.nils] := fun h => by rw [List.getElem?_eq_getElem h] at hei; exact Option.some.inj hei
      have hput : ∀ d, setAt (rowsOf m ds ++ List.replicate (n + 1 - i) [AV.nils]) i 0 [.sl d 0 (m + 1)] = rowsOf m (ds ++ [d]) ++ List.replicate (n - i) [AV.nils] := fun d => by
        rw [show n + 1 - i = (n - i) + 1 by omega, ← hdl]; exact rows_put m ds _ d
      generalize hes : rowsOf m ds ++ List.replicate (n + 1 - i) [AV.nils] = es at gc hesl eT hei hei' hput
      simp (disch := first | omega | (simp only [List.length_set]; omega)) [F13l2, gl, g0, g1, g5, g6, gc, lA, lB, c1, w3, w4]
      refine andI_intro (by omega) ?_
      simp (disch := first | omega | (simp only [List.length_set]; omega)) [gl, g0, g1, g5, g6, gc, eT, hei, hei', hput, w4]
      have hrep : ([AV.int .i64 0] :: List.replicate m [AV.int .i64 0]) = ints (List.replicate (m + 1) 0) := by simp [ints, List.replicate_succ]
      rw [hrep]
      refine ih' (i + 1) _ _ _ (by omega) ⟨by omega, by simp [gl], by simp (disch := first | omega | (simp only [List.length_set]; omega)) [g0], by simp (disch := first | omega | (simp only [List.length_set]; omega)) [g1], by simp (disch := first | omega | (simp only [List.length_set]; omega)) [g5], by simp (disch := first | omega | (simp only [List.length_set]; omega)) [w5], by dsimp only; omega, ds ++ [τ.next + 4 + 5], by simp [hdl], ?_, by simp (disch := first | omega | (simp only [List.length_set]; omega)) [show n + 1 - (i + 1) = n - i by omega], fun d hd => ?_⟩
      · rw [List.nodup_append]
        exact ⟨hnd, by simp, fun x hx y hy => by
          have := (hds x hx).1
          simp only [List.mem_singleton] at hy
          omega⟩
      · dsimp only
        rcases List.mem_append.1 hd with hd | hd
        · have ⟨q1, q2⟩ := hds d hd
          exact ⟨by omega, by rw [upd_ne (by omega)]; exact q2⟩
        · simp only [List.mem_singleton] at hd
          subst hd
          exact ⟨by omega, by simp⟩
    · have c1 : ¬ (i : Int) ≤ (n : Int) := by omega
      simp (disch := first | omega | (simp only [List.length_set]; omega)) [F13l2, gl, g0, g6, lA, c1]
      have hi' : i = n + 1 := by omega
      subst hi'
      rw [Nat.sub_self, List.replicate_zero, List.append_nil] at gc
      refine long_l1 (a := a) (b := b) (A := A) (B := B) (tb := N + 1 + 3) (n := n) (m := m) (ds := ds) hA hB hn hm hn1 hm1 hdl hnd ?_ _ _ _ (by simp [gl]) (by simp (disch := first | omega | (simp only [List.length_set]; omega)) [g0]) (by simp (disch := first | omega | (simp only [List.length_set]; omega)) [g1]) (by simp (disch := first | omega | (simp only [List.length_set]; omega)) [g5]) (by simp (disch := first | omega | (simp only [List.length_set]; omega)) []) gc (by dsimp only; omega) (fun d hd => by have := (hds d hd).1; dsimp only; omega) (fun q d hq => ?_)
      · intro ts2 loc2 τ2 t gg0 gg1 gg5 ggc hr
        obtain ⟨d, hd⟩ : ∃ d, ds[n]? = some d := ⟨ds[n]'(by omega), List.getElem?_eq_getElem _⟩
        obtain ⟨F, f1, f2, f3, f4⟩ := hr n d hd
        have f5 := f4 (by omega) m (by omega)
        rw [← hn, List.take_length, ← hm, List.take_length, hm] at f5
        have x1 := nums_at f5
        have eF := elems_boxed (n := m + 1) f1 (by rw [f2, hm])
        have eT : elOf (.box (N + 1 + 3) 22 (rowsOf m ds)) (.sl (N + 1 + 3) 0 (n + 1)) = some (rowsOf m ds) := elOf_all (by simp [hdl])
        have hrd := rowsOf_at (m := m) hd
        have hrd' : ∀ h : n < (rowsOf m ds).length, (rowsOf m ds)[n]'h = [.sl d 0 (m + 1)] := fun h => by rw [List.getElem?_eq_getElem h] at hrd; exact Option.some.inj hrd
        have hFm : m < F.length := by omega
        simp (disch := first | omega | (simp only [List.length_set]; omega)) [t, gg0, gg1, gg5, ggc, lA, lB, eT, hrd, hrd', eF, x1, f1, hdl]
      · obtain ⟨q1, q2⟩ := hds d (List.mem_of_getElem? hq)
        refine ⟨_, q2, by simp [hm], by simp, fun h k hk => ?_⟩
        have : q = 0 := by omega
        subst this
        rw [List.getElem?_replicate, if_pos (by omega)]; simp [lcs]
  · exact ⟨by omega, by simp, by simp, by simp, by simp, by simp, by dsimp only; omega, [], rfl, by simp, by simp [rowsOf, List.replicate_succ], by simp⟩
end Go.Proofs.Ytinfmkmebemhcaa.Lt
