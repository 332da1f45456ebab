/- scarfref16.Long: the document's table. -/
import Derived.Test.YtinfmkmebemhcaaMt9
namespace Go.Proofs.Ytinfmkmebemhcaa.Lt
open Go.Proofs.YtinfmkmebemhcaaW.Abs Go
set_option maxRecDepth 100000
set_option maxHeartbeats 4000000
set_option linter.unusedSimpArgs false
set_option linter.unusedVariables false
variable {W0 : World}

theorem set_same {l : List Int} {i : Nat} {x : Int} (h : l[i]? = some x) : l.set i x = l := by
  apply List.ext_getElem?
  intro q
  rw [List.getElem?_set]
  by_cases e : i = q
  · subst e
    have := (List.getElem?_eq_some_iff.1 h).1
    rw [if_pos rfl, if_pos this, h]
  · rw [if_neg e]
theorem long_l0 {K : KC2} {hs : Hints} {a b : List Int} {A B : AV} {tb cu pv i n m N0 : Nat} {es : List (List AV)} {F : List Int} {h0 : Hp} (hA : IsRow A (ints a)) (hB : IsRow B (ints b)) (hn : a.length = n) (hm : b.length = m) (hn1 : n ≤ 1000) (hm1 : m ≤ 1000)
    (hel : es.length = n + 1) (he1 : es[i]? = some [.sl cu 0 (m + 1)]) (he2 : es[i - 1]? = some [.sl pv 0 (m + 1)]) (hi1 : 1 ≤ i) (hi2 : i ≤ n) (hne : cu ≠ pv) (hP : h0 pv = some (.box 3 (ints F))) (hF : F.length = m + 1)
    (hFk : ∀ k, k ≤ m → F[k]? = some (lcs (a.take (i - 1)) (b.take k) : Int))
    (hK : ∀ ts loc (τ : Heap) G, ts.length = 138 → tmp ts 0 = A → tmp ts 1 = B → tmp ts 5 = .sl tb 0 (n + 1) → tmp ts 7 = .int .i64 (i : Int) → loc 0 = .box tb 22 es → tb < τ.next → cu < τ.next → pv < τ.next → N0 ≤ τ.next → (∀ q, q ≠ cu → τ.obj q = h0 q) → τ.obj cu = some (.box 3 (ints G)) → G.length = m + 1 → (∀ k, k ≤ m → G[k]? = some (lcs (a.take i) (b.take k) : Int)) → K.k (.exit 4) ts loc τ)
    (ts : List AV) (loc : Go.Proofs.YtinfmkmebemhcaaW.Abs.Loc) (τ : Heap) (gl : ts.length = 138) (g0 : tmp ts 0 = A) (g1 : tmp ts 1 = B) (g5 : tmp ts 5 = .sl tb 0 (n + 1)) (g7 : tmp ts 7 = .int .i64 (i : Int)) (g8 : tmp ts 8 = .int .i64 1) (gc : loc 0 = .box tb 22 es) (nT : tb < τ.next) (nC : cu < τ.next) (nP : pv < τ.next) (nN : N0 ≤ τ.next) (ho : ∀ q, q ≠ cu → τ.obj q = h0 q) (G0 : List Int) (hC : τ.obj cu = some (.box 3 (ints G0))) (hG0 : G0.length = m + 1) (hG00 : G0[0]? = some 0) :
    loop2I Try.prog W0 C hs F13l0 ts loc τ := by
  have base : ∀ q, q ≤ 0 → G0[q]? = some (lcs (a.take i) (b.take q) : Int) := fun q hq => by
    have : q = 0 := by omega
    subst this; simpa [lcs_nil] using hG00
  refine loop2I_ind cok F13l0w (m := fun j => m - j) (I := fun j ts loc τ => j ≤ m ∧ ts.length = 138 ∧ tmp ts 0 = A ∧ tmp ts 1 = B ∧ tmp ts 5 = .sl tb 0 (n + 1) ∧ tmp ts 7 = .int .i64 (i : Int) ∧ tmp ts 8 = .int .i64 ((j : Int) + 1) ∧ loc 0 = .box tb 22 es ∧ tb < τ.next ∧ cu < τ.next ∧ pv < τ.next ∧ N0 ≤ τ.next ∧ (∀ q, q ≠ cu → τ.obj q = h0 q) ∧
    ∃ G, τ.obj cu = some (.box 3 (ints G)) ∧ G.length = m + 1 ∧ ∀ q, q ≤ j → G[q]? = some (lcs (a.take i) (b.take q) : Int)) ?_ 0
    ⟨by omega, gl, g0, g1, g5, g7, by simpa using g8, gc, nT, nC, nP, nN, ho, G0, hC, hG0, base⟩
  clear base gl g0 g1 g5 g7 g8 gc nT nC nP nN ho hC hG0 hG00 G0 ts loc τ
  rintro j ts loc τ ⟨hj, gl, g0, g1, g5, g7, g8, gc, nT, nC, nP, nN, ho, G, hC, hG, hGk⟩ ih'
  have lB := hB.len
  simp only [ints_len, hm] at lB
  by_cases hlt : j < m
  · have c1 : (j : Int) + 1 ≤ (m : Int) := by omega
    have oP : τ.obj pv = some (.box 3 (ints F)) := by rw [ho _ (Ne.symm hne)]; exact hP
    have eP := elems_boxed (n := m + 1) oP hF
    have eC := elems_boxed (n := m + 1) hC hG
    have eT : elOf (.box tb 22 es) (.sl tb 0 (n + 1)) = some es := elOf_all hel
    have i1 : IntKind.i64.wrap ((i : Int) - 1) = (i : Int) - 1 := wrap_id (by omega) (by omega)
    have i2 : ((i : Int) - 1).toNat = i - 1 := by omega
    have i3 : (0 : Int) ≤ (i : Int) - 1 := by omega
    have i4 : (1 : Int) ≤ (i : Int) := by omega
    have j1 : IntKind.i64.wrap ((j : Int) + 1 - 1) = (j : Int) := by rw [wrap_id (by omega) (by omega)]; omega
    have j0 : IntKind.i64.wrap (j : Int) = (j : Int) := wrap_id (by omega) (by omega)
    have j2 : ((j : Int) + 1).toNat = j + 1 := by omega
    have j3 : (0 : Int) ≤ (j : Int) + 1 := by omega
    obtain ⟨u, hu⟩ : ∃ u : Int, u = (lcs (a.take (i - 1)) (b.take (j + 1)) : Int) := ⟨_, rfl⟩
    obtain ⟨v, hv⟩ : ∃ v : Int, v = (lcs (a.take i) (b.take j) : Int) := ⟨_, rfl⟩
    obtain ⟨w, hw⟩ : ∃ w : Int, w = (lcs (a.take (i - 1)) (b.take j) : Int) := ⟨_, rfl⟩
    have fu := hFk (j + 1) (by omega)
    have fw := hFk j (by omega)
    have gv := hGk j (Nat.le_refl _)
    rw [← hu] at fu; rw [← hv] at gv; rw [← hw] at fw
    have f1 := nums_at fu
    have g1' : ∀ h : i < es.length, es[i]'h = [.sl cu 0 (m + 1)] := fun h => by rw [List.getElem?_eq_getElem h] at he1; exact Option.some.inj he1
    have g2' : ∀ h : i - 1 < es.length, es[i - 1]'h = [.sl pv 0 (m + 1)] := fun h => by rw [List.getElem?_eq_getElem h] at he2; exact Option.some.inj he2
    have d2 : tb < τ.next + 4 := by omega
    have d3 : pv < τ.next + 4 := by omega
    have d4 : cu < τ.next + 4 := by omega
    have d1 : cu < τ.next + 4 + 15 := by omega
    obtain ⟨z, hz⟩ : ∃ z, G[j + 1]? = some z := ⟨G[j + 1]'(by omega), List.getElem?_eq_getElem _⟩
    have q1 := nums_at hz
    simp (disch := first | omega | (simp only [List.length_set]; omega)) [F13l0, gl, g0, g1, g5, g7, g8, gc, lB, c1, eT, g1', g2', d2, d3, d4, i1, i2, i3, i4, j0, j1, j2, j3, oP, eP, eC, hC, f1, q1, hF, hG, setAt_ints]
    intro m1 hm1
    have gv1 : (G.set (j + 1) u)[j]? = some v := by rw [List.getElem?_set, if_neg (by omega)]; exact gv
    have gu1 : (G.set (j + 1) u)[j + 1]? = some u := by rw [List.getElem?_set, if_pos rfl, if_pos (by omega)]
    have hG1 : (G.set (j + 1) u).length = m + 1 := by simp [hG]
    generalize hh : upd τ.obj cu (some (.box 3 (ints (G.set (j + 1) u)))) = h1
    have c1' : h1 cu = some (.box 3 (ints (G.set (j + 1) u))) := by rw [← hh]; simp
    have p1' : h1 pv = some (.box 3 (ints F)) := by rw [← hh, upd_ne (Ne.symm hne)]; exact oP
    have o1 : ∀ q, q ≠ cu → h1 q = h0 q := fun q hq => by rw [← hh, upd_ne hq]; exact ho q hq
    have hG1k : ∀ q, q ≤ j → (G.set (j + 1) u)[q]? = some (lcs (a.take i) (b.take q) : Int) := fun q hq => by rw [List.getElem?_set, if_neg (by omega)]; exact hGk q hq
    generalize G.set (j + 1) u = G1 at hh c1' gv1 gu1 hG1 hG1k
    clear hh
    have eC1 := elems_boxed (n := m + 1) c1' hG1
    have eP1 := elems_boxed (n := m + 1) p1' hF
    have x1 := nums_at gv1
    have x2 := nums_at gu1
    have b1 : tb < m1 := by omega
    have b2 : cu < m1 := by omega
    have b3 : pv < m1 := by omega
    simp (disch := first | omega | (simp only [List.length_set]; omega)) [gl, g0, g1, g5, g7, g8, gc, eT, g1', g2', b1, b2, b3, i1, i2, i3, i4, j0, j1, j2, j3, eC1, eP1, c1', p1', x1, x2, hG1, hF]
    intro m2 hm2
    obtain ⟨x, hx⟩ : ∃ x, a[i - 1]? = some x := ⟨a[i - 1]'(by omega), List.getElem?_eq_getElem _⟩
    obtain ⟨y, hy⟩ : ∃ y, b[j]? = some y := ⟨b[j]'(by omega), List.getElem?_eq_getElem _⟩
    have ex := nums_at hx
    have ey := nums_at hy
    have tA := hA.at ex
    have tB := hB.at ey
    have ub := lcs_bd (a.take (i - 1)) (b.take (j + 1))
    have vb := lcs_bd (a.take i) (b.take j)
    have wb := lcs_bd (a.take (i - 1)) (b.take j)
    simp only [List.length_take] at ub vb wb
    have ww : IntKind.i64.wrap (w + 1) = w + 1 := wrap_id (by omega) (by omega)
    have w8 : IntKind.i64.wrap ((j : Int) + 1 + 1) = (((j + 1 : Nat) : Int) + 1) := by rw [wrap_id (by omega) (by omega)]; omega
    have hfin : ((lcs (a.take i) (b.take (j + 1)) : Nat) : Int) = max (max u v) (if x = y then w + 1 else 0) := by
      have ta : a.take i = a.take (i - 1) ++ [x] := by
        have := List.take_add_one (l := a) (i := i - 1)
        rw [show i - 1 + 1 = i by omega, hx] at this; exact this
      have tbk : b.take (j + 1) = b.take j ++ [y] := by rw [List.take_add_one, hy]; rfl
      have hr := lcs_ref (a.take (i - 1)) (b.take j) x y
      rw [← ta, ← tbk] at hr
      rw [hr, hu, hv, hw]
      split <;> omega
    have go : ∀ (r : Int) (G2 : List Int) (ts' : List AV) (loc' : Go.Proofs.YtinfmkmebemhcaaW.Abs.Loc) (τ' : Heap), ((lcs (a.take i) (b.take (j + 1)) : Nat) : Int) = r → G2.length = m + 1 → (∀ q, q ≤ j → G2[q]? = some (lcs (a.take i) (b.take q) : Int)) → ts'.length = 138 → tmp ts' 0 = A → tmp ts' 1 = B → tmp ts' 5 = .sl tb 0 (n + 1) → tmp ts' 7 = .int .i64 (i : Int) → tmp ts' 8 = .int .i64 (((j + 1 : Nat) : Int) + 1) → loc' 0 = .box tb 22 es → τ.next ≤ τ'.next → (∀ q, q ≠ cu → τ'.obj q = h0 q) → τ'.obj cu = some (.box 3 (ints (G2.set (j + 1) r))) → loop2I Try.prog W0 C hs F13l0 ts' loc' τ' := by
      intro r G2 ts' loc' τ' hr hl2 hk2 e0 e1 e2 e3 e4 e5 e6 e7 e8 e9
      refine ih' (j + 1) _ _ _ (by omega) ⟨by omega, e0, e1, e2, e3, e4, e5, e6, by omega, by omega, by omega, by omega, e8, _, e9, by simp [hl2], fun q hq => ?_⟩
      rw [List.getElem?_set]
      by_cases hqj : j + 1 = q
      · subst hqj; rw [if_pos rfl, if_pos (by omega), hr]
      · rw [if_neg hqj]; exact hk2 q (by omega)
    clear ih' hK
    by_cases huv : u < v
    · simp (disch := first | omega | (simp only [List.length_set]; omega)) [huv, gl, g0, g1, g5, g7, g8, gc, eT, g1', g2', (show tb < m2 by omega), (show cu < m2 by omega), (show pv < m2 by omega), i1, i2, i3, i4, j0, j1, j2, j3, eC1, eP1, c1', p1', x1, x2, hG1, hF, setAt_ints]
      intro m3 hm3
      have gs2 : (G1.set (j + 1) v)[j + 1]? = some v := by rw [List.getElem?_set, if_pos rfl, if_pos (by omega)]
      have hG2 : (G1.set (j + 1) v).length = m + 1 := by simp [hG1]
      have hG2k : ∀ q, q ≤ j → (G1.set (j + 1) v)[q]? = some (lcs (a.take i) (b.take q) : Int) := fun q hq => by rw [List.getElem?_set, if_neg (by omega)]; exact hG1k q hq
      generalize hh : upd h1 cu (some (.box 3 (ints (G1.set (j + 1) v)))) = h2
      have c2' : h2 cu = some (.box 3 (ints (G1.set (j + 1) v))) := by rw [← hh]; simp
      have p2' : h2 pv = some (.box 3 (ints F)) := by rw [← hh, upd_ne (Ne.symm hne)]; exact p1'
      have o2 : ∀ q, q ≠ cu → h2 q = h0 q := fun q hq => by rw [← hh, upd_ne hq]; exact o1 q hq
      generalize G1.set (j + 1) v = G2 at hh c2' gs2 hG2 hG2k
      clear hh
      have eA := hA.elems h2
      have eB := hB.elems h2
      have eC2 := elems_boxed (n := m + 1) c2' hG2
      have eP2 := elems_boxed (n := m + 1) p2' hF
      have y1 := nums_at gs2
      have y2 := nums_at fw
      have bb1 : tb < m3 := by omega
      have bb2 : cu < m3 := by omega
      have bb3 : pv < m3 := by omega
      simp (disch := first | omega | (simp only [List.length_set]; omega)) [gl, g0, g1, g5, g7, g8, gc, eT, g1', g2', bb1, bb2, bb3, i1, i2, i3, i4, j0, j1, j2, j3, eA, eB, tA, tB, ex, ey, eC2, eP2, c2', p2', y1, y2, hG2, hF, hA.chk, hB.chk]
      by_cases hxy : x = y
      · simp (disch := first | omega | (simp only [List.length_set]; omega)) [hxy, gl, g0, g1, g5, g7, g8, gc, eT, g1', g2', bb1, bb2, bb3, i1, i2, i3, i4, j0, j1, j2, j3, eC2, eP2, c2', p2', y1, y2, hG2, hF]
        intro m4 hm4
        have e1 : tb < m4 := by omega
        have e2 : cu < m4 := by omega
        have e3 : pv < m4 := by omega
        by_cases hws : v < w + 1
        · simp (disch := first | omega | (simp only [List.length_set]; omega)) [hws, ww, gl, g0, g1, g5, g7, g8, gc, eT, g1', g2', e1, e2, e3, i1, i2, i3, i4, j0, j1, j2, j3, eC2, eP2, c2', p2', y1, y2, hG2, hF, setAt_ints]
          intro m5 hm5
          refine go (w + 1) G2 _ _ _ (by rw [hfin, if_pos hxy]; omega) hG2 hG2k (by simp [gl]) (by simp (disch := first | omega | (simp only [List.length_set]; omega)) [g0]) (by simp (disch := first | omega | (simp only [List.length_set]; omega)) [g1]) (by simp (disch := first | omega | (simp only [List.length_set]; omega)) [g5]) (by simp (disch := first | omega | (simp only [List.length_set]; omega)) [g7]) (by simp (disch := first | omega | (simp only [List.length_set]; omega)) [w8]) (by simp (disch := first | omega | (simp only [List.length_set]; omega)) [gc]) (by dsimp only; omega) (fun q hq => by dsimp only; rw [upd_ne hq]; exact o2 q hq) (by simp)
        · simp (disch := first | omega | (simp only [List.length_set]; omega)) [hws, ww, gl, g0, g1, g5, g7, g8, gc]
          refine go v G2 _ _ _ (by rw [hfin, if_pos hxy]; omega) hG2 hG2k (by simp [gl]) (by simp (disch := first | omega | (simp only [List.length_set]; omega)) [g0]) (by simp (disch := first | omega | (simp only [List.length_set]; omega)) [g1]) (by simp (disch := first | omega | (simp only [List.length_set]; omega)) [g5]) (by simp (disch := first | omega | (simp only [List.length_set]; omega)) [g7]) (by simp (disch := first | omega | (simp only [List.length_set]; omega)) [w8]) (by simp (disch := first | omega | (simp only [List.length_set]; omega)) [gc]) (by dsimp only; omega) (fun q hq => o2 q hq) (by dsimp only; rw [set_same gs2]; exact c2')
      · simp (disch := first | omega | (simp only [List.length_set]; omega)) [hxy, gl, g0, g1, g5, g7, g8, gc]
        intro m4 hm4
        refine go v G2 _ _ _ (by rw [hfin, if_neg hxy]; omega) hG2 hG2k (by simp [gl]) (by simp (disch := first | omega | (simp only [List.length_set]; omega)) [g0]) (by simp (disch := first | omega | (simp only [List.length_set]; omega)) [g1]) (by simp (disch := first | omega | (simp only [List.length_set]; omega)) [g5]) (by simp (disch := first | omega | (simp only [List.length_set]; omega)) [g7]) (by simp (disch := first | omega | (simp only [List.length_set]; omega)) [w8]) (by simp (disch := first | omega | (simp only [List.length_set]; omega)) [gc]) (by dsimp only; omega) (fun q hq => o2 q hq) (by dsimp only; rw [set_same gs2]; exact c2')
    · simp (disch := first | omega | (simp only [List.length_set]; omega)) [huv, gl]
      have eA := hA.elems h1
      have eB := hB.elems h1
      have eC2 := elems_boxed (n := m + 1) c1' hG1
      have eP2 := elems_boxed (n := m + 1) p1' hF
      have y1 := nums_at gu1
      have y2 := nums_at fw
      have bb1 : tb < m2 := by omega
      have bb2 : cu < m2 := by omega
      have bb3 : pv < m2 := by omega
      simp (disch := first | omega | (simp only [List.length_set]; omega)) [gl, g0, g1, g5, g7, g8, gc, eT, g1', g2', bb1, bb2, bb3, i1, i2, i3, i4, j0, j1, j2, j3, eA, eB, tA, tB, ex, ey, eC2, eP2, c1', p1', y1, y2, hG1, hF, hA.chk, hB.chk]
      by_cases hxy : x = y
      · simp (disch := first | omega | (simp only [List.length_set]; omega)) [hxy, gl, g0, g1, g5, g7, g8, gc, eT, g1', g2', bb1, bb2, bb3, i1, i2, i3, i4, j0, j1, j2, j3, eC2, eP2, c1', p1', y1, y2, hG1, hF]
        intro m4 hm4
        have e1 : tb < m4 := by omega
        have e2 : cu < m4 := by omega
        have e3 : pv < m4 := by omega
        by_cases hws : u < w + 1
        · simp (disch := first | omega | (simp only [List.length_set]; omega)) [hws, ww, gl, g0, g1, g5, g7, g8, gc, eT, g1', g2', e1, e2, e3, i1, i2, i3, i4, j0, j1, j2, j3, eC2, eP2, c1', p1', y1, y2, hG1, hF, setAt_ints]
          intro m5 hm5
          refine go (w + 1) G1 _ _ _ (by rw [hfin, if_pos hxy]; omega) hG1 hG1k (by simp [gl]) (by simp (disch := first | omega | (simp only [List.length_set]; omega)) [g0]) (by simp (disch := first | omega | (simp only [List.length_set]; omega)) [g1]) (by simp (disch := first | omega | (simp only [List.length_set]; omega)) [g5]) (by simp (disch := first | omega | (simp only [List.length_set]; omega)) [g7]) (by simp (disch := first | omega | (simp only [List.length_set]; omega)) [w8]) (by simp (disch := first | omega | (simp only [List.length_set]; omega)) [gc]) (by dsimp only; omega) (fun q hq => by dsimp only; rw [upd_ne hq]; exact o1 q hq) (by simp)
        · simp (disch := first | omega | (simp only [List.length_set]; omega)) [hws, ww, gl, g0, g1, g5, g7, g8, gc]
          refine go u G1 _ _ _ (by rw [hfin, if_pos hxy]; omega) hG1 hG1k (by simp [gl]) (by simp (disch := first | omega | (simp only [List.length_set]; omega)) [g0]) (by simp (disch := first | omega | (simp only [List.length_set]; omega)) [g1]) (by simp (disch := first | omega | (simp only [List.length_set]; omega)) [g5]) (by simp (disch := first | omega | (simp only [List.length_set]; omega)) [g7]) (by simp (disch := first | omega | (simp only [List.length_set]; omega)) [w8]) (by simp (disch := first | omega | (simp only [List.length_set]; omega)) [gc]) (by dsimp only; omega) (fun q hq => o1 q hq) (by dsimp only; rw [set_same gu1]; exact c1')
      · simp (disch := first | omega | (simp only [List.length_set]; omega)) [hxy, gl, g0, g1, g5, g7, g8, gc]
        intro m4 hm4
        refine go u G1 _ _ _ (by rw [hfin, if_neg hxy]; omega) hG1 hG1k (by simp [gl]) (by simp (disch := first | omega | (simp only [List.length_set]; omega)) [g0]) (by simp (disch := first | omega | (simp only [List.length_set]; omega)) [g1]) (by simp (disch := first | omega | (simp only [List.length_set]; omega)) [g5]) (by simp (disch := first | omega | (simp only [List.length_set]; omega)) [g7]) (by simp (disch := first | omega | (simp only [List.length_set]; omega)) [w8]) (by simp (disch := first | omega | (simp only [List.length_set]; omega)) [gc]) (by dsimp only; omega) (fun q hq => o1 q hq) (by dsimp only; rw [set_same gu1]; exact c1')
  · have c1 : ¬ (j : Int) + 1 ≤ (m : Int) := by omega
    simp (disch := first | omega | (simp only [List.length_set]; omega)) [F13l0, gl, g1, g8, lB, c1]
    have : j = m := by omega
    subst this
    exact hK _ _ _ G (by simp [gl]) (by simp (disch := first | omega | (simp only [List.length_set]; omega)) [g0]) (by simp (disch := first | omega | (simp only [List.length_set]; omega)) [g1]) (by simp (disch := first | omega | (simp only [List.length_set]; omega)) [g5]) (by simp (disch := first | omega | (simp only [List.length_set]; omega)) [g7]) gc (by dsimp only; omega) (by dsimp only; omega) (by dsimp only; omega) (by dsimp only; omega) ho hC hG hGk
end Go.Proofs.Ytinfmkmebemhcaa.Lt
