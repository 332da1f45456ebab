/- myers.halves: the row of pairs that grows in its box; its loops. -/
import Derived.Test.YtinfmkmebemhcaaMt3
namespace Go.Proofs.Ytinfmkmebemhcaa.Lt
open Go.Proofs.YtinfmkmebemhcaaW.Abs Go
set_option maxRecDepth 100000
set_option maxHeartbeats 4000000
set_option linter.unusedSimpArgs false
set_option linter.unusedVariables false
variable {W0 : World}

/-- pairs of places as pairs of numbers -/
def np (l : List (Nat × Nat)) : List (Int × Int) := l.map fun p => ((p.1 : Int), (p.2 : Int))
@[simp] theorem np_len (l : List (Nat × Nat)) : (np l).length = l.length := by simp [np]
@[simp] theorem np_nil : np [] = [] := rfl
@[simp] theorem np_app (a b : List (Nat × Nat)) : np (a ++ b) = np a ++ np b := by simp [np]
@[simp] theorem np_one (p : Nat × Nat) : np [p] = [((p.1 : Int), (p.2 : Int))] := rfl
theorem np_diag_step (j i k : Nat) : np (diag (j + 1) i k) = np (diag j i k) ++ [(((i + j : Nat) : Int), ((k + j : Nat) : Int))] := by simp [diag, List.range_succ, np]

/-- the row of pairs in its box -/
structure PR1 (n : Nat) (h : Hp) (r : Nat) (l : List (Int × Int)) (tok : Nat) (te : Option TypeId) : Prop where
  lt : r < n
  box : h r = some (.box 46 [[accV (prs l) tok]])
  tk : l ≠ [] → tok < n ∧ tok ≠ r ∧ h tok = some (.tail te 2)
def PR (n : Nat) (h : Hp) (r : Nat) (l : List (Int × Int)) : Prop := ∃ tok te, PR1 n h r l tok te
theorem PR1.mono {n m : Nat} {h h' : Hp} {r tok : Nat} {te : Option TypeId} {l : List (Int × Int)} (p : PR1 n h r l tok te) (hm : n ≤ m) (hh : ∀ q, q < n → h' q = h q) : PR1 m h' r l tok te :=
  ⟨by have := p.lt; omega, by rw [hh _ p.lt]; exact p.box, fun q => by have ⟨a, b, c⟩ := p.tk q; exact ⟨by omega, b, by rw [hh _ a]; exact c⟩⟩
theorem PR.mono {n m : Nat} {h h' : Hp} {r : Nat} {l : List (Int × Int)} (p : PR n h r l) (hm : n ≤ m) (hh : ∀ q, q < n → h' q = h q) : PR m h' r l := by
  obtain ⟨tok, te, p⟩ := p; exact ⟨tok, te, p.mono hm hh⟩
theorem PR1.acc {n : Nat} {h : Hp} {r tok : Nat} {te : Option TypeId} {l : List (Int × Int)} (p : PR1 n h r l tok te) : AccOk h 2 tok (prs l) := by
  intro hne
  have hl : l ≠ [] := fun q => hne (by rw [q]; rfl)
  rw [(p.tk hl).2.2]; rfl
theorem PR1.push {n : Nat} {h : Hp} {r tok : Nat} {te : Option TypeId} {l : List (Int × Int)} (p : PR1 n h r l tok te) (x y : Int) {id m : Nat} (hid : n ≤ id) (hm : id < m) (ty : TypeId) :
    accHeap id ty 2 h [[.int .i64 x, .int .i64 y]] (prs l) tok r = some (.box 46 [[accV (prs l) tok]]) ∧
    PR m (upd (accHeap id ty 2 h [[.int .i64 x, .int .i64 y]] (prs l) tok) r (some (.box 46 [[accV (prs l ++ [[.int .i64 x, .int .i64 y]]) id]]))) r (l ++ [(x, y)]) := by
  have h1 := p.lt
  have hne : prs l ≠ [] → l ≠ [] := fun q e => q (by rw [e]; rfl)
  refine ⟨by rw [accHeap_ne (by omega) (fun q => (p.tk (hne q)).2.1.symm)]; exact p.box, id, if prs l = [] then some ty else tailTy ty (h tok), by omega, ?_, fun _ => ⟨hm, by omega, ?_⟩⟩
  · rw [upd_same]; simp [prs]
  · rw [upd_ne (show id ≠ r by omega)]
    simp only [accHeap]
    by_cases e : prs l = []
    · rw [if_pos e, if_neg (by simp), if_pos e, upd_same]
    · rw [if_neg e, if_neg e, upd_same]

theorem isRow_cut {A : AV} {es : List (List AV)} (h : IsRow A es) (lo : Nat) (hi : Nat → Nat) (hh : hi es.length ≤ es.length) : IsRow (subVal lo hi A) ((es.take (hi es.length)).drop lo) := by
  rcases h with ⟨rfl, rfl⟩ | rfl
  · simp [IsRow]
  · right; simp
theorem ints_drop (l : List Int) (n : Nat) : (ints l).drop n = ints (l.drop n) := by simp [ints, List.map_drop]
theorem ints_take (l : List Int) (n : Nat) : (ints l).take n = ints (l.take n) := by simp [ints, List.map_take]

theorem halves_l3 {K : KC2} {hs : Hints} {r : Nat} {a b : List Int} {i k : Nat} {l : List (Int × Int)} (ha : a.length ≤ 1000000) (hb : b.length ≤ 1000000) (hlb : l.length + pre a b ≤ 1000000) (hi : i ≤ 1000000) (hk : k ≤ 1000000)
    (hK : ∀ ts loc (τ : Heap) A B, ts.length = 240 → tmp ts 0 = .bp r 0 0 → tmp ts 1 = A → tmp ts 2 = B → IsRow A (ints (a.drop (pre a b))) → IsRow B (ints (b.drop (pre a b))) → tmp ts 3 = .int .i64 ((i + pre a b : Nat) : Int) → tmp ts 4 = .int .i64 ((k + pre a b : Nat) : Int) → PR τ.next τ.obj r (l ++ np (diag (pre a b) i k)) → K.k (.exit 0) ts loc τ)
    (ts : List AV) (loc : Go.Proofs.YtinfmkmebemhcaaW.Abs.Loc) (τ : Heap) (A B : AV) (gl : ts.length = 240) (g0 : tmp ts 0 = .bp r 0 0) (g1 : tmp ts 1 = A) (g2 : tmp ts 2 = B) (hA : IsRow A (ints a)) (hB : IsRow B (ints b)) (g3 : tmp ts 3 = .int .i64 i) (g4 : tmp ts 4 = .int .i64 k) (hp : PR τ.next τ.obj r l) :
    loop2I Try.prog W0 C hs F19l3 ts loc τ := by
  refine loop2I_ind cok F19l3w (m := fun j => a.length - j) (I := fun j ts loc τ => j ≤ pre a b ∧ ts.length = 240 ∧ tmp ts 0 = .bp r 0 0 ∧ tmp ts 3 = .int .i64 ((i + j : Nat) : Int) ∧ tmp ts 4 = .int .i64 ((k + j : Nat) : Int) ∧
    PR τ.next τ.obj r (l ++ np (diag j i k)) ∧ ∃ A B, tmp ts 1 = A ∧ tmp ts 2 = B ∧ IsRow A (ints (a.drop j)) ∧ IsRow B (ints (b.drop j))) ?_ 0
    ⟨by omega, gl, g0, by simpa using g3, by simpa using g4, by simpa [diag] using hp, A, B, g1, g2, by simpa using hA, by simpa using hB⟩
  clear gl g0 g1 g2 g3 g4 hA hB hp A B ts loc τ
  rintro j ts loc τ ⟨hj, gl, g0, g3, g4, hp, A, B, g1, g2, hA, hB⟩ ih'
  have ⟨pa, pb⟩ := pre_le a b
  have lA := hA.len
  have lB := hB.len
  simp only [ints_len, List.length_drop] at lA lB
  have fin : j = pre a b → ∀ (ts' : List AV) (loc' : Go.Proofs.YtinfmkmebemhcaaW.Abs.Loc) (τ' : Heap), ts'.length = 240 → tmp ts' 0 = tmp ts 0 → tmp ts' 1 = tmp ts 1 → tmp ts' 2 = tmp ts 2 → tmp ts' 3 = tmp ts 3 → tmp ts' 4 = tmp ts 4 → τ.next ≤ τ'.next → τ'.obj = τ.obj → K.k (.exit 0) ts' loc' τ' := by
    intro e ts' loc' τ' e0 e1 e2 e3 e4 e5 e6 e7
    subst e
    exact hK ts' loc' τ' A B e0 (e1.trans g0) (e2.trans g1) (e3.trans g2) hA hB (e4.trans g3) (e5.trans g4) (by rw [e7]; exact hp.mono e6 fun q _ => rfl)
  simp (disch := first | omega | (simp only [List.length_set]; omega)) [F19l3, gl, g1, g2, lA, lB]
  by_cases h1 : 0 < a.length - j
  · simp (disch := first | omega | (simp only [List.length_set]; omega)) [gl, g1, g2, lA, lB, h1]
    by_cases h2 : 0 < b.length - j
    · obtain ⟨x, hx⟩ : ∃ x, a[j]? = some x := ⟨a[j]'(by omega), List.getElem?_eq_getElem _⟩
      obtain ⟨y, hy⟩ : ∃ y, b[j]? = some y := ⟨b[j]'(by omega), List.getElem?_eq_getElem _⟩
      have ex : (ints (a.drop j))[0]? = some [.int .i64 x] := nums_at (by simpa using hx)
      have ey : (ints (b.drop j))[0]? = some [.int .i64 y] := nums_at (by simpa using hy)
      have eA := hA.elems τ.obj
      have eB := hB.elems τ.obj
      have tA := hA.at ex
      have tB := hB.at ey
      simp (disch := first | omega | (simp only [List.length_set]; omega)) [gl, g1, g2, lA, lB, h2, eA, eB, ex, ey, tA, tB, hA.chk, hB.chk]
      intro m hm
      by_cases hxy : x = y
      · subst hxy
        have hlt : j < pre a b := by
          rcases Nat.lt_or_ge j (pre a b) with h | h
          · exact h
          · have : j = pre a b := by omega
            subst this; exact absurd rfl (pre_ne a b x x hx hy)
        obtain ⟨X, hX⟩ : ∃ X : Int, X = ((i + j : Nat) : Int) := ⟨_, rfl⟩
        obtain ⟨Y, hY⟩ : ∃ Y : Int, Y = ((k + j : Nat) : Int) := ⟨_, rfl⟩
        obtain ⟨L, hL⟩ : ∃ L, L = l ++ np (diag j i k) := ⟨_, rfl⟩
        have hLl : L.length = l.length + j := by rw [hL]; simp [diag_len]
        rw [← hX] at g3; rw [← hY] at g4; rw [← hL] at hp
        obtain ⟨tok, te, hp1⟩ := hp
        have hp2 := hp1.mono (m := m) (h' := τ.obj) (by omega) (fun q _ => rfl)
        obtain ⟨p1, p2⟩ := hp2.push X Y (id := m + 9) (m := m + 13) (by omega) (by omega) 34
        have hbx := hp1.box
        simp (disch := first | omega | (simp only [List.length_set]; omega)) [gl, g0, g1, g2, g3, g4, hbx]
        refine andI_intro ?_ ?_
        · rw [appOk_acc hp1.acc]; clear p1 p2 ih' fin; simp; omega
        simp (disch := first | omega | (simp only [List.length_set]; omega)) [gl, g0, g1, g2, g3, g4, hbx, p1, p2]
        generalize upd (accHeap (m + 9) 34 2 τ.obj [[AV.int IntKind.i64 X, AV.int IntKind.i64 Y]] (prs L) tok) r (some (AObj.box 46 [[accV (prs L ++ [[AV.int IntKind.i64 X, AV.int IntKind.i64 Y]]) (m + 9)]])) = h2 at p2
        have sA : slOk h2 1 A 1 fun n => ↑n := by rw [hA.slOk]; exact ⟨by omega, by simp; omega, by simp, fun e he => ints_one he⟩
        have sB : slOk h2 1 B 1 fun n => ↑n := by rw [hB.slOk]; exact ⟨by omega, by simp; omega, by simp, fun e he => ints_one he⟩
        have w1 : IntKind.i64.wrap (X + 1) = ((i + (j + 1) : Nat) : Int) := by rw [wrap_id (by omega) (by omega)]; omega
        have w2 : IntKind.i64.wrap (Y + 1) = ((k + (j + 1) : Nat) : Int) := by rw [wrap_id (by omega) (by omega)]; omega
        have cA := isRow_cut hA 1 (fun n => n) (by simp)
        have cB := isRow_cut hB 1 (fun n => n) (by simp)
        rw [List.take_length, ints_drop, List.drop_drop] at cA cB
        simp (disch := first | omega | (simp only [List.length_set]; omega)) [gl, g0, g1, g2, g3, g4, sA, sB, hA.chk, hB.chk, w1, w2]
        intro m2 hm2
        refine ih' (j + 1) _ _ _ (by omega) ⟨by omega, ?_⟩
        simp (disch := first | omega | (simp only [List.length_set]; omega)) [gl, g0, g1, g2, g3, g4]
        refine ⟨?_, cA, cB⟩
        have e1 := p2.mono (m := m2) (h' := h2) (by omega) (fun q _ => rfl)
        rw [hL, hX, hY, List.append_assoc, ← np_diag_step] at e1
        exact e1
      · simp (disch := first | omega | (simp only [List.length_set]; omega)) [gl, g1, g2, hxy]
        have : j = pre a b := by
          rcases Nat.lt_or_ge j (pre a b) with h | h
          · obtain ⟨z, h1, h2⟩ := pre_at a b j h
            rw [hx] at h1; rw [hy] at h2; cases h1; cases h2; exact absurd rfl hxy
          · omega
        exact fin this _ _ _ (by simp [gl]) (by simp (disch := first | omega | (simp only [List.length_set]; omega)) []) (by simp (disch := first | omega | (simp only [List.length_set]; omega)) []) (by simp (disch := first | omega | (simp only [List.length_set]; omega)) []) (by simp (disch := first | omega | (simp only [List.length_set]; omega)) []) (by simp (disch := first | omega | (simp only [List.length_set]; omega)) []) (by dsimp only; omega) rfl
    · simp (disch := first | omega | (simp only [List.length_set]; omega)) [gl, g1, g2, lA, lB, h2]
      intro m hm
      exact fin (by omega) _ _ _ (by simp [gl]) (by simp (disch := first | omega | (simp only [List.length_set]; omega)) []) (by simp (disch := first | omega | (simp only [List.length_set]; omega)) []) (by simp (disch := first | omega | (simp only [List.length_set]; omega)) []) (by simp (disch := first | omega | (simp only [List.length_set]; omega)) []) (by simp (disch := first | omega | (simp only [List.length_set]; omega)) []) (by dsimp only; omega) rfl
  · simp (disch := first | omega | (simp only [List.length_set]; omega)) [gl, g1, g2, lA, lB, h1]
    intro m hm
    exact fin (by omega) _ _ _ (by simp [gl]) (by simp (disch := first | omega | (simp only [List.length_set]; omega)) []) (by simp (disch := first | omega | (simp only [List.length_set]; omega)) []) (by simp (disch := first | omega | (simp only [List.length_set]; omega)) []) (by simp (disch := first | omega | (simp only [List.length_set]; omega)) []) (by simp (disch := first | omega | (simp only [List.length_set]; omega)) []) (by dsimp only; omega) rfl

theorem halves_l2 {K : KC2} {hs : Hints} {a b : List Int} {w0 w1 w2 w3 w4 : AV} (ha : a.length ≤ 1000000) (hb : b.length ≤ 1000000) (hA : IsRow w1 (ints a)) (hB : IsRow w2 (ints b)) {n0 : Nat} {h0 : Hp}
    (hK : ∀ ts loc (τ : Heap), ts.length = 240 → tmp ts 0 = w0 → tmp ts 1 = w1 → tmp ts 2 = w2 → tmp ts 3 = w3 → tmp ts 4 = w4 → tmp ts 10 = .int .i64 ((suf a b : Nat) : Int) → n0 ≤ τ.next → τ.obj = h0 → K.k (.exit 2) ts loc τ)
    (ts : List AV) (loc : Go.Proofs.YtinfmkmebemhcaaW.Abs.Loc) (τ : Heap) (gl : ts.length = 240) (g0 : tmp ts 0 = w0) (g1 : tmp ts 1 = w1) (g2 : tmp ts 2 = w2) (g3 : tmp ts 3 = w3) (g4 : tmp ts 4 = w4) (g10 : tmp ts 10 = .int .i64 0) (hn : n0 ≤ τ.next) (ho : τ.obj = h0) :
    loop2I Try.prog W0 C hs F19l2 ts loc τ := by
  refine loop2I_ind cok F19l2w (m := fun j => a.length - j) (I := fun j ts loc τ => j ≤ suf a b ∧ ts.length = 240 ∧ tmp ts 0 = w0 ∧ tmp ts 1 = w1 ∧ tmp ts 2 = w2 ∧ tmp ts 3 = w3 ∧ tmp ts 4 = w4 ∧ tmp ts 10 = .int .i64 (j : Int) ∧ n0 ≤ τ.next ∧ τ.obj = h0) ?_ 0
    ⟨by omega, gl, g0, g1, g2, g3, g4, by simpa using g10, hn, ho⟩
  clear gl g0 g1 g2 g3 g4 g10 hn ho ts loc τ
  rintro j ts loc τ ⟨hj, gl, g0, g1, g2, g3, g4, g10, hn, ho⟩ ih'
  have ⟨pa, pb⟩ := suf_le a b
  have lA := hA.len
  have lB := hB.len
  simp only [ints_len] at lA lB
  have fin : j = suf a b → ∀ (ts' : List AV) (loc' : Go.Proofs.YtinfmkmebemhcaaW.Abs.Loc) (τ' : Heap), ts'.length = 240 → tmp ts' 0 = tmp ts 0 → tmp ts' 1 = tmp ts 1 → tmp ts' 2 = tmp ts 2 → tmp ts' 3 = tmp ts 3 → tmp ts' 4 = tmp ts 4 → tmp ts' 10 = tmp ts 10 → τ.next ≤ τ'.next → τ'.obj = τ.obj → K.k (.exit 2) ts' loc' τ' := by
    intro e ts' loc' τ' e0 e1 e2 e3 e4 e5 e6 e7 e8
    subst e
    exact hK ts' loc' τ' e0 (e1.trans g0) (e2.trans g1) (e3.trans g2) (e4.trans g3) (e5.trans g4) (e6.trans g10) (by omega) (e8.trans ho)
  simp (disch := first | omega | (simp only [List.length_set]; omega)) [F19l2, gl, g1, g2, g10, lA, lB]
  by_cases h1 : j < a.length
  · simp (disch := first | omega | (simp only [List.length_set]; omega)) [gl, g1, g2, g10, lA, lB, h1]
    by_cases h2 : j < b.length
    · obtain ⟨x, hx⟩ : ∃ x, a[a.length - 1 - j]? = some x := ⟨a[a.length - 1 - j]'(by omega), List.getElem?_eq_getElem _⟩
      obtain ⟨y, hy⟩ : ∃ y, b[b.length - 1 - j]? = some y := ⟨b[b.length - 1 - j]'(by omega), List.getElem?_eq_getElem _⟩
      have rx : a.reverse[j]? = some x := by rw [List.getElem?_reverse h1]; exact hx
      have ry : b.reverse[j]? = some y := by rw [List.getElem?_reverse h2]; exact hy
      have ex : (ints a)[a.length - 1 - j]? = some [.int .i64 x] := nums_at hx
      have ey : (ints b)[b.length - 1 - j]? = some [.int .i64 y] := nums_at hy
      have eA := hA.elems τ.obj
      have eB := hB.elems τ.obj
      have tA := hA.at ex
      have tB := hB.at ey
      have c1 : IntKind.i64.wrap ((a.length : Int) - 1) = (a.length : Int) - 1 := wrap_id (by omega) (by omega)
      have c2 : IntKind.i64.wrap ((b.length : Int) - 1) = (b.length : Int) - 1 := wrap_id (by omega) (by omega)
      have c3 : IntKind.i64.wrap ((a.length : Int) - 1 - j) = (a.length : Int) - 1 - j := wrap_id (by omega) (by omega)
      have c4 : IntKind.i64.wrap ((b.length : Int) - 1 - j) = (b.length : Int) - 1 - j := wrap_id (by omega) (by omega)
      have c5 : ((a.length : Int) - 1 - j).toNat = a.length - 1 - j := by omega
      have c6 : ((b.length : Int) - 1 - j).toNat = b.length - 1 - j := by omega
      have c7 : (j : Int) ≤ (a.length : Int) - 1 := by omega
      have c8 : (j : Int) ≤ (b.length : Int) - 1 := by omega
      simp (disch := first | omega | (simp only [List.length_set]; omega)) [gl, g1, g2, g10, lA, lB, h2, eA, eB, ex, ey, tA, tB, hA.chk, hB.chk, c1, c2, c3, c4, c5, c6, c7, c8]
      intro m hm
      by_cases hxy : x = y
      · subst hxy
        have hlt : j < suf a b := by
          rcases Nat.lt_or_ge j (suf a b) with h | h
          · exact h
          · have : j = suf a b := by omega
            subst this; exact absurd rfl (pre_ne a.reverse b.reverse x x rx ry)
        simp (disch := first | omega | (simp only [List.length_set]; omega)) [gl, g0, g1, g2, g3, g4, g10]
        refine ih' (j + 1) _ _ _ (by omega) ⟨by omega, ?_⟩
        simp (disch := first | omega | (simp only [List.length_set]; omega)) [gl, g0, g1, g2, g3, g4, g10, wrap_id]
        exact ⟨by omega, ho⟩
      · simp (disch := first | omega | (simp only [List.length_set]; omega)) [gl, g1, g2, hxy]
        have : j = suf a b := by
          rcases Nat.lt_or_ge j (suf a b) with h | h
          · obtain ⟨z, h1, h2⟩ := pre_at a.reverse b.reverse j h
            rw [rx] at h1; rw [ry] at h2; cases h1; cases h2; exact absurd rfl hxy
          · omega
        exact fin this _ _ _ (by simp [gl]) (by simp (disch := first | omega | (simp only [List.length_set]; omega)) []) (by simp (disch := first | omega | (simp only [List.length_set]; omega)) []) (by simp (disch := first | omega | (simp only [List.length_set]; omega)) []) (by simp (disch := first | omega | (simp only [List.length_set]; omega)) []) (by simp (disch := first | omega | (simp only [List.length_set]; omega)) []) (by simp (disch := first | omega | (simp only [List.length_set]; omega)) []) (by dsimp only; omega) rfl
    · simp (disch := first | omega | (simp only [List.length_set]; omega)) [gl, g1, g2, g10, lA, lB, h2]
      intro m hm
      exact fin (by omega) _ _ _ (by simp [gl]) (by simp (disch := first | omega | (simp only [List.length_set]; omega)) []) (by simp (disch := first | omega | (simp only [List.length_set]; omega)) []) (by simp (disch := first | omega | (simp only [List.length_set]; omega)) []) (by simp (disch := first | omega | (simp only [List.length_set]; omega)) []) (by simp (disch := first | omega | (simp only [List.length_set]; omega)) []) (by simp (disch := first | omega | (simp only [List.length_set]; omega)) []) (by dsimp only; omega) rfl
  · simp (disch := first | omega | (simp only [List.length_set]; omega)) [gl, g1, g2, g10, lA, lB, h1]
    intro m hm
    exact fin (by omega) _ _ _ (by simp [gl]) (by simp (disch := first | omega | (simp only [List.length_set]; omega)) []) (by simp (disch := first | omega | (simp only [List.length_set]; omega)) []) (by simp (disch := first | omega | (simp only [List.length_set]; omega)) []) (by simp (disch := first | omega | (simp only [List.length_set]; omega)) []) (by simp (disch := first | omega | (simp only [List.length_set]; omega)) []) (by simp (disch := first | omega | (simp only [List.length_set]; omega)) []) (by dsimp only; omega) rfl

theorem halves_l1 {K : KC2} {hs : Hints} {n f q : Nat} {Y : AV} {F G : List Int} {fa fb : Nat → Nat} {w0 w3 w4 w10 w11 w14 : AV} {h0 : Hp} {n0 : Nat} (hn : n ≤ 1000000) (hY : lenOf Y = some n)
    (hf : h0 f = some (.box 3 (ints F))) (hq : h0 q = some (.box 3 (ints G))) (hF : F.length = n + 1) (hG : G.length = n + 1) (h1 : ∀ t, t ≤ n → F[t]? = some (fa t : Int)) (h2 : ∀ t, t ≤ n → G[n - t]? = some (fb t : Int)) (h3 : ∀ t, t ≤ n → fa t ≤ 1000000 ∧ fb t ≤ 1000000) (hfn : f < n0) (hqn : q < n0)
    (hK : ∀ ts loc (τ : Heap), ts.length = 240 → tmp ts 0 = w0 → tmp ts 3 = w3 → tmp ts 4 = w4 → tmp ts 10 = w10 → tmp ts 11 = w11 → tmp ts 12 = Y → tmp ts 14 = w14 → tmp ts 19 = .int .i64 ((best (fun t => fa t + fb t) n : Nat) : Int) → n0 ≤ τ.next → τ.obj = h0 → K.k (.exit 5) ts loc τ)
    (ts : List AV) (loc : Go.Proofs.YtinfmkmebemhcaaW.Abs.Loc) (τ : Heap) (gl : ts.length = 240) (g0 : tmp ts 0 = w0) (g3 : tmp ts 3 = w3) (g4 : tmp ts 4 = w4) (g10 : tmp ts 10 = w10) (g11 : tmp ts 11 = w11) (g12 : tmp ts 12 = Y) (g14 : tmp ts 14 = w14) (g15 : tmp ts 15 = .sl f 0 (n + 1)) (g18 : tmp ts 18 = .sl q 0 (n + 1)) (g19 : tmp ts 19 = .int .i64 0) (g124 : tmp ts 124 = .int .i64 ((n + 1 : Nat) : Int)) (g125 : tmp ts 125 = .int .i64 0) (hn0 : n0 ≤ τ.next) (ho : τ.obj = h0) :
    loop2I Try.prog W0 C hs F19l1 ts loc τ := by
  refine loop2I_ind cok F19l1w (m := fun j => n + 1 - j) (I := fun j ts loc τ => j ≤ n + 1 ∧ ts.length = 240 ∧ tmp ts 0 = w0 ∧ tmp ts 3 = w3 ∧ tmp ts 4 = w4 ∧ tmp ts 10 = w10 ∧ tmp ts 11 = w11 ∧ tmp ts 12 = Y ∧ tmp ts 14 = w14 ∧ tmp ts 15 = .sl f 0 (n + 1) ∧ tmp ts 18 = .sl q 0 (n + 1) ∧
    tmp ts 19 = .int .i64 ((best (fun t => fa t + fb t) (j - 1) : Nat) : Int) ∧ tmp ts 124 = .int .i64 ((n + 1 : Nat) : Int) ∧ tmp ts 125 = .int .i64 (j : Int) ∧ n0 ≤ τ.next ∧ τ.obj = h0) ?_ 0
    ⟨by omega, gl, g0, g3, g4, g10, g11, g12, g14, g15, g18, by simpa [best] using g19, g124, by simpa using g125, hn0, ho⟩
  clear gl g0 g3 g4 g10 g11 g12 g14 g15 g18 g19 g124 g125 hn0 ho ts loc τ
  rintro j ts loc τ ⟨hj, gl, g0, g3, g4, g10, g11, g12, g14, g15, g18, g19, g124, g125, hn0, ho⟩ ih'
  obtain ⟨N, hN⟩ : ∃ N, N = n + 1 := ⟨_, rfl⟩
  rw [← hN] at g124 g15 g18 hF hG hj
  simp (disch := first | omega | (simp only [List.length_set]; omega)) [F19l1, gl, g124, g125]
  by_cases hlt : j < N
  · have hb := best_le (fun t => fa t + fb t) (j - 1)
    obtain ⟨B, hB⟩ : ∃ B, B = best (fun t => fa t + fb t) (j - 1) := ⟨_, rfl⟩
    rw [← hB] at g19 hb
    have eF : elems τ.obj (.sl f 0 N) = some (ints F) := elems_boxed (by rw [ho]; exact hf) hF
    have eG : elems τ.obj (.sl q 0 N) = some (ints G) := elems_boxed (by rw [ho]; exact hq) hG
    have bF : τ.obj f = some (.box 3 (ints F)) := by rw [ho]; exact hf
    have bG : τ.obj q = some (.box 3 (ints G)) := by rw [ho]; exact hq
    have x1 := nums_at (h1 j (by omega))
    have x2 := nums_at (h2 j (by omega))
    have x3 := nums_at (h1 B (by omega))
    have x4 := nums_at (h2 B (by omega))
    have ⟨k1, k2⟩ := h3 j (by omega)
    have ⟨k3, k4⟩ := h3 B (by omega)
    have c1 : IntKind.i64.wrap ((n : Int) - (j : Int)) = ((n - j : Nat) : Int) := by rw [wrap_id (by omega) (by omega)]; omega
    have c2 : IntKind.i64.wrap ((n : Int) - (B : Int)) = ((n - B : Nat) : Int) := by rw [wrap_id (by omega) (by omega)]; omega
    have c3 : IntKind.i64.wrap ((fa j : Int) + (fb j : Int)) = (fa j : Int) + (fb j : Int) := wrap_id (by omega) (by omega)
    have c4 : IntKind.i64.wrap ((fa B : Int) + (fb B : Int)) = (fa B : Int) + (fb B : Int) := wrap_id (by omega) (by omega)
    have d1 : f < τ.next + 3 := by omega
    have d2 : q < τ.next + 3 := by omega
    simp (disch := first | omega | (simp only [List.length_set]; omega)) [hlt, gl, g12, g15, g18, g19, g125, hY, eF, eG, bF, bG, x1, x2, x3, x4, c1, c2, c3, c4, d1, d2]
    intro m hm
    have hstep : (best (fun t => fa t + fb t) (j + 1 - 1) : Nat) = if fa B + fb B < fa j + fb j then j else B := by
      cases j with
      | zero =>
        have : B = 0 := by omega
        subst this
        simp [best]
      | succ j => rw [show j + 1 + 1 - 1 = j + 1 by omega, best]; rw [show j + 1 - 1 = j by omega] at hB; rw [← hB]
    rw [hN] at g124 g15 g18
    have w1 : IntKind.i64.wrap ((j : Int) + 1) = (j : Int) + 1 := wrap_id (by omega) (by omega)
    clear x1 x2 x3 x4 eF eG bF bG c1 c2 c3 c4 d1 d2
    have hor : ¬ (fa B + fb B < fa j + fb j) ∨ fa B + fb B < fa j + fb j := by omega
    rcases hor with hgt | hgt
    · have hgt' : ¬ ((fa B : Int) + (fb B : Int) < (fa j : Int) + (fb j : Int)) := by omega
      simp (disch := first | omega | (simp only [List.length_set]; omega)) [hgt', gl, g125, g19]
      refine ih' (j + 1) _ _ _ (by omega) ⟨by omega, ?_⟩
      rw [hstep, if_neg hgt]
      simp (disch := first | omega | (simp only [List.length_set]; omega)) [gl, g0, g3, g4, g10, g11, g12, g14, g15, g18, g19, g124, g125, w1]
      exact ⟨by omega, ho⟩
    · have hgt' : (fa B : Int) + (fb B : Int) < (fa j : Int) + (fb j : Int) := by omega
      simp (disch := first | omega | (simp only [List.length_set]; omega)) [hgt', gl, g125, g19]
      refine ih' (j + 1) _ _ _ (by omega) ⟨by omega, ?_⟩
      rw [hstep, if_pos hgt]
      simp (disch := first | omega | (simp only [List.length_set]; omega)) [gl, g0, g3, g4, g10, g11, g12, g14, g15, g18, g19, g124, g125, w1]
      exact ⟨by omega, ho⟩
  · simp (disch := first | omega | (simp only [List.length_set]; omega)) [hlt, gl, g124, g125]
    have e : j = n + 1 := by omega
    subst e
    exact hK _ _ _ (by simp [gl]) (by simp (disch := first | omega | (simp only [List.length_set]; omega)) [g0]) (by simp (disch := first | omega | (simp only [List.length_set]; omega)) [g3]) (by simp (disch := first | omega | (simp only [List.length_set]; omega)) [g4]) (by simp (disch := first | omega | (simp only [List.length_set]; omega)) [g10]) (by simp (disch := first | omega | (simp only [List.length_set]; omega)) [g11]) (by simp (disch := first | omega | (simp only [List.length_set]; omega)) [g12]) (by simp (disch := first | omega | (simp only [List.length_set]; omega)) [g14]) (by simp (disch := first | omega | (simp only [List.length_set]; omega)) [g19]) (by dsimp only; omega) ho

theorem halves_l0 {K : KC2} {hs : Hints} {r e i k nx ny : Nat} {X Y : AV} {l : List (Int × Int)} (hX : lenOf X = some nx) (hY : lenOf Y = some ny) (he : e ≤ 1000000) (hl : l.length + e ≤ 2000000) (hi : i ≤ 1000000) (hk : k ≤ 1000000) (hx : nx ≤ 1000000) (hy : ny ≤ 1000000)
    (hK : ∀ ts loc (τ : Heap), ts.length = 240 → PR τ.next τ.obj r (l ++ np (diag e (i + nx) (k + ny))) → K.k (.exit 7) ts loc τ)
    (ts : List AV) (loc : Go.Proofs.YtinfmkmebemhcaaW.Abs.Loc) (τ : Heap) (gl : ts.length = 240) (g0 : tmp ts 0 = .bp r 0 0) (g3 : tmp ts 3 = .int .i64 (i : Int)) (g4 : tmp ts 4 = .int .i64 (k : Int)) (g11 : tmp ts 11 = X) (g12 : tmp ts 12 = Y) (g213 : tmp ts 213 = .int .i64 (e : Int)) (g214 : tmp ts 214 = .int .i64 0) (hp : PR τ.next τ.obj r l) :
    loop2I Try.prog W0 C hs F19l0 ts loc τ := by
  refine loop2I_ind cok F19l0w (m := fun j => e - j) (I := fun j ts loc τ => j ≤ e ∧ ts.length = 240 ∧ tmp ts 0 = .bp r 0 0 ∧ tmp ts 3 = .int .i64 (i : Int) ∧ tmp ts 4 = .int .i64 (k : Int) ∧ tmp ts 11 = X ∧ tmp ts 12 = Y ∧ tmp ts 213 = .int .i64 (e : Int) ∧ tmp ts 214 = .int .i64 (j : Int) ∧
    PR τ.next τ.obj r (l ++ np (diag j (i + nx) (k + ny)))) ?_ 0
    ⟨by omega, gl, g0, g3, g4, g11, g12, g213, by simpa using g214, by simpa [diag] using hp⟩
  clear gl g0 g3 g4 g11 g12 g213 g214 hp ts loc τ
  rintro j ts loc τ ⟨hj, gl, g0, g3, g4, g11, g12, g213, g214, hp⟩ ih'
  simp (disch := first | omega | (simp only [List.length_set]; omega)) [F19l0, gl, g213, g214]
  by_cases hlt : j < e
  · obtain ⟨L, hL⟩ : ∃ L, L = l ++ np (diag j (i + nx) (k + ny)) := ⟨_, rfl⟩
    have hLl : L.length = l.length + j := by rw [hL]; simp [diag_len]
    rw [← hL] at hp
    obtain ⟨tok, te, hp1⟩ := hp
    obtain ⟨x, hx'⟩ : ∃ x : Int, x = ((i + nx + j : Nat) : Int) := ⟨_, rfl⟩
    obtain ⟨y, hy'⟩ : ∃ y : Int, y = ((k + ny + j : Nat) : Int) := ⟨_, rfl⟩
    have w1 : IntKind.i64.wrap ((i : Int) + nx) = (i : Int) + nx := wrap_id (by omega) (by omega)
    have w2 : IntKind.i64.wrap ((k : Int) + ny) = (k : Int) + ny := wrap_id (by omega) (by omega)
    have w3 : IntKind.i64.wrap ((i : Int) + nx + j) = x := by rw [wrap_id (by omega) (by omega)]; omega
    have w4 : IntKind.i64.wrap ((k : Int) + ny + j) = y := by rw [wrap_id (by omega) (by omega)]; omega
    have hbx := hp1.box
    simp (disch := first | omega | (simp only [List.length_set]; omega)) [hlt, gl, g0, g3, g4, g11, g12, g214, hX, hY, hbx, w1, w2, w3, w4]
    refine andI_intro ?_ ?_
    · rw [appOk_acc hp1.acc]; clear ih'; simp; omega
    have hp2 := hp1.mono (m := τ.next + 1 + 2) (h' := τ.obj) (by omega) (fun q _ => rfl)
    obtain ⟨p1, p2⟩ := hp2.push x y (id := τ.next + 1 + 2 + 19) (m := τ.next + 1 + 2 + 23) (by omega) (by omega) 34
    have w5 : IntKind.i64.wrap ((j : Int) + 1) = (j : Int) + 1 := wrap_id (by omega) (by omega)
    simp (disch := first | omega | (simp only [List.length_set]; omega)) [gl, g0, g3, g4, g11, g12, g214, hbx, p1, w5]
    refine ih' (j + 1) _ _ _ (by omega) ⟨by omega, ?_⟩
    simp (disch := first | omega | (simp only [List.length_set]; omega)) [gl, g0, g3, g4, g11, g12, g213, g214]
    have e1 := p2.mono (m := τ.next + 1 + 2 + 23 + 2) (by omega) (fun q _ => rfl)
    rw [hL, hx', hy', List.append_assoc, ← np_diag_step] at e1
    rw [hL, hx', hy']
    exact e1
  · simp (disch := first | omega | (simp only [List.length_set]; omega)) [hlt, gl, g213, g214]
    have : j = e := by omega
    subst this
    exact hK _ _ _ (by simp [gl]) (hp.mono (by dsimp only; omega) fun q _ => rfl)
end Go.Proofs.Ytinfmkmebemhcaa.Lt
