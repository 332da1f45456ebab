import Derived.Test.YtbmkgpocnkiibaaLt
import Derived.Test.YtbmkgpocnkiibaaMa
import Derived.Test.YtbmkgpocnkiibaaA23
/- myers.table: its walk. -/
namespace Go.Proofs.Ytbmkgpocnkiibaa.Lt
open Go.Proofs.YtbmkgpocnkiibaaW.Abs Go
set_option maxRecDepth 100000
set_option maxHeartbeats 4000000
set_option linter.unusedSimpArgs false
set_option linter.unusedVariables false
variable {W0 : World}

theorem nums_at {l : List Int} {i : Nat} {x : Int} (h : l[i]? = some x) : (ints l)[i]? = some [.int .i64 x] := Go.Proofs.YtbmkgpocnkiibaaW.Abs.ints_at h
theorem elems_boxed {h : Hp} {id n : Nat} {ty : TypeId} {F : List Int} (e : h id = some (.box ty (ints F))) (hn : F.length = n) : elems h (.sl id 0 n) = some (ints F) := by
  simp only [elems, e]; simp [hn]
  exact List.take_of_length_le (by simp; omega)
theorem elems_upd_self {h : Hp} {id n : Nat} {ty : TypeId} {F : List Int} (hn : F.length = n) : elems (upd h id (some (.box ty (ints F)))) (.sl id 0 n) = some (ints F) := elems_boxed (ty := ty) (by simp) hn
theorem elems_upd_ne {h : Hp} {j id st n : Nat} {x : Option AObj} (hne : id ≠ j) : elems (upd h j x) (.sl id st n) = elems h (.sl id st n) := by
  simp only [elems, upd_ne hne]
theorem upd_upd_same' (h : Hp) (i : Nat) (x y : Option AObj) : upd (upd h i x) i y = upd h i y := by
  funext q; simp only [upd]; split <;> rfl
theorem setAt_ints (l : List Int) (j : Nat) (x : Int) : setAt (ints l) j 0 [.int .i64 x] = ints (l.set j x) := by
  apply List.ext_getElem?
  intro i
  rw [setAt_get]
  simp only [ints, List.getElem?_map, List.getElem?_set]
  by_cases h : j = i
  · subst h
    rw [if_pos rfl, if_pos rfl]
    by_cases h2 : j < l.length
    · simp [h2]
    · simp [h2]
  · rw [if_neg h, if_neg h]

/-- numbers that stay readable while the two boxes change -/
structure Rd (B : AV) (b : List Int) (i1 i2 : Nat) (h0 : Hp) : Prop where
  len : lenOf B = some b.length
  el : ∀ h : Hp, (∀ q, q ≠ i1 → q ≠ i2 → h q = h0 q) → elems h B = some (ints b)
  tg : ∀ h : Hp, (∀ q, q ≠ i1 → q ≠ i2 → h q = h0 q) → ∀ (k : Nat) (e : List AV), (ints b)[k]? = some e → target h (iaVal B k) = some (e, 0)
theorem Rd.row {B : AV} {b : List Int} (h : IsRow B (ints b)) (i1 i2 : Nat) (h0 : Hp) : Rd B b i1 i2 h0 :=
  ⟨by rw [h.len, ints_len], fun hp _ => h.elems hp, fun hp _ k e he => by rw [h.at he]; rfl⟩
theorem Rd.box {id n i1 i2 : Nat} {b : List Int} {h0 : Hp} {ty : TypeId} (e : h0 id = some (.box ty (ints b))) (hn : b.length = n) (h1 : id ≠ i1) (h2 : id ≠ i2) : Rd (.sl id 0 n) b i1 i2 h0 :=
  ⟨by rw [hn]; rfl, fun hp hs => elems_boxed (by rw [hs id h1 h2]; exact e) hn, fun hp hs k x he => by
    show target hp (.bp id (0 + k) 0) = _
    rw [Nat.zero_add]
    simp only [target, hs id h1 h2, e, he]; rfl⟩

theorem table_l0 {K : KC2} {hs : Hints} {B : AV} {a b : List Int} {x : Int} {iL iN : Nat} {h0 : Hp} {w0 w1 w19 w20 w21 : AV} (hne : iL ≠ iN) (hB : Rd B b iL iN h0) (hbl : b.length ≤ 1000000)
    (F : List Int) (hF : F.length = b.length + 1) (hFk : ∀ k, k ≤ b.length → F[k]? = some (lcs a (b.take k) : Int)) (hal : a.length ≤ 1000000)
    (hK : ∀ ts loc (τ : Heap) G, ts.length = 63 → tmp ts 0 = w0 → tmp ts 1 = w1 → tmp ts 5 = .sl iL 0 (b.length + 1) → tmp ts 6 = .sl iN 0 (b.length + 1) → tmp ts 19 = w19 → tmp ts 20 = w20 → tmp ts 21 = w21 → iL < τ.next → iN < τ.next → (∀ q, q ≠ iL → q ≠ iN → τ.obj q = h0 q) → τ.obj iL = some (.box 3 (ints F)) →
      τ.obj iN = some (.box 3 (ints G)) → G.length = b.length + 1 → (∀ k, k ≤ b.length → G[k]? = some (lcs (a ++ [x]) (b.take k) : Int)) → K.k (.exit 2) ts loc τ)
    (ts : List AV) (loc : Go.Proofs.YtbmkgpocnkiibaaW.Abs.Loc) (τ : Heap) (hl : ts.length = 63) (g0 : tmp ts 0 = w0) (g1 : tmp ts 1 = w1) (g5 : tmp ts 5 = .sl iL 0 (b.length + 1)) (g6 : tmp ts 6 = .sl iN 0 (b.length + 1)) (g8 : tmp ts 8 = .int .i64 x) (g19 : tmp ts 19 = w19) (g20 : tmp ts 20 = w20) (g21 : tmp ts 21 = w21) (g25 : tmp ts 25 = B) (g26 : tmp ts 26 = .int .i64 b.length) (g27 : tmp ts 27 = .int .i64 0)
    (n1 : iL < τ.next) (n2 : iN < τ.next) (ho : ∀ q, q ≠ iL → q ≠ iN → τ.obj q = h0 q) (hL : τ.obj iL = some (.box 3 (ints F))) (G0 : List Int) (hN : τ.obj iN = some (.box 3 (ints G0))) (hG0 : G0.length = b.length + 1) (hG00 : G0[0]? = some 0) : loop2I Try.prog W0 C hs F24l0 ts loc τ := by
  have base : ∀ j, j ≤ 0 → G0[j]? = some (lcs (a ++ [x]) (b.take j) : Int) := fun j hj => by
    have : j = 0 := by omega
    subst this; simpa [lcs_nil] using hG00
  refine loop2I_ind cok F24l0w (m := fun k => b.length - k) (I := fun k ts loc τ => k ≤ b.length ∧ ts.length = 63 ∧ tmp ts 0 = w0 ∧ tmp ts 1 = w1 ∧ tmp ts 5 = .sl iL 0 (b.length + 1) ∧ tmp ts 6 = .sl iN 0 (b.length + 1) ∧ tmp ts 8 = .int .i64 x ∧ tmp ts 19 = w19 ∧ tmp ts 20 = w20 ∧ tmp ts 21 = w21 ∧ tmp ts 25 = B ∧ tmp ts 26 = .int .i64 b.length ∧ tmp ts 27 = .int .i64 k ∧
    iL < τ.next ∧ iN < τ.next ∧ (∀ q, q ≠ iL → q ≠ iN → τ.obj q = h0 q) ∧ τ.obj iL = some (.box 3 (ints F)) ∧ ∃ G, τ.obj iN = some (.box 3 (ints G)) ∧ G.length = b.length + 1 ∧ ∀ j, j ≤ k → G[j]? = some (lcs (a ++ [x]) (b.take j) : Int)) ?_ 0
    ⟨by omega, hl, g0, g1, g5, g6, g8, g19, g20, g21, g25, g26, by simpa using g27, n1, n2, ho, hL, G0, hN, hG0, base⟩
  clear base hl g0 g1 g5 g6 g8 g19 g20 g21 g25 g26 g27 n1 n2 ho hL hN hG0 hG00 G0 ts loc τ
  rintro k ts loc τ ⟨hk, hl, g0, g1, g5, g6, g8, g19, g20, g21, g25, g26, g27, n1, n2, ho, hL, G, hN, hG, hGk⟩ ih'
  simp (disch := first | omega | (simp only [List.length_set]; omega)) [F24l0, hl, g26, g27]
  by_cases hlt : k < b.length
  · obtain ⟨y, hy⟩ : ∃ y, b[k]? = some y := ⟨b[k], by simp [hlt]⟩
    have hye := nums_at hy
    have eB := hB.el τ.obj ho
    have eL := elems_boxed hL hF
    have eN := elems_boxed hN hG
    have f1 := nums_at (hFk k (by omega))
    have f2 := nums_at (hFk (k + 1) (by omega))
    have q1 := nums_at (hGk k (Nat.le_refl _))
    have st := tab_step a b x y k hy
    have tB := hB.tg τ.obj ho k _ hye
    simp (disch := first | omega | (simp only [List.length_set]; omega)) [hlt, hl, g25, g27, eB, hye, tB]
    have hw1 : IntKind.i64.wrap ((k : Int) + 1) = (k : Int) + 1 := wrap_id (by omega) (by omega)
    have cc : ((k : Int) + 1).toNat = k + 1 := by omega
    have c0 : (0 : Int) ≤ (k : Int) + 1 := by omega
    obtain ⟨z, hz⟩ : ∃ z, G[k + 1]? = some z := ⟨G[k + 1]'(by omega), List.getElem?_eq_getElem _⟩
    have q2 := nums_at hz
    have d1 : iN < τ.next + 1 + 5 + 3 := by omega
    have d2 : iL < τ.next + 1 + 5 + 3 := by omega
    have go : ∀ (v : Int) (ts' : List AV) (loc' : Go.Proofs.YtbmkgpocnkiibaaW.Abs.Loc) (τ' : Heap), v = (lcs (a ++ [x]) (b.take (k + 1)) : Int) → ts'.length = 63 → tmp ts' 0 = tmp ts 0 → tmp ts' 1 = tmp ts 1 → tmp ts' 5 = tmp ts 5 → tmp ts' 6 = tmp ts 6 → tmp ts' 8 = tmp ts 8 → tmp ts' 19 = tmp ts 19 → tmp ts' 20 = tmp ts 20 → tmp ts' 21 = tmp ts 21 → tmp ts' 25 = tmp ts 25 → tmp ts' 26 = tmp ts 26 → tmp ts' 27 = .int .i64 ((k : Int) + 1) → τ.next ≤ τ'.next → τ'.obj = upd τ.obj iN (some (.box 3 (ints (G.set (k + 1) v)))) → loop2I Try.prog W0 C hs F24l0 ts' loc' τ' := by
      intro v ts' loc' τ' hv e0 e1 e2 e3 e4 e5 e6 e7 e8 e9 e10 e11 en eo
      refine ih' (k + 1) _ _ _ (by omega) ⟨by omega, e0, e1.trans g0, e2.trans g1, e3.trans g5, e4.trans g6, e5.trans g8, e6.trans g19, e7.trans g20, e8.trans g21, e9.trans g25, e10.trans g26, e11, by omega, by omega, fun q h1 h2 => by rw [eo, upd_ne h2]; exact ho q h1 h2, by rw [eo, upd_ne hne]; exact hL, G.set (k + 1) v, by rw [eo]; simp, by simp [hG], fun j hj => ?_⟩
      rw [List.getElem?_set]
      by_cases h : k + 1 = j
      · subst h; rw [if_pos rfl, if_pos (by omega), hv]
      · rw [if_neg h]; exact hGk j (by omega)
    clear ih' hK
    by_cases hxy : x = y
    · subst hxy
      simp (disch := first | omega | (simp only [List.length_set]; omega)) [hl, g5, g6, g8, g27, eL, eN, f1, q2, hL, hN, hF, hG, hw1, cc, c0]
      refine go (IntKind.i64.wrap ((lcs a (b.take k) : Int) + 1)) _ _ _ ?_ ?_ ?_ ?_ ?_ ?_ ?_ ?_ ?_ ?_ ?_ ?_ ?_ ?_ ?_
      · rw [if_pos rfl] at st
        have := (lcs_bd a (b.take k)).1
        rw [st, wrap_id (by omega) (by omega)]; simp
      · simp [hl]
      all_goals first | (dsimp only; omega) | simp (disch := first | omega | (simp only [List.length_set]; omega)) [hw1, setAt_ints]
    · simp (disch := first | omega | (simp only [List.length_set]; omega)) [hl, g5, g6, g8, g27, hxy, eL, eN, f1, f2, q1, q2, hL, hN, hF, hG, hw1, cc, c0, d1, d2]
      intro m hm
      refine go (if lcs (a ++ [x]) (b.take k) < lcs a (b.take (k + 1)) then (lcs a (b.take (k + 1)) : Int) else (lcs (a ++ [x]) (b.take k) : Int)) _ _ _ ?_ ?_ ?_ ?_ ?_ ?_ ?_ ?_ ?_ ?_ ?_ ?_ ?_ ?_ ?_
      · rw [if_neg hxy] at st
        rw [st]; split <;> omega
      · simp [hl]
      all_goals first | (dsimp only; omega) | simp (disch := first | omega | (simp only [List.length_set]; omega)) [hw1, setAt_ints]
  · simp (disch := first | omega | (simp only [List.length_set]; omega)) [hlt, hl, g26, g27]
    have : k = b.length := by omega
    subst this
    exact hK _ _ _ G (by simp [hl]) (by simp (disch := first | omega | (simp only [List.length_set]; omega)) [g0]) (by simp (disch := first | omega | (simp only [List.length_set]; omega)) [g1]) (by simp (disch := first | omega | (simp only [List.length_set]; omega)) [g5]) (by simp (disch := first | omega | (simp only [List.length_set]; omega)) [g6]) (by simp (disch := first | omega | (simp only [List.length_set]; omega)) [g19]) (by simp (disch := first | omega | (simp only [List.length_set]; omega)) [g20]) (by simp (disch := first | omega | (simp only [List.length_set]; omega)) [g21]) (by dsimp only; omega) (by dsimp only; omega) ho hL hN hG hGk

theorem Rd.swap {B : AV} {b : List Int} {i1 i2 : Nat} {h0 : Hp} (h : Rd B b i1 i2 h0) : Rd B b i2 i1 h0 :=
  ⟨h.len, fun hp hs => h.el hp fun q h1 h2 => hs q h2 h1, fun hp hs => h.tg hp fun q h1 h2 => hs q h2 h1⟩
theorem table_l1 {K : KC2} {hs : Hints} {A B : AV} {a b : List Int} {i1 i2 : Nat} {h0 : Hp} (hne : i1 ≠ i2) (hA : Rd A a i1 i2 h0) (hB : Rd B b i1 i2 h0) (hbl : b.length ≤ 1000000) (hal : a.length ≤ 1000000)
    (hK : ∀ ts loc (τ : Heap) iL F, ts.length = 63 → tmp ts 5 = .sl iL 0 (b.length + 1) → iL = i1 ∨ iL = i2 → i1 < τ.next → i2 < τ.next → (∀ q, q ≠ i1 → q ≠ i2 → τ.obj q = h0 q) → τ.obj iL = some (.box 3 (ints F)) → F.length = b.length + 1 → (∀ k, k ≤ b.length → F[k]? = some (lcs a (b.take k) : Int)) → K.k (.exit 0) ts loc τ)
    (ts : List AV) (loc : Go.Proofs.YtbmkgpocnkiibaaW.Abs.Loc) (τ : Heap) (hl : ts.length = 63) (g1 : tmp ts 1 = B) (g5 : tmp ts 5 = .sl i1 0 (b.length + 1)) (g6 : tmp ts 6 = .sl i2 0 (b.length + 1)) (g19 : tmp ts 19 = A) (g20 : tmp ts 20 = .int .i64 a.length) (g21 : tmp ts 21 = .int .i64 0)
    (n1 : i1 < τ.next) (n2 : i2 < τ.next) (ho : ∀ q, q ≠ i1 → q ≠ i2 → τ.obj q = h0 q) (hz1 : τ.obj i1 = some (.box 3 (ints (List.replicate (b.length + 1) 0)))) (hz2 : τ.obj i2 = some (.box 3 (ints (List.replicate (b.length + 1) 0)))) : loop2I Try.prog W0 C hs F24l1 ts loc τ := by
  have base : ∀ k, k ≤ b.length → (List.replicate (b.length + 1) (0 : Int))[k]? = some (lcs (a.take 0) (b.take k) : Int) := fun k hk => by
    rw [List.getElem?_replicate, if_pos (by omega)]; simp [lcs]
  refine loop2I_ind cok F24l1w (m := fun k => a.length - k) (I := fun k ts loc τ => k ≤ a.length ∧ ts.length = 63 ∧ tmp ts 1 = B ∧ tmp ts 19 = A ∧ tmp ts 20 = .int .i64 a.length ∧ tmp ts 21 = .int .i64 k ∧ i1 < τ.next ∧ i2 < τ.next ∧ (∀ q, q ≠ i1 → q ≠ i2 → τ.obj q = h0 q) ∧
    ∃ iL iN F G, ((iL = i1 ∧ iN = i2) ∨ (iL = i2 ∧ iN = i1)) ∧ tmp ts 5 = .sl iL 0 (b.length + 1) ∧ tmp ts 6 = .sl iN 0 (b.length + 1) ∧ τ.obj iL = some (.box 3 (ints F)) ∧ τ.obj iN = some (.box 3 (ints G)) ∧ F.length = b.length + 1 ∧ G.length = b.length + 1 ∧ G[0]? = some 0 ∧ ∀ k', k' ≤ b.length → F[k']? = some (lcs (a.take k) (b.take k') : Int)) ?_ 0
    ⟨by omega, hl, g1, g19, g20, by simpa using g21, n1, n2, ho, i1, i2, _, _, .inl ⟨rfl, rfl⟩, g5, g6, hz1, hz2, by simp, by simp, by simp, base⟩
  clear base hl g1 g5 g6 g19 g20 g21 n1 n2 ho hz1 hz2 ts loc τ
  rintro k ts loc τ ⟨hk, hl, g1, g19, g20, g21, n1, n2, ho, iL, iN, F, G, hp, g5, g6, hL, hN, hF, hG, hG0, hFk⟩ ih'
  have hne' : iL ≠ iN := by rcases hp with ⟨rfl, rfl⟩ | ⟨rfl, rfl⟩ <;> omega
  have hB' : Rd B b iL iN h0 := by rcases hp with ⟨rfl, rfl⟩ | ⟨rfl, rfl⟩; exact hB; exact hB.swap
  have hB1 : Rd B b iN iL h0 := hB'.swap
  have m1 : iL < τ.next := by rcases hp with ⟨rfl, rfl⟩ | ⟨rfl, rfl⟩ <;> omega
  have m2 : iN < τ.next := by rcases hp with ⟨rfl, rfl⟩ | ⟨rfl, rfl⟩ <;> omega
  have ho' : ∀ q, q ≠ iL → q ≠ iN → τ.obj q = h0 q := by rcases hp with ⟨rfl, rfl⟩ | ⟨rfl, rfl⟩; exact ho; exact fun q h1 h2 => ho q h2 h1
  simp (disch := first | omega | (simp only [List.length_set]; omega)) [F24l1, hl, g20, g21]
  by_cases hlt : k < a.length
  · obtain ⟨x, hx⟩ : ∃ x, a[k]? = some x := ⟨a[k], by simp [hlt]⟩
    have hxe := nums_at hx
    have eA := hA.el τ.obj ho
    have tA := hA.tg τ.obj ho k _ hxe
    have etk : a.take (k + 1) = a.take k ++ [x] := by rw [List.take_add_one, hx]; rfl
    have lB := hB.len
    simp (disch := first | omega | (simp only [List.length_set]; omega)) [hlt, hl, g1, g19, g21, eA, hxe, tA, lB]
    refine table_l0 (w1 := B) (w19 := A) (w20 := .int .i64 a.length) (w21 := .int .i64 (k : Int)) (a := a.take k) (x := x) hne' hB' hbl F hF hFk (by simp; omega) ?_ _ _ _ (by simp [hl]) (by simp (disch := first | omega | (simp only [List.length_set]; omega)) []; exact rfl) (by simp (disch := first | omega | (simp only [List.length_set]; omega)) [g1]) (by simp (disch := first | omega | (simp only [List.length_set]; omega)) [g5]) (by simp (disch := first | omega | (simp only [List.length_set]; omega)) [g6]) (by simp (disch := first | omega | (simp only [List.length_set]; omega)) []) (by simp (disch := first | omega | (simp only [List.length_set]; omega)) [g19]) (by simp (disch := first | omega | (simp only [List.length_set]; omega)) [g20]) (by simp (disch := first | omega | (simp only [List.length_set]; omega)) [g21]) (by simp (disch := first | omega | (simp only [List.length_set]; omega)) []) (by simp (disch := first | omega | (simp only [List.length_set]; omega)) []) (by simp (disch := first | omega | (simp only [List.length_set]; omega)) []) (by dsimp only; omega) (by dsimp only; omega) ho' hL G hN hG hG0
    intro ts2 loc2 τ2 G2 q0 r0 r1 r5 r6 r19 r20 r21 k1 k2 ho2 hL2 hN2 hG2 hGk2
    simp (disch := first | omega | (simp only [List.length_set]; omega)) [q0, r1, r5, r6, r19, r20, r21]
    rw [← etk] at hGk2
    refine ih' (k + 1) _ _ _ (by omega) ⟨by omega, ?_⟩
    simp (disch := first | omega | (simp only [List.length_set]; omega)) [q0, r1, r5, r6, r19, r20, r21, wrap_id]
    have F0 : F[0]? = some 0 := by simpa [lcs_nil] using hFk 0 (by omega)
    have c1 : i1 < τ2.next := by rcases hp with ⟨rfl, rfl⟩ | ⟨rfl, rfl⟩ <;> omega
    have c2 : i2 < τ2.next := by rcases hp with ⟨rfl, rfl⟩ | ⟨rfl, rfl⟩ <;> omega
    have c3 : ∀ q, q ≠ i1 → q ≠ i2 → τ2.obj q = h0 q := by rcases hp with ⟨rfl, rfl⟩ | ⟨rfl, rfl⟩; exact ho2; exact fun q h1 h2 => ho2 q h2 h1
    have c4 : (iN = i1 ∧ iL = i2) ∨ (iN = i2 ∧ iL = i1) := by rcases hp with ⟨h1, h2⟩ | ⟨h1, h2⟩; exact .inr ⟨h2, h1⟩; exact .inl ⟨h2, h1⟩
    exact ⟨by omega, by omega, c3, iN, iL, c4, rfl, rfl, G2, hN2, F, hL2, hG2, hF, F0, hGk2⟩
  · simp (disch := first | omega | (simp only [List.length_set]; omega)) [hlt, hl, g20, g21]
    have : k = a.length := by omega
    subst this
    rw [List.take_length] at hFk
    exact hK _ _ _ iL F (by simp [hl]) (by simp (disch := first | omega | (simp only [List.length_set]; omega)) [g5]) (by rcases hp with ⟨h, _⟩ | ⟨h, _⟩ <;> simp [h]) (by dsimp only; omega) (by dsimp only; omega) ho hL hF hFk

/-- the table's contract, over whatever heap -/
theorem table_spec {A B : AV} {a b : List Int} {n : Nat} {h0 : Hp} (hA : ∀ i1 i2, n ≤ i1 → n ≤ i2 → Rd A a i1 i2 h0) (hB : ∀ i1 i2, n ≤ i1 → n ≤ i2 → Rd B b i1 i2 h0) (hbl : b.length ≤ 1000000) (hal : a.length ≤ 1000000) :
    HCalls Try.prog W0 24 [A, B] ⟨n, h0⟩ (fun o τ' => ∃ i F, o = .ret (.sl i 0 (b.length + 1)) ∧ n ≤ i ∧ i < τ'.next ∧ (∀ q, q < n → τ'.obj q = h0 q) ∧ τ'.obj i = some (.box 3 (ints F)) ∧ F.length = b.length + 1 ∧ ∀ k, k ≤ b.length → F[k]? = some (lcs a (b.take k) : Int)) := by
  refine hcalls cok Try.func24 F24d F24e F24c F24w F24r ?_
  refine ev2I_intro ?_
  have lB := (hB n n (Nat.le_refl _) (Nat.le_refl _)).len
  have lA := (hA n n (Nat.le_refl _) (Nat.le_refl _)).len
  simp (disch := first | omega | (simp only [List.length_set]; omega)) [F24s, lB, lA, wrap_id]
  refine andI_intro (by omega) ?_
  simp (disch := first | omega | (simp only [List.length_set]; omega)) [lB, lA, wrap_id]
  refine andI_intro (by omega) ?_
  simp (disch := first | omega | (simp only [List.length_set]; omega)) [lB, lA, wrap_id]
  intro m hm
  have hrep : ([AV.int .i64 0] :: List.replicate b.length [AV.int .i64 0]) = ints (List.replicate (b.length + 1) 0) := by simp [ints, List.replicate_succ]
  rw [hrep]
  refine table_l1 (i1 := n + 1 + 3) (i2 := n + 1 + 7) (h0 := h0) (by omega) (hA _ _ (by omega) (by omega)) (hB _ _ (by omega) (by omega)) hbl hal ?_ _ _ _ (by rfl) (by rfl) (by rfl) (by rfl) (by rfl) (by rfl) (by rfl) (by dsimp only; omega) (by dsimp only; omega) (fun q h1 h2 => by dsimp only; rw [upd_ne h2, upd_ne h1]) (by simp (disch := first | omega | (simp only [List.length_set]; omega)) [upd_ne]) (by simp (disch := first | omega | (simp only [List.length_set]; omega)) [upd_ne])
  intro ts loc τ iL F gl g5 hi n1 n2 ho hL hF hFk
  simp (disch := first | omega | (simp only [List.length_set]; omega)) [g5]
  exact ⟨by omega, by omega, fun q hq => ho q (by omega) (by omega), F, hL, hF, hFk⟩
end Go.Proofs.Ytbmkgpocnkiibaa.Lt

/- slices.Index over numbers: its walk. -/
namespace Go.Proofs.Ytbmkgpocnkiibaa.Lt
open Go.Proofs.YtbmkgpocnkiibaaW.Abs Go
set_option maxRecDepth 100000
set_option maxHeartbeats 4000000
set_option linter.unusedSimpArgs false
set_option linter.unusedVariables false
variable {W0 : World}

def idxN (x : Int) (l : List Int) : Int := match idx x l with | none => -1 | some k => k
theorem index_spec (l : List Int) {L : AV} (hL : IsRow L (ints l)) (hl : l.length ≤ 1000000) (x : Int) : PCall Try.prog W0 23 [L, .int .i64 x] (.int .i64 (idxN x l)) := by
  refine pcall2 cok Try.func23 F23d F23e F23c F23w F23r (fun N => ?_)
  refine ev2I_intro ?_
  simp (disch := first | omega | (simp only [List.length_set]; omega)) [F23s, hL.len]
  refine loop2I_ind cok F23l0w (m := fun k => l.length - k) (I := fun k ts loc τ => k ≤ l.length ∧ ts.length = 19 ∧ tmp ts 0 = L ∧ tmp ts 1 = .int .i64 x ∧ tmp ts 7 = .int .i64 l.length ∧ tmp ts 8 = .int .i64 k ∧ idx x l = (idx x (l.drop k)).map (· + k)) ?_ 0 ?_
  · rintro k ts loc τ ⟨hk, g, g0, g1, g7, g8, hi⟩ ih'
    simp (disch := first | omega | (simp only [List.length_set]; omega)) [F23l0, g, g7, g8]
    by_cases hlt : k < l.length
    · obtain ⟨y, hy⟩ : ∃ y, l[k]? = some y := ⟨l[k], by simp [hlt]⟩
      have hye := nums_at hy
      rw [drop_at hy, idx] at hi
      by_cases hxy : y = x
      · subst hxy
        simp (disch := first | omega | (simp only [List.length_set]; omega)) [hlt, g, g0, g1, g8, hL.elems, hL.at hye, hye]
        simp at hi
        simp [idxN, hi]
      · have hxy' : ¬ x = y := fun h => hxy h.symm
        simp (disch := first | omega | (simp only [List.length_set]; omega)) [hlt, g, g0, g1, g8, hL.elems, hL.at hye, hye, hxy']
        refine ih' (k + 1) _ _ _ (by omega) ⟨by omega, ?_⟩
        simp (disch := first | omega | (simp only [List.length_set]; omega)) [g, g0, g1, g7, g8, wrap_id]
        rw [if_neg hxy] at hi
        rw [hi]
        cases idx x (l.drop (k + 1)) with
        | none => rfl
        | some j => simp; omega
    · simp (disch := first | omega | (simp only [List.length_set]; omega)) [hlt, g, g7, g8]
      rw [List.drop_of_length_le (by omega)] at hi
      simp [idx] at hi
      simp [idxN, hi]
  · simp
end Go.Proofs.Ytbmkgpocnkiibaa.Lt

/- slices.Clone and slices.Reverse over numbers: their walks. -/
namespace Go.Proofs.Ytbmkgpocnkiibaa.Lt
open Go.Proofs.YtbmkgpocnkiibaaW.Abs Go
set_option maxRecDepth 100000
set_option maxHeartbeats 4000000
set_option linter.unusedSimpArgs false
set_option linter.unusedVariables false
variable {W0 : World}

theorem grow_new {id : Nat} {ts : List AV} {h : Hp} {ty : TypeId} {s b : Nat} {x y : Arg} {t : Nat} {ns : List (List AV)} (hx : x.ev ts = .sl t 0 0) (hh : h t = some .nocap) (hs : srcElems h (y.ev ts) = some ns) (hne : ns ≠ []) (hl : ∀ e, e ∈ ns → e.length = s) (h1 : ns.length * b ≤ 140737488355328) (h2 : ns.length ≤ 4611686018427387904) :
    SO.ok id ts h (.grow ty s b x y) ∧ SO.val id ts h (.grow ty s b x y) = .sl id 0 ns.length ∧ SO.heap id ts h (.grow ty s b x y) = upd (upd h t none) id (some (.box ty ns)) := by
  refine ⟨growsOk_ok ?_, ?_, ?_⟩
  · rw [hx, hs]; simp only [growsOk, hh, growAt]; exact ⟨trivial, hne, hl, h1, h2⟩
  · simp only [SO.val, hx, hs, Option.getD_some, Nat.zero_add]
  · simp only [SO.heap, hx, hs, Option.getD_some, hh]

theorem clone_spec {A : AV} {l : List Int} (hA : IsRow A (ints l)) (hne : l ≠ []) (hl : l.length ≤ 1000000) (n : Nat) (h0 : Hp) :
    HCalls Try.prog W0 25 [A] ⟨n, h0⟩ (fun o τ' => ∃ i, o = .ret (.sl i 0 l.length) ∧ n ≤ i ∧ i < τ'.next ∧ (∀ q, q < n → τ'.obj q = h0 q) ∧ τ'.obj i = some (.box 3 (ints l))) := by
  refine hcalls cok Try.func25 F25d F25e F25c F25w F25r ?_
  refine ev2I_intro ?_
  have hA' : A = .row (ints l) none := by
    rcases hA with ⟨_, h⟩ | h
    · exact absurd (by cases l with | nil => rfl | cons _ _ => simp [ints] at h) hne
    · exact h
  subst hA'
  simp (disch := first | omega | (simp only [List.length_set]; omega)) [F25s]
  have hne' : ints l ≠ [] := by cases l with | nil => exact absurd rfl hne | cons _ _ => simp [ints]
  have g := fun ts hx hy => grow_new (id := n + 1 + 2 + 2) (ts := ts) (h := upd h0 (n + 3) (some .nocap)) (ty := 3) (s := 1) (b := 8) (x := .t 5) (y := .t 6) (t := n + 3) (ns := ints l) hx (by simp) hy hne' (fun e he => ints_one he) (by simp; omega) (by simp; omega)
  refine andI_intro (g _ ?_ ?_).1 ?_
  · simp
  · simp
  dsimp only
  rw [(g _ ?_ ?_).2.1, (g _ ?_ ?_).2.2]
  · simp (disch := first | omega | (simp only [List.length_set]; omega)) []
    exact ⟨by omega, fun q hq => by rw [upd_ne (by omega), upd_ne (by omega)]⟩
  all_goals simp

theorem reverse_l0 {K : KC2} {hs : Hints} {i n : Nat} {l : List Int} (hn : l.length = n) (hl : n ≤ 1000000) (h0 : Hp)
    (hK : ∀ ts loc (τ : Heap), ts.length = 28 → i < τ.next → (∀ q, q ≠ i → τ.obj q = h0 q) → τ.obj i = some (.box 3 (ints l.reverse)) → K.k (.exit 0) ts loc τ)
    (ts : List AV) (loc : Go.Proofs.YtbmkgpocnkiibaaW.Abs.Loc) (τ : Heap) (gl : ts.length = 28) (g0 : tmp ts 0 = .sl i 0 n) (g2 : tmp ts 2 = .int .i64 0) (g3 : tmp ts 3 = .int .i64 ((n : Int) - 1)) (n1 : i < τ.next) (ho : ∀ q, q ≠ i → τ.obj q = h0 q) (hb : τ.obj i = some (.box 3 (ints l))) :
    loop2I Try.prog W0 C hs F26l0 ts loc τ := by
  refine loop2I_ind cok F26l0w (m := fun k => n - k) (I := fun k ts loc τ => 2 * k ≤ n + 1 ∧ ts.length = 28 ∧ tmp ts 0 = .sl i 0 n ∧ tmp ts 2 = .int .i64 k ∧ tmp ts 3 = .int .i64 ((n : Int) - 1 - k) ∧ i < τ.next ∧ (∀ q, q ≠ i → τ.obj q = h0 q) ∧
    ∃ F, τ.obj i = some (.box 3 (ints F)) ∧ F.length = n ∧ ∀ q, q < n → F[q]? = if q < k ∨ n ≤ q + k then l[n - 1 - q]? else l[q]?) ?_ 0
    ⟨by omega, gl, g0, by simpa using g2, by simpa using g3, n1, ho, l, hb, hn, fun q hq => by rw [if_neg (by omega)]⟩
  clear gl g0 g2 g3 n1 ho hb ts loc τ
  rintro k ts loc τ ⟨hk, gl, g0, g2, g3, n1, ho, F, hb, hF, hq⟩ ih'
  simp (disch := first | omega | (simp only [List.length_set]; omega)) [F26l0, gl, g2, g3]
  by_cases hlt : 2 * k + 1 < n
  · have c1 : (k : Int) < (n : Int) - 1 - k := by omega
    have c2 : ((n : Int) - 1 - k).toNat = n - 1 - k := by omega
    have c3 : (0 : Int) ≤ (n : Int) - 1 - k := by omega
    have c4 : IntKind.i64.wrap ((n : Int) - 1 - k - 1) = (n : Int) - 1 - k - 1 := wrap_id (by omega) (by omega)
    have c5 : IntKind.i64.wrap ((k : Int) + 1) = (k : Int) + 1 := wrap_id (by omega) (by omega)
    obtain ⟨x, hx⟩ : ∃ x, l[k]? = some x := ⟨l[k]'(by omega), List.getElem?_eq_getElem _⟩
    obtain ⟨y, hy⟩ : ∃ y, l[n - 1 - k]? = some y := ⟨l[n - 1 - k]'(by omega), List.getElem?_eq_getElem _⟩
    have fx := hq k (by omega)
    have fy := hq (n - 1 - k) (by omega)
    rw [if_neg (by omega), hx] at fx
    rw [if_neg (by omega), hy] at fy
    have ex := nums_at fx
    have ey := nums_at fy
    have eF := elems_boxed hb hF
    have q2 : (ints (F.set k y))[n - 1 - k]? = some [.int .i64 y] := nums_at (by rw [List.getElem?_set, if_neg (by omega)]; exact fy)
    have eF2 : elems (upd τ.obj i (some (.box 3 (ints (F.set k y))))) (.sl i 0 n) = some (ints (F.set k y)) := elems_upd_self (by simp [hF])
    have c6 : (k : Int) ≤ (n : Int) - 1 := by omega
    have d1 : i < τ.next + 3 + 16 := by omega
    have d2 : i < τ.next + 3 := by omega
    simp (disch := first | omega | (simp only [List.length_set]; omega)) [gl, g0, g2, g3, c1, c2, c3, c6, eF, eF2, ex, ey, hb, hF, d1, d2, setAt_ints, q2]
    intro m hm
    simp (disch := first | omega | (simp only [List.length_set]; omega)) [gl, g0, g2, g3, c4, c5]
    refine ih' (k + 1) _ _ _ (by omega) ⟨by omega, ?_⟩
    simp (disch := first | omega | (simp only [List.length_set]; omega)) [gl, g0, g2, g3, c4, c5]
    refine ⟨by omega, by omega, fun q h => ?_, (F.set k y).set (n - 1 - k) x, ?_, by simp [hF], fun q hqn => ?_⟩
    · rw [upd_ne h]; exact ho q h
    · simp [setAt_ints]
    · rw [List.getElem?_set, List.getElem?_set]
      by_cases h1 : n - 1 - k = q
      · subst h1
        have e1 : n - 1 - (n - 1 - k) = k := by omega
        have e2 : n - 1 - k < k + 1 ∨ n ≤ n - 1 - k + (k + 1) := by omega
        have e3 : n - 1 - k < (F.set k y).length := by simp; omega
        rw [if_pos rfl, if_pos e3, if_pos e2, ← List.getElem?_eq_getElem, e1, hx]
      · rw [if_neg h1]
        by_cases h2 : k = q
        · subst h2
          have e2 : k < k + 1 ∨ n ≤ k + (k + 1) := by omega
          have e3 : k < F.length := by omega
          rw [if_pos rfl, if_pos e3, if_pos e2, ← List.getElem?_eq_getElem, hy]
        · rw [if_neg h2, hq q hqn]
          by_cases h3 : q < k ∨ n ≤ q + k
          · rw [if_pos h3, if_pos (by omega), ← List.getElem?_eq_getElem]
          · rw [if_neg h3, if_neg (by omega)]
  · have c1 : ¬ (k : Int) < (n : Int) - 1 - k := by omega
    simp (disch := first | omega | (simp only [List.length_set]; omega)) [gl, g0, g2, g3, c1]
    refine hK _ _ _ (by simp [gl]) (by dsimp only; omega) ho ?_
    dsimp only; rw [hb]
    congr 3
    apply List.ext_getElem?
    intro q
    by_cases hqn : q < n
    · rw [hq q hqn, List.getElem?_reverse (by omega), hn]
      split
      · rfl
      · rename_i h; congr 1; omega
    · rw [List.getElem?_eq_none (by omega), List.getElem?_eq_none (by simp; omega)]

theorem reverse_spec {i n m : Nat} {l : List Int} {h0 : Hp} (hn : l.length = n) (hl : n ≤ 1000000) (hi : i < m) (hb : h0 i = some (.box 3 (ints l))) :
    HCalls Try.prog W0 26 [.sl i 0 n] ⟨m, h0⟩ (fun o τ' => o = .ret (.tup []) ∧ (∀ q, q ≠ i → τ'.obj q = h0 q) ∧ τ'.obj i = some (.box 3 (ints l.reverse))) := by
  refine hcalls cok Try.func26 F26d F26e F26c F26w F26r ?_
  refine ev2I_intro ?_
  simp (disch := first | omega | (simp only [List.length_set]; omega)) [F26s]
  refine reverse_l0 (i := i) (n := n) (l := l) hn hl h0 ?_ _ _ _ (by rfl) (by rfl) (by rfl) (by simp (disch := first | omega | (simp only [List.length_set]; omega)) [wrap_id]) (by dsimp only; omega) (fun q _ => rfl) hb
  intro ts loc τ gl n1 ho hb'
  simp (disch := first | omega | (simp only [List.length_set]; omega)) []
  exact ⟨ho, hb'⟩
end Go.Proofs.Ytbmkgpocnkiibaa.Lt

/- myers.halves: the row of pairs that grows in its box; its loops. -/
namespace Go.Proofs.Ytbmkgpocnkiibaa.Lt
open Go.Proofs.YtbmkgpocnkiibaaW.Abs Go
set_option maxRecDepth 100000
set_option maxHeartbeats 4000000
set_option linter.unusedSimpArgs false
set_option linter.unusedVariables false
variable {W0 : World}

/-- pairs of places as pairs of numbers -/
def np (l : List (Nat × Nat)) : List (Int × Int) := l.map fun p => ((p.1 : Int), (p.2 : Int))
@[simp] theorem np_len (l : List (Nat × Nat)) : (np l).length = l.length := by simp [np]
@[simp] theorem np_nil : np [] = [] := rfl
@[simp] theorem np_app (a b : List (Nat × Nat)) : np (a ++ b) = np a ++ np b := by simp [np]
@[simp] theorem np_one (p : Nat × Nat) : np [p] = [((p.1 : Int), (p.2 : Int))] := rfl
theorem np_diag_step (j i k : Nat) : np (diag (j + 1) i k) = np (diag j i k) ++ [(((i + j : Nat) : Int), ((k + j : Nat) : Int))] := by simp [diag, List.range_succ, np]

/-- the row of pairs in its box -/
structure PR1 (n : Nat) (h : Hp) (r : Nat) (l : List (Int × Int)) (tok : Nat) (te : Option TypeId) : Prop where
  lt : r < n
  box : h r = some (.box 55 [[accV (prs l) tok]])
  tk : l ≠ [] → tok < n ∧ tok ≠ r ∧ h tok = some (.tail te 2)
def PR (n : Nat) (h : Hp) (r : Nat) (l : List (Int × Int)) : Prop := ∃ tok te, PR1 n h r l tok te
theorem PR1.mono {n m : Nat} {h h' : Hp} {r tok : Nat} {te : Option TypeId} {l : List (Int × Int)} (p : PR1 n h r l tok te) (hm : n ≤ m) (hh : ∀ q, q < n → h' q = h q) : PR1 m h' r l tok te :=
  ⟨by have := p.lt; omega, by rw [hh _ p.lt]; exact p.box, fun q => by have ⟨a, b, c⟩ := p.tk q; exact ⟨by omega, b, by rw [hh _ a]; exact c⟩⟩
theorem PR.mono {n m : Nat} {h h' : Hp} {r : Nat} {l : List (Int × Int)} (p : PR n h r l) (hm : n ≤ m) (hh : ∀ q, q < n → h' q = h q) : PR m h' r l := by
  obtain ⟨tok, te, p⟩ := p; exact ⟨tok, te, p.mono hm hh⟩
theorem PR1.acc {n : Nat} {h : Hp} {r tok : Nat} {te : Option TypeId} {l : List (Int × Int)} (p : PR1 n h r l tok te) : AccOk h 2 tok (prs l) := by
  intro hne
  have hl : l ≠ [] := fun q => hne (by rw [q]; rfl)
  rw [(p.tk hl).2.2]; rfl
theorem PR1.push {n : Nat} {h : Hp} {r tok : Nat} {te : Option TypeId} {l : List (Int × Int)} (p : PR1 n h r l tok te) (x y : Int) {id m : Nat} (hid : n ≤ id) (hm : id < m) (ty : TypeId) :
    accHeap id ty 2 h [[.int .i64 x, .int .i64 y]] (prs l) tok r = some (.box 55 [[accV (prs l) tok]]) ∧
    PR m (upd (accHeap id ty 2 h [[.int .i64 x, .int .i64 y]] (prs l) tok) r (some (.box 55 [[accV (prs l ++ [[.int .i64 x, .int .i64 y]]) id]]))) r (l ++ [(x, y)]) := by
  have h1 := p.lt
  have hne : prs l ≠ [] → l ≠ [] := fun q e => q (by rw [e]; rfl)
  refine ⟨by rw [accHeap_ne (by omega) (fun q => (p.tk (hne q)).2.1.symm)]; exact p.box, id, if prs l = [] then some ty else tailTy ty (h tok), by omega, ?_, fun _ => ⟨hm, by omega, ?_⟩⟩
  · rw [upd_same]; simp [prs]
  · rw [upd_ne (show id ≠ r by omega)]
    simp only [accHeap]
    by_cases e : prs l = []
    · rw [if_pos e, if_neg (by simp), if_pos e, upd_same]
    · rw [if_neg e, if_neg e, upd_same]

theorem isRow_cut {A : AV} {es : List (List AV)} (h : IsRow A es) (lo : Nat) (hi : Nat → Nat) (hh : hi es.length ≤ es.length) : IsRow (subVal lo hi A) ((es.take (hi es.length)).drop lo) := by
  rcases h with ⟨rfl, rfl⟩ | rfl
  · simp [IsRow]
  · right; simp
theorem ints_drop (l : List Int) (n : Nat) : (ints l).drop n = ints (l.drop n) := by simp [ints, List.map_drop]
theorem ints_take (l : List Int) (n : Nat) : (ints l).take n = ints (l.take n) := by simp [ints, List.map_take]

theorem halves_l3 {K : KC2} {hs : Hints} {r : Nat} {a b : List Int} {i k : Nat} {l : List (Int × Int)} (ha : a.length ≤ 1000000) (hb : b.length ≤ 1000000) (hlb : l.length + pre a b ≤ 1000000) (hi : i ≤ 1000000) (hk : k ≤ 1000000)
    (hK : ∀ ts loc (τ : Heap) A B, ts.length = 240 → tmp ts 0 = .bp r 0 0 → tmp ts 1 = A → tmp ts 2 = B → IsRow A (ints (a.drop (pre a b))) → IsRow B (ints (b.drop (pre a b))) → tmp ts 3 = .int .i64 ((i + pre a b : Nat) : Int) → tmp ts 4 = .int .i64 ((k + pre a b : Nat) : Int) → PR τ.next τ.obj r (l ++ np (diag (pre a b) i k)) → K.k (.exit 0) ts loc τ)
    (ts : List AV) (loc : Go.Proofs.YtbmkgpocnkiibaaW.Abs.Loc) (τ : Heap) (A B : AV) (gl : ts.length = 240) (g0 : tmp ts 0 = .bp r 0 0) (g1 : tmp ts 1 = A) (g2 : tmp ts 2 = B) (hA : IsRow A (ints a)) (hB : IsRow B (ints b)) (g3 : tmp ts 3 = .int .i64 i) (g4 : tmp ts 4 = .int .i64 k) (hp : PR τ.next τ.obj r l) :
    loop2I Try.prog W0 C hs F21l3 ts loc τ := by
  refine loop2I_ind cok F21l3w (m := fun j => a.length - j) (I := fun j ts loc τ => j ≤ pre a b ∧ ts.length = 240 ∧ tmp ts 0 = .bp r 0 0 ∧ tmp ts 3 = .int .i64 ((i + j : Nat) : Int) ∧ tmp ts 4 = .int .i64 ((k + j : Nat) : Int) ∧
    PR τ.next τ.obj r (l ++ np (diag j i k)) ∧ ∃ A B, tmp ts 1 = A ∧ tmp ts 2 = B ∧ IsRow A (ints (a.drop j)) ∧ IsRow B (ints (b.drop j))) ?_ 0
    ⟨by omega, gl, g0, by simpa using g3, by simpa using g4, by simpa [diag] using hp, A, B, g1, g2, by simpa using hA, by simpa using hB⟩
  clear gl g0 g1 g2 g3 g4 hA hB hp A B ts loc τ
  rintro j ts loc τ ⟨hj, gl, g0, g3, g4, hp, A, B, g1, g2, hA, hB⟩ ih'
  have ⟨pa, pb⟩ := pre_le a b
  have lA := hA.len
  have lB := hB.len
  simp only [ints_len, List.length_drop] at lA lB
  have fin : j = pre a b → ∀ (ts' : List AV) (loc' : Go.Proofs.YtbmkgpocnkiibaaW.Abs.Loc) (τ' : Heap), ts'.length = 240 → tmp ts' 0 = tmp ts 0 → tmp ts' 1 = tmp ts 1 → tmp ts' 2 = tmp ts 2 → tmp ts' 3 = tmp ts 3 → tmp ts' 4 = tmp ts 4 → τ.next ≤ τ'.next → τ'.obj = τ.obj → K.k (.exit 0) ts' loc' τ' := by
    intro e ts' loc' τ' e0 e1 e2 e3 e4 e5 e6 e7
    subst e
    exact hK ts' loc' τ' A B e0 (e1.trans g0) (e2.trans g1) (e3.trans g2) hA hB (e4.trans g3) (e5.trans g4) (by rw [e7]; exact hp.mono e6 fun q _ => rfl)
  simp (disch := first | omega | (simp only [List.length_set]; omega)) [F21l3, gl, g1, g2, lA, lB]
  by_cases h1 : 0 < a.length - j
  · simp (disch := first | omega | (simp only [List.length_set]; omega)) [gl, g1, g2, lA, lB, h1]
    by_cases h2 : 0 < b.length - j
    · obtain ⟨x, hx⟩ : ∃ x, a[j]? = some x := ⟨a[j]'(by omega), List.getElem?_eq_getElem _⟩
      obtain ⟨y, hy⟩ : ∃ y, b[j]? = some y := ⟨b[j]'(by omega), List.getElem?_eq_getElem _⟩
      have ex : (ints (a.drop j))[0]? = some [.int .i64 x] := nums_at (by simpa using hx)
      have ey : (ints (b.drop j))[0]? = some [.int .i64 y] := nums_at (by simpa using hy)
      have eA := hA.elems τ.obj
      have eB := hB.elems τ.obj
      have tA := hA.at ex
      have tB := hB.at ey
      simp (disch := first | omega | (simp only [List.length_set]; omega)) [gl, g1, g2, lA, lB, h2, eA, eB, ex, ey, tA, tB, hA.chk, hB.chk]
      intro m hm
      by_cases hxy : x = y
      · subst hxy
        have hlt : j < pre a b := by
          rcases Nat.lt_or_ge j (pre a b) with h | h
          · exact h
          · have : j = pre a b := by omega
            subst this; exact absurd rfl (pre_ne a b x x hx hy)
        obtain ⟨X, hX⟩ : ∃ X : Int, X = ((i + j : Nat) : Int) := ⟨_, rfl⟩
        obtain ⟨Y, hY⟩ : ∃ Y : Int, Y = ((k + j : Nat) : Int) := ⟨_, rfl⟩
        obtain ⟨L, hL⟩ : ∃ L, L = l ++ np (diag j i k) := ⟨_, rfl⟩
        have hLl : L.length = l.length + j := by rw [hL]; simp [diag_len]
        rw [← hX] at g3; rw [← hY] at g4; rw [← hL] at hp
        obtain ⟨tok, te, hp1⟩ := hp
        have hp2 := hp1.mono (m := m) (h' := τ.obj) (by omega) (fun q _ => rfl)
        obtain ⟨p1, p2⟩ := hp2.push X Y (id := m + 9) (m := m + 13) (by omega) (by omega) 31
        have hbx := hp1.box
        simp (disch := first | omega | (simp only [List.length_set]; omega)) [gl, g0, g1, g2, g3, g4, hbx]
        refine andI_intro ?_ ?_
        · rw [appOk_acc hp1.acc]; clear p1 p2 ih' fin; simp; omega
        simp (disch := first | omega | (simp only [List.length_set]; omega)) [gl, g0, g1, g2, g3, g4, hbx, p1, p2]
        generalize upd (accHeap (m + 9) 31 2 τ.obj [[AV.int IntKind.i64 X, AV.int IntKind.i64 Y]] (prs L) tok) r (some (AObj.box 55 [[accV (prs L ++ [[AV.int IntKind.i64 X, AV.int IntKind.i64 Y]]) (m + 9)]])) = h2 at p2
        have sA : slOk h2 1 A 1 fun n => ↑n := by rw [hA.slOk]; exact ⟨by omega, by simp; omega, by simp, fun e he => ints_one he⟩
        have sB : slOk h2 1 B 1 fun n => ↑n := by rw [hB.slOk]; exact ⟨by omega, by simp; omega, by simp, fun e he => ints_one he⟩
        have w1 : IntKind.i64.wrap (X + 1) = ((i + (j + 1) : Nat) : Int) := by rw [wrap_id (by omega) (by omega)]; omega
        have w2 : IntKind.i64.wrap (Y + 1) = ((k + (j + 1) : Nat) : Int) := by rw [wrap_id (by omega) (by omega)]; omega
        have cA := isRow_cut hA 1 (fun n => n) (by simp)
        have cB := isRow_cut hB 1 (fun n => n) (by simp)
        rw [List.take_length, ints_drop, List.drop_drop] at cA cB
        simp (disch := first | omega | (simp only [List.length_set]; omega)) [gl, g0, g1, g2, g3, g4, sA, sB, hA.chk, hB.chk, w1, w2]
        intro m2 hm2
        refine ih' (j + 1) _ _ _ (by omega) ⟨by omega, ?_⟩
        simp (disch := first | omega | (simp only [List.length_set]; omega)) [gl, g0, g1, g2, g3, g4]
        refine ⟨?_, cA, cB⟩
        have e1 := p2.mono (m := m2) (h' := h2) (by omega) (fun q _ => rfl)
        rw [hL, hX, hY, List.append_assoc, ← np_diag_step] at e1
        exact e1
      · simp (disch := first | omega | (simp only [List.length_set]; omega)) [gl, g1, g2, hxy]
        have : j = pre a b := by
          rcases Nat.lt_or_ge j (pre a b) with h | h
          · obtain ⟨z, h1, h2⟩ := pre_at a b j h
            rw [hx] at h1; rw [hy] at h2; cases h1; cases h2; exact absurd rfl hxy
          · omega
        exact fin this _ _ _ (by simp [gl]) (by simp (disch := first | omega | (simp only [List.length_set]; omega)) []) (by simp (disch := first | omega | (simp only [List.length_set]; omega)) []) (by simp (disch := first | omega | (simp only [List.length_set]; omega)) []) (by simp (disch := first | omega | (simp only [List.length_set]; omega)) []) (by simp (disch := first | omega | (simp only [List.length_set]; omega)) []) (by dsimp only; omega) rfl
    · simp (disch := first | omega | (simp only [List.length_set]; omega)) [gl, g1, g2, lA, lB, h2]
      intro m hm
      exact fin (by omega) _ _ _ (by simp [gl]) (by simp (disch := first | omega | (simp only [List.length_set]; omega)) []) (by simp (disch := first | omega | (simp only [List.length_set]; omega)) []) (by simp (disch := first | omega | (simp only [List.length_set]; omega)) []) (by simp (disch := first | omega | (simp only [List.length_set]; omega)) []) (by simp (disch := first | omega | (simp only [List.length_set]; omega)) []) (by dsimp only; omega) rfl
  · simp (disch := first | omega | (simp only [List.length_set]; omega)) [gl, g1, g2, lA, lB, h1]
    intro m hm
    exact fin (by omega) _ _ _ (by simp [gl]) (by simp (disch := first | omega | (simp only [List.length_set]; omega)) []) (by simp (disch := first | omega | (simp only [List.length_set]; omega)) []) (by simp (disch := first | omega | (simp only [List.length_set]; omega)) []) (by simp (disch := first | omega | (simp only [List.length_set]; omega)) []) (by simp (disch := first | omega | (simp only [List.length_set]; omega)) []) (by dsimp only; omega) rfl

theorem halves_l2 {K : KC2} {hs : Hints} {a b : List Int} {w0 w1 w2 w3 w4 : AV} (ha : a.length ≤ 1000000) (hb : b.length ≤ 1000000) (hA : IsRow w1 (ints a)) (hB : IsRow w2 (ints b)) {n0 : Nat} {h0 : Hp}
    (hK : ∀ ts loc (τ : Heap), ts.length = 240 → tmp ts 0 = w0 → tmp ts 1 = w1 → tmp ts 2 = w2 → tmp ts 3 = w3 → tmp ts 4 = w4 → tmp ts 10 = .int .i64 ((suf a b : Nat) : Int) → n0 ≤ τ.next → τ.obj = h0 → K.k (.exit 2) ts loc τ)
    (ts : List AV) (loc : Go.Proofs.YtbmkgpocnkiibaaW.Abs.Loc) (τ : Heap) (gl : ts.length = 240) (g0 : tmp ts 0 = w0) (g1 : tmp ts 1 = w1) (g2 : tmp ts 2 = w2) (g3 : tmp ts 3 = w3) (g4 : tmp ts 4 = w4) (g10 : tmp ts 10 = .int .i64 0) (hn : n0 ≤ τ.next) (ho : τ.obj = h0) :
    loop2I Try.prog W0 C hs F21l2 ts loc τ := by
  refine loop2I_ind cok F21l2w (m := fun j => a.length - j) (I := fun j ts loc τ => j ≤ suf a b ∧ ts.length = 240 ∧ tmp ts 0 = w0 ∧ tmp ts 1 = w1 ∧ tmp ts 2 = w2 ∧ tmp ts 3 = w3 ∧ tmp ts 4 = w4 ∧ tmp ts 10 = .int .i64 (j : Int) ∧ n0 ≤ τ.next ∧ τ.obj = h0) ?_ 0
    ⟨by omega, gl, g0, g1, g2, g3, g4, by simpa using g10, hn, ho⟩
  clear gl g0 g1 g2 g3 g4 g10 hn ho ts loc τ
  rintro j ts loc τ ⟨hj, gl, g0, g1, g2, g3, g4, g10, hn, ho⟩ ih'
  have ⟨pa, pb⟩ := suf_le a b
  have lA := hA.len
  have lB := hB.len
  simp only [ints_len] at lA lB
  have fin : j = suf a b → ∀ (ts' : List AV) (loc' : Go.Proofs.YtbmkgpocnkiibaaW.Abs.Loc) (τ' : Heap), ts'.length = 240 → tmp ts' 0 = tmp ts 0 → tmp ts' 1 = tmp ts 1 → tmp ts' 2 = tmp ts 2 → tmp ts' 3 = tmp ts 3 → tmp ts' 4 = tmp ts 4 → tmp ts' 10 = tmp ts 10 → τ.next ≤ τ'.next → τ'.obj = τ.obj → K.k (.exit 2) ts' loc' τ' := by
    intro e ts' loc' τ' e0 e1 e2 e3 e4 e5 e6 e7 e8
    subst e
    exact hK ts' loc' τ' e0 (e1.trans g0) (e2.trans g1) (e3.trans g2) (e4.trans g3) (e5.trans g4) (e6.trans g10) (by omega) (e8.trans ho)
  simp (disch := first | omega | (simp only [List.length_set]; omega)) [F21l2, gl, g1, g2, g10, lA, lB]
  by_cases h1 : j < a.length
  · simp (disch := first | omega | (simp only [List.length_set]; omega)) [gl, g1, g2, g10, lA, lB, h1]
    by_cases h2 : j < b.length
    · obtain ⟨x, hx⟩ : ∃ x, a[a.length - 1 - j]? = some x := ⟨a[a.length - 1 - j]'(by omega), List.getElem?_eq_getElem _⟩
      obtain ⟨y, hy⟩ : ∃ y, b[b.length - 1 - j]? = some y := ⟨b[b.length - 1 - j]'(by omega), List.getElem?_eq_getElem _⟩
      have rx : a.reverse[j]? = some x := by rw [List.getElem?_reverse h1]; exact hx
      have ry : b.reverse[j]? = some y := by rw [List.getElem?_reverse h2]; exact hy
      have ex : (ints a)[a.length - 1 - j]? = some [.int .i64 x] := nums_at hx
      have ey : (ints b)[b.length - 1 - j]? = some [.int .i64 y] := nums_at hy
      have eA := hA.elems τ.obj
      have eB := hB.elems τ.obj
      have tA := hA.at ex
      have tB := hB.at ey
      have c1 : IntKind.i64.wrap ((a.length : Int) - 1) = (a.length : Int) - 1 := wrap_id (by omega) (by omega)
      have c2 : IntKind.i64.wrap ((b.length : Int) - 1) = (b.length : Int) - 1 := wrap_id (by omega) (by omega)
      have c3 : IntKind.i64.wrap ((a.length : Int) - 1 - j) = (a.length : Int) - 1 - j := wrap_id (by omega) (by omega)
      have c4 : IntKind.i64.wrap ((b.length : Int) - 1 - j) = (b.length : Int) - 1 - j := wrap_id (by omega) (by omega)
      have c5 : ((a.length : Int) - 1 - j).toNat = a.length - 1 - j := by omega
      have c6 : ((b.length : Int) - 1 - j).toNat = b.length - 1 - j := by omega
      have c7 : (j : Int) ≤ (a.length : Int) - 1 := by omega
      have c8 : (j : Int) ≤ (b.length : Int) - 1 := by omega
      simp (disch := first | omega | (simp only [List.length_set]; omega)) [gl, g1, g2, g10, lA, lB, h2, eA, eB, ex, ey, tA, tB, hA.chk, hB.chk, c1, c2, c3, c4, c5, c6, c7, c8]
      intro m hm
      by_cases hxy : x = y
      · subst hxy
        have hlt : j < suf a b := by
          rcases Nat.lt_or_ge j (suf a b) with h | h
          · exact h
          · have : j = suf a b := by omega
            subst this; exact absurd rfl (pre_ne a.reverse b.reverse x x rx ry)
        simp (disch := first | omega | (simp only [List.length_set]; omega)) [gl, g0, g1, g2, g3, g4, g10]
        refine ih' (j + 1) _ _ _ (by omega) ⟨by omega, ?_⟩
        simp (disch := first | omega | (simp only [List.length_set]; omega)) [gl, g0, g1, g2, g3, g4, g10, wrap_id]
        exact ⟨by omega, ho⟩
      · simp (disch := first | omega | (simp only [List.length_set]; omega)) [gl, g1, g2, hxy]
        have : j = suf a b := by
          rcases Nat.lt_or_ge j (suf a b) with h | h
          · obtain ⟨z, h1, h2⟩ := pre_at a.reverse b.reverse j h
            rw [rx] at h1; rw [ry] at h2; cases h1; cases h2; exact absurd rfl hxy
          · omega
        exact fin this _ _ _ (by simp [gl]) (by simp (disch := first | omega | (simp only [List.length_set]; omega)) []) (by simp (disch := first | omega | (simp only [List.length_set]; omega)) []) (by simp (disch := first | omega | (simp only [List.length_set]; omega)) []) (by simp (disch := first | omega | (simp only [List.length_set]; omega)) []) (by simp (disch := first | omega | (simp only [List.length_set]; omega)) []) (by simp (disch := first | omega | (simp only [List.length_set]; omega)) []) (by dsimp only; omega) rfl
    · simp (disch := first | omega | (simp only [List.length_set]; omega)) [gl, g1, g2, g10, lA, lB, h2]
      intro m hm
      exact fin (by omega) _ _ _ (by simp [gl]) (by simp (disch := first | omega | (simp only [List.length_set]; omega)) []) (by simp (disch := first | omega | (simp only [List.length_set]; omega)) []) (by simp (disch := first | omega | (simp only [List.length_set]; omega)) []) (by simp (disch := first | omega | (simp only [List.length_set]; omega)) []) (by simp (disch := first | omega | (simp only [List.length_set]; omega)) []) (by simp (disch := first | omega | (simp only [List.length_set]; omega)) []) (by dsimp only; omega) rfl
  · simp (disch := first | omega | (simp only [List.length_set]; omega)) [gl, g1, g2, g10, lA, lB, h1]
    intro m hm
    exact fin (by omega) _ _ _ (by simp [gl]) (by simp (disch := first | omega | (simp only [List.length_set]; omega)) []) (by simp (disch := first | omega | (simp only [List.length_set]; omega)) []) (by simp (disch := first | omega | (simp only [List.length_set]; omega)) []) (by simp (disch := first | omega | (simp only [List.length_set]; omega)) []) (by simp (disch := first | omega | (simp only [List.length_set]; omega)) []) (by simp (disch := first | omega | (simp only [List.length_set]; omega)) []) (by dsimp only; omega) rfl

theorem halves_l1 {K : KC2} {hs : Hints} {n f q : Nat} {Y : AV} {F G : List Int} {fa fb : Nat → Nat} {w0 w3 w4 w10 w11 w14 : AV} {h0 : Hp} {n0 : Nat} (hn : n ≤ 1000000) (hY : lenOf Y = some n)
    (hf : h0 f = some (.box 3 (ints F))) (hq : h0 q = some (.box 3 (ints G))) (hF : F.length = n + 1) (hG : G.length = n + 1) (h1 : ∀ t, t ≤ n → F[t]? = some (fa t : Int)) (h2 : ∀ t, t ≤ n → G[n - t]? = some (fb t : Int)) (h3 : ∀ t, t ≤ n → fa t ≤ 1000000 ∧ fb t ≤ 1000000) (hfn : f < n0) (hqn : q < n0)
    (hK : ∀ ts loc (τ : Heap), ts.length = 240 → tmp ts 0 = w0 → tmp ts 3 = w3 → tmp ts 4 = w4 → tmp ts 10 = w10 → tmp ts 11 = w11 → tmp ts 12 = Y → tmp ts 14 = w14 → tmp ts 19 = .int .i64 ((best (fun t => fa t + fb t) n : Nat) : Int) → n0 ≤ τ.next → τ.obj = h0 → K.k (.exit 5) ts loc τ)
    (ts : List AV) (loc : Go.Proofs.YtbmkgpocnkiibaaW.Abs.Loc) (τ : Heap) (gl : ts.length = 240) (g0 : tmp ts 0 = w0) (g3 : tmp ts 3 = w3) (g4 : tmp ts 4 = w4) (g10 : tmp ts 10 = w10) (g11 : tmp ts 11 = w11) (g12 : tmp ts 12 = Y) (g14 : tmp ts 14 = w14) (g15 : tmp ts 15 = .sl f 0 (n + 1)) (g18 : tmp ts 18 = .sl q 0 (n + 1)) (g19 : tmp ts 19 = .int .i64 0) (g124 : tmp ts 124 = .int .i64 ((n + 1 : Nat) : Int)) (g125 : tmp ts 125 = .int .i64 0) (hn0 : n0 ≤ τ.next) (ho : τ.obj = h0) :
    loop2I Try.prog W0 C hs F21l1 ts loc τ := by
  refine loop2I_ind cok F21l1w (m := fun j => n + 1 - j) (I := fun j ts loc τ => j ≤ n + 1 ∧ ts.length = 240 ∧ tmp ts 0 = w0 ∧ tmp ts 3 = w3 ∧ tmp ts 4 = w4 ∧ tmp ts 10 = w10 ∧ tmp ts 11 = w11 ∧ tmp ts 12 = Y ∧ tmp ts 14 = w14 ∧ tmp ts 15 = .sl f 0 (n + 1) ∧ tmp ts 18 = .sl q 0 (n + 1) ∧
    tmp ts 19 = .int .i64 ((best (fun t => fa t + fb t) (j - 1) : Nat) : Int) ∧ tmp ts 124 = .int .i64 ((n + 1 : Nat) : Int) ∧ tmp ts 125 = .int .i64 (j : Int) ∧ n0 ≤ τ.next ∧ τ.obj = h0) ?_ 0
    ⟨by omega, gl, g0, g3, g4, g10, g11, g12, g14, g15, g18, by simpa [best] using g19, g124, by simpa using g125, hn0, ho⟩
  clear gl g0 g3 g4 g10 g11 g12 g14 g15 g18 g19 g124 g125 hn0 ho ts loc τ
  rintro j ts loc τ ⟨hj, gl, g0, g3, g4, g10, g11, g12, g14, g15, g18, g19, g124, g125, hn0, ho⟩ ih'
  obtain ⟨N, hN⟩ : ∃ N, N = n + 1 := ⟨_, rfl⟩
  rw [← hN] at g124 g15 g18 hF hG hj
  simp (disch := first | omega | (simp only [List.length_set]; omega)) [F21l1, gl, g124, g125]
  by_cases hlt : j < N
  · have hb := best_le (fun t => fa t + fb t) (j - 1)
    obtain ⟨B, hB⟩ : ∃ B, B = best (fun t => fa t + fb t) (j - 1) := ⟨_, rfl⟩
    rw [← hB] at g19 hb
    have eF : elems τ.obj (.sl f 0 N) = some (ints F) := elems_boxed (by rw [ho]; exact hf) hF
    have eG : elems τ.obj (.sl q 0 N) = some (ints G) := elems_boxed (by rw [ho]; exact hq) hG
    have bF : τ.obj f = some (.box 3 (ints F)) := by rw [ho]; exact hf
    have bG : τ.obj q = some (.box 3 (ints G)) := by rw [ho]; exact hq
    have x1 := nums_at (h1 j (by omega))
    have x2 := nums_at (h2 j (by omega))
    have x3 := nums_at (h1 B (by omega))
    have x4 := nums_at (h2 B (by omega))
    have ⟨k1, k2⟩ := h3 j (by omega)
    have ⟨k3, k4⟩ := h3 B (by omega)
    have c1 : IntKind.i64.wrap ((n : Int) - (j : Int)) = ((n - j : Nat) : Int) := by rw [wrap_id (by omega) (by omega)]; omega
    have c2 : IntKind.i64.wrap ((n : Int) - (B : Int)) = ((n - B : Nat) : Int) := by rw [wrap_id (by omega) (by omega)]; omega
    have c3 : IntKind.i64.wrap ((fa j : Int) + (fb j : Int)) = (fa j : Int) + (fb j : Int) := wrap_id (by omega) (by omega)
    have c4 : IntKind.i64.wrap ((fa B : Int) + (fb B : Int)) = (fa B : Int) + (fb B : Int) := wrap_id (by omega) (by omega)
    have d1 : f < τ.next + 3 := by omega
    have d2 : q < τ.next + 3 := by omega
    simp (disch := first | omega | (simp only [List.length_set]; omega)) [hlt, gl, g12, g15, g18, g19, g125, hY, eF, eG, bF, bG, x1, x2, x3, x4, c1, c2, c3, c4, d1, d2]
    intro m hm
    have hstep : (best (fun t => fa t + fb t) (j + 1 - 1) : Nat) = if fa B + fb B < fa j + fb j then j else B := by
      cases j with
      | zero =>
        have : B = 0 := by omega
        subst this
        simp [best]
      | succ j => rw [show j + 1 + 1 - 1 = j + 1 by omega, best]; rw [show j + 1 - 1 = j by omega] at hB; rw [← hB]
    rw [hN] at g124 g15 g18
    have w1 : IntKind.i64.wrap ((j : Int) + 1) = (j : Int) + 1 := wrap_id (by omega) (by omega)
    clear x1 x2 x3 x4 eF eG bF bG c1 c2 c3 c4 d1 d2
    have hor : ¬ (fa B + fb B < fa j + fb j) ∨ fa B + fb B < fa j + fb j := by omega
    rcases hor with hgt | hgt
    · have hgt' : ¬ ((fa B : Int) + (fb B : Int) < (fa j : Int) + (fb j : Int)) := by omega
      simp (disch := first | omega | (simp only [List.length_set]; omega)) [hgt', gl, g125, g19]
      refine ih' (j + 1) _ _ _ (by omega) ⟨by omega, ?_⟩
      rw [hstep, if_neg hgt]
      simp (disch := first | omega | (simp only [List.length_set]; omega)) [gl, g0, g3, g4, g10, g11, g12, g14, g15, g18, g19, g124, g125, w1]
      exact ⟨by omega, ho⟩
    · have hgt' : (fa B : Int) + (fb B : Int) < (fa j : Int) + (fb j : Int) := by omega
      simp (disch := first | omega | (simp only [List.length_set]; omega)) [hgt', gl, g125, g19]
      refine ih' (j + 1) _ _ _ (by omega) ⟨by omega, ?_⟩
      rw [hstep, if_pos hgt]
      simp (disch := first | omega | (simp only [List.length_set]; omega)) [gl, g0, g3, g4, g10, g11, g12, g14, g15, g18, g19, g124, g125, w1]
      exact ⟨by omega, ho⟩
  · simp (disch := first | omega | (simp only [List.length_set]; omega)) [hlt, gl, g124, g125]
    have e : j = n + 1 := by omega
    subst e
    exact hK _ _ _ (by simp [gl]) (by simp (disch := first | omega | (simp only [List.length_set]; omega)) [g0]) (by simp (disch := first | omega | (simp only [List.length_set]; omega)) [g3]) (by simp (disch := first | omega | (simp only [List.length_set]; omega)) [g4]) (by simp (disch := first | omega | (simp only [List.length_set]; omega)) [g10]) (by simp (disch := first | omega | (simp only [List.length_set]; omega)) [g11]) (by simp (disch := first | omega | (simp only [List.length_set]; omega)) [g12]) (by simp (disch := first | omega | (simp only [List.length_set]; omega)) [g14]) (by simp (disch := first | omega | (simp only [List.length_set]; omega)) [g19]) (by dsimp only; omega) ho

theorem halves_l0 {K : KC2} {hs : Hints} {r e i k nx ny : Nat} {X Y : AV} {l : List (Int × Int)} (hX : lenOf X = some nx) (hY : lenOf Y = some ny) (he : e ≤ 1000000) (hl : l.length + e ≤ 2000000) (hi : i ≤ 1000000) (hk : k ≤ 1000000) (hx : nx ≤ 1000000) (hy : ny ≤ 1000000)
    (hK : ∀ ts loc (τ : Heap), ts.length = 240 → PR τ.next τ.obj r (l ++ np (diag e (i + nx) (k + ny))) → K.k (.exit 7) ts loc τ)
    (ts : List AV) (loc : Go.Proofs.YtbmkgpocnkiibaaW.Abs.Loc) (τ : Heap) (gl : ts.length = 240) (g0 : tmp ts 0 = .bp r 0 0) (g3 : tmp ts 3 = .int .i64 (i : Int)) (g4 : tmp ts 4 = .int .i64 (k : Int)) (g11 : tmp ts 11 = X) (g12 : tmp ts 12 = Y) (g213 : tmp ts 213 = .int .i64 (e : Int)) (g214 : tmp ts 214 = .int .i64 0) (hp : PR τ.next τ.obj r l) :
    loop2I Try.prog W0 C hs F21l0 ts loc τ := by
  refine loop2I_ind cok F21l0w (m := fun j => e - j) (I := fun j ts loc τ => j ≤ e ∧ ts.length = 240 ∧ tmp ts 0 = .bp r 0 0 ∧ tmp ts 3 = .int .i64 (i : Int) ∧ tmp ts 4 = .int .i64 (k : Int) ∧ tmp ts 11 = X ∧ tmp ts 12 = Y ∧ tmp ts 213 = .int .i64 (e : Int) ∧ tmp ts 214 = .int .i64 (j : Int) ∧
    PR τ.next τ.obj r (l ++ np (diag j (i + nx) (k + ny)))) ?_ 0
    ⟨by omega, gl, g0, g3, g4, g11, g12, g213, by simpa using g214, by simpa [diag] using hp⟩
  clear gl g0 g3 g4 g11 g12 g213 g214 hp ts loc τ
  rintro j ts loc τ ⟨hj, gl, g0, g3, g4, g11, g12, g213, g214, hp⟩ ih'
  simp (disch := first | omega | (simp only [List.length_set]; omega)) [F21l0, gl, g213, g214]
  by_cases hlt : j < e
  · obtain ⟨L, hL⟩ : ∃ L, L = l ++ np (diag j (i + nx) (k + ny)) := ⟨_, rfl⟩
    have hLl : L.length = l.length + j := by rw [hL]; simp [diag_len]
    rw [← hL] at hp
    obtain ⟨tok, te, hp1⟩ := hp
    obtain ⟨x, hx'⟩ : ∃ x : Int, x = ((i + nx + j : Nat) : Int) := ⟨_, rfl⟩
    obtain ⟨y, hy'⟩ : ∃ y : Int, y = ((k + ny + j : Nat) : Int) := ⟨_, rfl⟩
    have w1 : IntKind.i64.wrap ((i : Int) + nx) = (i : Int) + nx := wrap_id (by omega) (by omega)
    have w2 : IntKind.i64.wrap ((k : Int) + ny) = (k : Int) + ny := wrap_id (by omega) (by omega)
    have w3 : IntKind.i64.wrap ((i : Int) + nx + j) = x := by rw [wrap_id (by omega) (by omega)]; omega
    have w4 : IntKind.i64.wrap ((k : Int) + ny + j) = y := by rw [wrap_id (by omega) (by omega)]; omega
    have hbx := hp1.box
    simp (disch := first | omega | (simp only [List.length_set]; omega)) [hlt, gl, g0, g3, g4, g11, g12, g214, hX, hY, hbx, w1, w2, w3, w4]
    refine andI_intro ?_ ?_
    · rw [appOk_acc hp1.acc]; clear ih'; simp; omega
    have hp2 := hp1.mono (m := τ.next + 1 + 2) (h' := τ.obj) (by omega) (fun q _ => rfl)
    obtain ⟨p1, p2⟩ := hp2.push x y (id := τ.next + 1 + 2 + 19) (m := τ.next + 1 + 2 + 23) (by omega) (by omega) 31
    have w5 : IntKind.i64.wrap ((j : Int) + 1) = (j : Int) + 1 := wrap_id (by omega) (by omega)
    simp (disch := first | omega | (simp only [List.length_set]; omega)) [gl, g0, g3, g4, g11, g12, g214, hbx, p1, w5]
    refine ih' (j + 1) _ _ _ (by omega) ⟨by omega, ?_⟩
    simp (disch := first | omega | (simp only [List.length_set]; omega)) [gl, g0, g3, g4, g11, g12, g213, g214]
    have e1 := p2.mono (m := τ.next + 1 + 2 + 23 + 2) (by omega) (fun q _ => rfl)
    rw [hL, hx', hy', List.append_assoc, ← np_diag_step] at e1
    rw [hL, hx', hy']
    exact e1
  · simp (disch := first | omega | (simp only [List.length_set]; omega)) [hlt, gl, g213, g214]
    have : j = e := by omega
    subst this
    exact hK _ _ _ (by simp [gl]) (hp.mono (by dsimp only; omega) fun q _ => rfl)
end Go.Proofs.Ytbmkgpocnkiibaa.Lt

/- myers.halves: its walk. -/
namespace Go.Proofs.Ytbmkgpocnkiibaa.Lt
open Go.Proofs.YtbmkgpocnkiibaaW.Abs Go
set_option maxRecDepth 100000
set_option maxHeartbeats 4000000
set_option linter.unusedSimpArgs false
set_option linter.unusedVariables false
variable {W0 : World}

/-- what stands between the two ends -/
def midP (x y : List Int) (i k : Nat) : List (Nat × Nat) := if x = [] ∨ y = [] then [] else if x.length = 1 then (match idx (x.headD 0) y with | none => [] | some t => [(i, k + t)]) else
  hvO (x.take (x.length / 2)) (y.take (cutB x y)) i k ++ hvO (x.drop (x.length / 2)) (y.drop (cutB x y)) (i + x.length / 2) (k + cutB x y)
theorem hvO_mid (a b : List Int) (i k : Nat) : hvO a b i k = diag (pre a b) i k ++ midP (midA a b) (midB a b) (i + pre a b) (k + pre a b) ++ diag (endN a b) (i + pre a b + (midA a b).length) (k + pre a b + (midB a b).length) := hvO_eq a b i k

theorem PR.bound {n m : Nat} {h : Hp} {r : Nat} {l : List (Int × Int)} (p : PR n h r l) (hb : ∀ i x, h i = some x → i < m) : PR m h r l := by
  obtain ⟨tok, te, p⟩ := p
  exact ⟨tok, te, hb _ _ p.box, p.box, fun q => ⟨hb _ _ (p.tk q).2.2, (p.tk q).2⟩⟩
abbrev HR (r : Nat) (l : List (Int × Int)) : AOut → Heap → Prop := fun o τ' => o = .ret (.tup []) ∧ PR τ'.next τ'.obj r l

theorem halves_spec : ∀ (f : Nat) (a b : List Int) (i k n : Nat) (A B : AV) (h : Hp) (r : Nat) (l : List (Int × Int)), a.length < f → IsRow A (ints a) → IsRow B (ints b) → a.length ≤ 100000 → b.length ≤ 100000 → i + a.length ≤ 1000000 → k + b.length ≤ 1000000 → l.length + a.length ≤ 1000000 → PR n h r l →
    HCalls Try.prog W0 21 [.bp r 0 0, A, B, .int .i64 (i : Int), .int .i64 (k : Int)] ⟨n, h⟩ (HR r (l ++ np (hvO a b i k)))
  | 0, a, b, i, k, n, A, B, h, r, l, hf, _, _, _, _, _, _, _, _ => by omega
  | f + 1, a, b, i, k, n, A, B, h, r, l, hf, hA, hB, ha, hb, hi, hk, hlb, hp => by
    have ih := halves_spec f
    have ⟨m1, m2⟩ := mid_len a b
    have ⟨p1, p2⟩ := pre_le a b
    obtain ⟨p, hpp⟩ : ∃ p, p = pre a b := ⟨_, rfl⟩
    obtain ⟨e, he⟩ : ∃ e, e = endN a b := ⟨_, rfl⟩
    obtain ⟨x, hx⟩ : ∃ x, x = midA a b := ⟨_, rfl⟩
    obtain ⟨y, hy⟩ : ∃ y, y = midB a b := ⟨_, rfl⟩
    rw [hvO_mid, ← hpp, ← he, ← hx, ← hy]
    rw [← hpp, ← he, ← hx] at m1
    rw [← hpp, ← he, ← hy] at m2
    rw [← hpp] at p1 p2
    refine hcalls cok Try.func21 F21d F21e F21c F21w F21r ?_
    refine ev2I_intro ?_
    simp (disch := first | omega | (simp only [List.length_set]; omega)) [F21s]
    refine halves_l3 (r := r) (a := a) (b := b) (i := i) (k := k) (l := l) (by omega) (by omega) (by omega) (by omega) (by omega) ?_ _ _ _ A B (by rfl) (by rfl) (by rfl) (by rfl) hA hB (by rfl) (by rfl) hp
    intro ts loc τ A1 B1 gl g0 g1 g2 hA1 hB1 g3 g4 hp1
    rw [← hpp] at hA1 hB1 g3 g4 hp1
    obtain ⟨i1, hi1⟩ : ∃ i1, i1 = i + p := ⟨_, rfl⟩
    obtain ⟨k1, hk1⟩ : ∃ k1, k1 = k + p := ⟨_, rfl⟩
    rw [← hi1] at g3 ⊢; rw [← hk1] at g4 ⊢
    simp (disch := first | omega | (simp only [List.length_set]; omega)) [gl, g0, g1, g2, g3, g4]
    refine halves_l2 (a := a.drop p) (b := b.drop p) (w0 := .bp r 0 0) (w1 := A1) (w2 := B1) (w3 := .int .i64 (i1 : Int)) (w4 := .int .i64 (k1 : Int)) (n0 := τ.next) (h0 := τ.obj) (by simp; omega) (by simp; omega) hA1 hB1 ?_ _ _ _ (by simp [gl]) (by simp (disch := first | omega | (simp only [List.length_set]; omega)) [g0]) (by simp (disch := first | omega | (simp only [List.length_set]; omega)) [g1]) (by simp (disch := first | omega | (simp only [List.length_set]; omega)) [g2]) (by simp (disch := first | omega | (simp only [List.length_set]; omega)) [g3]) (by simp (disch := first | omega | (simp only [List.length_set]; omega)) [g4]) (by simp (disch := first | omega | (simp only [List.length_set]; omega)) []) (by dsimp only; omega) rfl
    clear g0 g1 g2 g3 g4 gl ts loc
    intro ts loc τ2 gl g0 g1 g2 g3 g4 g10 hn2 ho2
    have hee : suf (a.drop p) (b.drop p) = e := by rw [he, endN, ← hpp]
    rw [hee] at g10
    have hp2 : PR τ2.next τ2.obj r (l ++ np (diag p i k)) := hp1.mono hn2 fun q _ => by rw [ho2]
    clear hp1 hn2 ho2
    have lA := hA1.len
    have lB := hB1.len
    simp only [ints_len] at lA lB
    obtain ⟨na, hna⟩ : ∃ na, na = (a.drop p).length := ⟨_, rfl⟩
    obtain ⟨nb, hnb⟩ : ∃ nb, nb = (b.drop p).length := ⟨_, rfl⟩
    rw [← hna] at lA; rw [← hnb] at lB
    have na1 : na = x.length + e := by rw [hna]; simp; omega
    have nb1 : nb = y.length + e := by rw [hnb]; simp; omega
    have c1 : IntKind.i64.wrap ((na : Int) - e) = ((na - e : Nat) : Int) := by rw [wrap_id (by omega) (by omega)]; omega
    have c2 : IntKind.i64.wrap ((nb : Int) - e) = ((nb - e : Nat) : Int) := by rw [wrap_id (by omega) (by omega)]; omega
    have sA : slOk τ2.obj 1 A1 0 fun n => ((na - e : Nat) : Int) := by rw [hA1.slOk]; exact ⟨by omega, by omega, by rw [ints_len, ← hna]; omega, fun e he => ints_one he⟩
    have sB : slOk τ2.obj 1 B1 0 fun n => ((nb - e : Nat) : Int) := by rw [hB1.slOk]; exact ⟨by omega, by omega, by rw [ints_len, ← hnb]; omega, fun e he => ints_one he⟩
    have cA := isRow_cut hA1 0 (fun _ => na - e) (by simp only [ints_len, ← hna]; omega)
    have cB := isRow_cut hB1 0 (fun _ => nb - e) (by simp only [ints_len, ← hnb]; omega)
    rw [List.drop_zero, ints_take] at cA cB
    have hxe : (a.drop p).take (na - e) = x := by rw [hx, midA, ← hpp, hna, hee]
    have hye : (b.drop p).take (nb - e) = y := by rw [hy, midB, ← hpp, hnb, hee]
    rw [hxe] at cA; rw [hye] at cB
    simp (disch := first | omega | (simp only [List.length_set]; omega)) [gl, g0, g1, g2, g3, g4, g10, lA, lB, c1, c2, sA, sB, hA1.chk, hB1.chk]
    intro m hm
    generalize subVal 0 (fun _ => na - e) A1 = X at cA ⊢
    generalize subVal 0 (fun _ => nb - e) B1 = Y at cB ⊢
    have lX := cA.len
    have lY := cB.len
    simp only [ints_len] at lX lY
    have hp3 : PR m τ2.obj r (l ++ np (diag p i k)) := hp2.mono (by omega) fun q _ => rfl
    generalize τ2.obj = h2 at hp3 ⊢
    have hLl : (l ++ np (diag p i k)).length = l.length + p := by simp [diag_len]
    have hfin : l ++ np (diag p i k ++ midP x y i1 k1 ++ diag e (i1 + x.length) (k1 + y.length)) = l ++ np (diag p i k) ++ np (midP x y i1 k1) ++ np (diag e (i1 + x.length) (k1 + y.length)) := by simp
    rw [hfin]
    generalize l ++ np (diag p i k) = L at hp3 hLl ⊢
    clear hfin hp2 sA sB hA1 hB1 lA lB c1 c2 hee hxe hye hA hB hp
    have hfe : e ≤ 1000000 := by omega
    by_cases hx0 : x = []
    · have hz : x.length = 0 := by rw [hx0]; rfl
      have hM : midP x y i1 k1 = [] := by rw [midP, if_pos (.inl hx0)]
      rw [hM, np_nil, List.append_nil]
      simp (disch := first | omega | (simp only [List.length_set]; omega)) [gl, g0, g3, g4, g10, lX, lY, hz]
      refine halves_l0 (r := r) (e := e) (i := i1) (k := k1) (nx := x.length) (ny := y.length) (X := X) (Y := Y) (l := L) lX lY hfe (by omega) (by omega) (by omega) (by omega) (by omega) ?_ _ _ _ (by simp [gl]) (by simp (disch := first | omega | (simp only [List.length_set]; omega)) [g0]) (by simp (disch := first | omega | (simp only [List.length_set]; omega)) [g3]) (by simp (disch := first | omega | (simp only [List.length_set]; omega)) [g4]) (by simp (disch := first | omega | (simp only [List.length_set]; omega)) []) (by simp (disch := first | omega | (simp only [List.length_set]; omega)) []) (by simp (disch := first | omega | (simp only [List.length_set]; omega)) [g10]) (by simp (disch := first | omega | (simp only [List.length_set]; omega)) []) (hp3.mono (by dsimp only; omega) fun q _ => rfl)
      intro ts loc τ gl hp
      simp (disch := first | omega | (simp only [List.length_set]; omega)) []
      exact ⟨rfl, hp⟩
    · have hz : x.length ≠ 0 := fun q => hx0 (List.eq_nil_of_length_eq_zero q)
      by_cases hy0 : y = []
      · have hzy : y.length = 0 := by rw [hy0]; rfl
        have hM : midP x y i1 k1 = [] := by rw [midP, if_pos (.inr hy0)]
        rw [hM, np_nil, List.append_nil]
        simp (disch := first | omega | (simp only [List.length_set]; omega)) [gl, g0, g3, g4, g10, lX, lY, hz, hzy]
        refine halves_l0 (r := r) (e := e) (i := i1) (k := k1) (nx := x.length) (ny := y.length) (X := X) (Y := Y) (l := L) lX lY hfe (by omega) (by omega) (by omega) (by omega) (by omega) ?_ _ _ _ (by simp [gl]) (by simp (disch := first | omega | (simp only [List.length_set]; omega)) [g0]) (by simp (disch := first | omega | (simp only [List.length_set]; omega)) [g3]) (by simp (disch := first | omega | (simp only [List.length_set]; omega)) [g4]) (by simp (disch := first | omega | (simp only [List.length_set]; omega)) []) (by simp (disch := first | omega | (simp only [List.length_set]; omega)) []) (by simp (disch := first | omega | (simp only [List.length_set]; omega)) [g10]) (by simp (disch := first | omega | (simp only [List.length_set]; omega)) []) (hp3.mono (by dsimp only; omega) fun q _ => rfl)
        intro ts loc τ gl hp
        simp (disch := first | omega | (simp only [List.length_set]; omega)) []
        exact ⟨rfl, hp⟩
      · have hzy : y.length ≠ 0 := fun q => hy0 (List.eq_nil_of_length_eq_zero q)
        simp (disch := first | omega | (simp only [List.length_set]; omega)) [gl, g0, g3, g4, g10, lX, lY, hz, hzy]
        by_cases hx1 : x.length = 1
        · have hx1' : (x.length : Int) = 1 := by omega
          obtain ⟨v, hv⟩ : ∃ v, x = [v] := by
            cases x with
            | nil => exact absurd rfl hx0
            | cons v r => cases r with
              | nil => exact ⟨v, rfl⟩
              | cons _ _ => simp at hx1
          have hx0e : (ints x)[0]? = some [.int .i64 v] := nums_at (by rw [hv]; rfl)
          have tX := cA.at hx0e
          have eX := cA.elems h2
          simp (disch := first | omega | (simp only [List.length_set]; omega)) [gl, g0, g3, g4, g10, hx1', eX, hx0e, tX]
          refine hcallI_pure (index_spec y cB (by omega) v) (by rcases cB with ⟨q, _⟩ | q <;> simp [q]) (fun m2 hm2 => ?_)
          cases hix : idx v y with
          | none =>
            have hM : midP x y i1 k1 = [] := by rw [midP, if_neg (by simp [hx0, hy0]), if_pos hx1, hv]; simp [hix]
            rw [hM, np_nil, List.append_nil]
            have hN : idxN v y = -1 := by simp [idxN, hix]
            simp (disch := first | omega | (simp only [List.length_set]; omega)) [gl, g0, g3, g4, g10, hN]
            refine halves_l0 (r := r) (e := e) (i := i1) (k := k1) (nx := x.length) (ny := y.length) (X := X) (Y := Y) (l := L) lX lY hfe (by omega) (by omega) (by omega) (by omega) (by omega) ?_ _ _ _ (by simp [gl]) (by simp (disch := first | omega | (simp only [List.length_set]; omega)) [g0]) (by simp (disch := first | omega | (simp only [List.length_set]; omega)) [g3]) (by simp (disch := first | omega | (simp only [List.length_set]; omega)) [g4]) (by simp (disch := first | omega | (simp only [List.length_set]; omega)) []) (by simp (disch := first | omega | (simp only [List.length_set]; omega)) []) (by simp (disch := first | omega | (simp only [List.length_set]; omega)) [g10]) (by simp (disch := first | omega | (simp only [List.length_set]; omega)) []) (hp3.mono (by dsimp only at *; omega) fun q _ => rfl)
            intro ts loc τ gl hp
            simp (disch := first | omega | (simp only [List.length_set]; omega)) []
            exact ⟨rfl, hp⟩
          | some t =>
            have hM : midP x y i1 k1 = [(i1, k1 + t)] := by rw [midP, if_neg (by simp [hx0, hy0]), if_pos hx1, hv]; simp [hix]
            rw [hM, np_one]
            have hN : idxN v y = (t : Int) := by simp [idxN, hix]
            obtain ⟨tok, te, hp4⟩ := hp3
            have hbx := hp4.box
            have hp5 := hp4.mono (m := m2 + 2) (h' := h2) (by dsimp only at *; omega) (fun q _ => rfl)
            have hty : t < y.length := (List.getElem?_eq_some_iff.1 (idx_some v y t hix)).1
            have w1 : IntKind.i64.wrap ((k1 : Int) + t) = ((k1 + t : Nat) : Int) := by rw [wrap_id (by omega) (by omega)]; omega
            obtain ⟨q1, q2⟩ := hp5.push (i1 : Int) ((k1 + t : Nat) : Int) (id := m2 + 2 + 11) (m := m2 + 2 + 15) (by omega) (by omega) 31
            obtain ⟨z, hz'⟩ : ∃ z : Int, z = ((k1 + t : Nat) : Int) := ⟨_, rfl⟩
            simp only [← hz'] at w1 q1 q2 ⊢
            simp (disch := first | omega | (simp only [List.length_set]; omega)) [gl, g0, g3, g4, g10, hN, hbx, w1]
            refine andI_intro ?_ ?_
            · rw [appOk_acc hp4.acc]; clear q1 q2 ih; simp; omega
            simp (disch := first | omega | (simp only [List.length_set]; omega)) [gl, g0, g3, g4, g10, hN, hbx, w1, q1]
            refine halves_l0 (r := r) (e := e) (i := i1) (k := k1) (nx := x.length) (ny := y.length) (X := X) (Y := Y) (l := L ++ [((i1 : Int), z)]) lX lY hfe (by simp; omega) (by omega) (by omega) (by omega) (by omega) ?_ _ _ _ (by simp [gl]) (by simp (disch := first | omega | (simp only [List.length_set]; omega)) [g0]) (by simp (disch := first | omega | (simp only [List.length_set]; omega)) [g3]) (by simp (disch := first | omega | (simp only [List.length_set]; omega)) [g4]) (by simp (disch := first | omega | (simp only [List.length_set]; omega)) []) (by simp (disch := first | omega | (simp only [List.length_set]; omega)) []) (by simp (disch := first | omega | (simp only [List.length_set]; omega)) [g10]) (by simp (disch := first | omega | (simp only [List.length_set]; omega)) []) (q2.mono (by dsimp only at *; omega) fun q _ => rfl)
            intro ts loc τ gl hp
            simp (disch := first | omega | (simp only [List.length_set]; omega)) []
            exact ⟨rfl, by rw [hz'] at hp; simpa using hp⟩
        · have hx1' : ¬ (x.length : Int) = 1 := by omega
          have hM : midP x y i1 k1 = hvO (x.take (x.length / 2)) (y.take (cutB x y)) i1 k1 ++ hvO (x.drop (x.length / 2)) (y.drop (cutB x y)) (i1 + x.length / 2) (k1 + cutB x y) := by rw [midP, if_neg (by simp [hx0, hy0]), if_neg hx1]
          rw [hM]
          clear hM
          obtain ⟨d, hd⟩ : ∃ d, d = x.length / 2 := ⟨_, rfl⟩
          obtain ⟨c, hc⟩ : ∃ c, c = cutB x y := ⟨_, rfl⟩
          rw [← hd, ← hc]
          have wd : IntKind.i64.wrap ((x.length : Int) / 2) = (d : Int) := by rw [wrap_id (by omega) (by omega)]; omega
          have sX : slOk h2 1 X 0 fun n => (d : Int) := by rw [cA.slOk]; exact ⟨by omega, by omega, by simp; omega, fun e he => ints_one he⟩
          have cX1 := isRow_cut cA 0 (fun _ => d) (by simp; omega)
          have cX2 := isRow_cut cA d (fun n => n) (by simp)
          rw [List.drop_zero, ints_take] at cX1
          rw [List.take_length, ints_drop] at cX2
          simp (disch := first | omega | (simp only [List.length_set]; omega)) [gl, g0, g3, g4, g10, lX, lY, hx1', wd, sX]
          generalize subVal 0 (fun _ => d) X = X1 at cX1 ⊢
          refine hcallI_use (table_spec (a := x.take d) (b := y) (fun i1 i2 _ _ => Rd.row cX1 i1 i2 _) (fun i1 i2 _ _ => Rd.row cB i1 i2 _) (by omega) (by simp; omega)) (by simp [cX1.same (ints_bare _), cB.same (ints_bare _)]) (fun o τ' hn' hQ => ?_)
          obtain ⟨iF, F, rfl, f1, f2, f3, f4, f5, f6⟩ := hQ
          have hp4 : PR τ'.next τ'.obj r L := hp3.mono (by dsimp only at *; omega) fun q hq => f3 q (by omega)
          have sX2 : slOk τ'.obj 1 X (d : Int) fun n => (n : Int) := by rw [cA.slOk]; exact ⟨by omega, by simp; omega, by simp, fun e he => ints_one he⟩
          dsimp only at hn' f1 f2
          simp (disch := first | omega | (simp only [List.length_set]; omega)) [gl, g0, g3, g4, g10, sX2]
          generalize subVal d (fun n => n) X = X2 at cX2 ⊢
          refine hcallI_use (clone_spec cX2 (fun q => by have := congrArg List.length q; simp at this; omega) (by simp; omega) _ _) (by simp [cX2.same (ints_bare _)]) (fun o τ3 hn3 hQ => ?_)
          obtain ⟨iU, rfl, u1, u2, u3, u4⟩ := hQ
          dsimp only at hn3 u1 u2
          simp (disch := first | omega | (simp only [List.length_set]; omega)) [gl, g0, g3, g4, g10]
          refine hcallI_use (clone_spec cB hy0 (by omega) _ _) (by simp [cB.same (ints_bare _)]) (fun o τ4 hn4 hQ => ?_)
          obtain ⟨iV, rfl, v1, v2, v3, v4⟩ := hQ
          dsimp only at hn4 v1 v2
          simp (disch := first | omega | (simp only [List.length_set]; omega)) [gl, g0, g3, g4, g10]
          have bU : τ4.obj iU = some (.box 3 (ints (x.drop d))) := by rw [v3 _ (by omega)]; exact u4
          refine hcallI_use (reverse_spec (n := x.length - d) (l := x.drop d) (by simp) (by omega) (by omega) bU) (by simp) (fun o τ5 hn5 hQ => ?_)
          obtain ⟨rfl, a3, a4⟩ := hQ
          dsimp only at hn5
          simp (disch := first | omega | (simp only [List.length_set]; omega)) [gl, g0, g3, g4, g10]
          have bV : τ5.obj iV = some (.box 3 (ints y)) := by rw [a3 _ (by omega)]; exact v4
          refine hcallI_use (reverse_spec (n := y.length) (l := y) rfl (by omega) (by omega) bV) (by simp) (fun o τ6 hn6 hQ => ?_)
          obtain ⟨rfl, b3, b4⟩ := hQ
          dsimp only at hn6
          simp (disch := first | omega | (simp only [List.length_set]; omega)) [gl, g0, g3, g4, g10]
          have bU6 : τ6.obj iU = some (.box 3 (ints (x.drop d).reverse)) := by rw [b3 _ (by omega)]; exact a4
          refine hcallI_use (table_spec (a := (x.drop d).reverse) (b := y.reverse) (fun i1 i2 _ _ => Rd.box (n := x.length - d) bU6 (by simp) (by omega) (by omega)) (fun i1 i2 _ _ => Rd.box (n := y.length) b4 (by simp) (by omega) (by omega)) (by simp; omega) (by simp; omega)) (by simp) (fun o τ7 hn7 hQ => ?_)
          obtain ⟨iG, G, rfl, t1, t2, t3, t4, t5, t6⟩ := hQ
          dsimp only at hn7 t1 t2 t3
          simp only [List.length_reverse] at t5 t6
          simp (disch := first | omega | (simp only [List.length_set]; omega)) [gl, g0, g3, g4, g10]
          have bF : τ7.obj iF = some (.box 3 (ints F)) := by rw [t3 _ (by omega), b3 _ (by omega), a3 _ (by omega), v3 _ (by omega), u3 _ (by omega)]; exact f4
          have hp7 : PR τ7.next τ7.obj r L := hp4.mono (by omega) fun q hq => by rw [t3 _ (by omega), b3 _ (by omega), a3 _ (by omega), v3 _ (by omega), u3 _ (by omega)]
          have hG : ∀ t, t ≤ y.length → G[y.length - t]? = some ((lcs (x.drop d) (y.drop t) : Nat) : Int) := fun t ht => by
            rw [t6 _ (by omega), List.take_reverse, show y.length - (y.length - t) = t by omega, lcs_rev]
          clear f3 f4 u3 u4 v3 v4 a3 a4 b3 b4 t3 t6 bU bV bU6 hp3 hp4 u1 u2 v1 v2
          refine halves_l1 (n := y.length) (f := iF) (q := iG) (Y := Y) (F := F) (G := G) (fa := fun t => lcs (x.take d) (y.take t)) (fb := fun t => lcs (x.drop d) (y.drop t)) (w0 := .bp r 0 0) (w3 := .int .i64 (i1 : Int)) (w4 := .int .i64 (k1 : Int)) (w10 := .int .i64 (e : Int)) (w11 := X) (w14 := .int .i64 (d : Int)) (h0 := τ7.obj) (n0 := τ7.next) (by omega) lY bF t4 f5 t5 f6 hG
            (fun t ht => by have h1 := (lcs_bd (x.take d) (y.take t)).1; have h2 := (lcs_bd (x.drop d) (y.drop t)).1; simp at h1 h2; exact ⟨by omega, by omega⟩) (by omega) t2 ?_ _ _ _ (by simp [gl]) (by simp (disch := first | omega | (simp only [List.length_set]; omega)) [g0]) (by simp (disch := first | omega | (simp only [List.length_set]; omega)) [g3]) (by simp (disch := first | omega | (simp only [List.length_set]; omega)) [g4]) (by simp (disch := first | omega | (simp only [List.length_set]; omega)) [g10]) (by simp (disch := first | omega | (simp only [List.length_set]; omega)) []) (by simp (disch := first | omega | (simp only [List.length_set]; omega)) []) (by simp (disch := first | omega | (simp only [List.length_set]; omega)) []) (by simp (disch := first | omega | (simp only [List.length_set]; omega)) []) (by simp (disch := first | omega | (simp only [List.length_set]; omega)) []) (by simp (disch := first | omega | (simp only [List.length_set]; omega)) []) (by simp (disch := first | omega | (simp only [List.length_set]; omega)) []) (by simp (disch := first | omega | (simp only [List.length_set]; omega)) []) (by dsimp only; omega) rfl
          clear gl g0 g1 g2 g3 g4 g10 loc ts
          intro ts loc τ8 gl g0 g3 g4 g10 g11 g12 g14 g19 hn8 ho8
          have hcc : best (fun t => lcs (x.take d) (y.take t) + lcs (x.drop d) (y.drop t)) y.length = c := by rw [hc, cutB, hd]
          rw [hcc] at g19
          have hp8 : PR τ8.next τ8.obj r L := hp7.mono hn8 fun q hq => by rw [ho8]
          have hcl : c ≤ y.length := by rw [← hcc]; exact best_le _ _
          have sX : slOk τ8.obj 1 X 0 fun n => (d : Int) := by rw [cA.slOk]; exact ⟨by omega, by omega, by simp; omega, fun e he => ints_one he⟩
          have sY : slOk τ8.obj 1 Y 0 fun n => (c : Int) := by rw [cB.slOk]; exact ⟨by omega, by omega, by simp; omega, fun e he => ints_one he⟩
          have cY1 := isRow_cut cB 0 (fun _ => c) (by simp; omega)
          have cY2 := isRow_cut cB c (fun n => n) (by simp)
          have cX1 := isRow_cut cA 0 (fun _ => d) (by simp; omega)
          have cX2 := isRow_cut cA d (fun n => n) (by simp)
          rw [List.drop_zero, ints_take] at cX1 cY1
          rw [List.take_length, ints_drop] at cX2 cY2
          simp (disch := first | omega | (simp only [List.length_set]; omega)) [gl, g0, g3, g4, g10, g11, g12, g14, g19, sX, sY, cA.chk, cB.chk]
          generalize subVal 0 (fun _ => d) X = X3 at cX1 ⊢
          generalize subVal 0 (fun _ => c) Y = Y3 at cY1 ⊢
          refine ihcallI_use (fun m' hm' hbd => ih (x.take d) (y.take c) i1 k1 m' _ _ τ8.obj r L (by simp; omega) cX1 cY1 (by simp; omega) (by simp; omega) (by simp; omega) (by simp; omega) (by simp; omega) (hp8.mono (by omega) fun q _ => rfl)) (by simp [cX1.same (ints_bare _), cY1.same (ints_bare _)]) (fun o τ9 hQ => ?_)
          obtain ⟨rfl, hp9⟩ := hQ
          simp (disch := first | omega | (simp only [List.length_set]; omega)) [gl, g0, g3, g4, g10, g11, g12, g14, g19]
          intro m9 hm9 hbd9
          have hp9 := hp9.bound hbd9
          have hN1 := hvO_len (x.take d) (y.take c) i1 k1
          have hN2 := (lcs_bd (x.take d) (y.take c)).1
          simp only [List.length_take] at hN2
          have hL2 : (L ++ np (hvO (x.take d) (y.take c) i1 k1)).length ≤ L.length + d := by simp [hN1]; omega
          generalize τ9.obj = h9 at hp9 hbd9 ⊢
          obtain ⟨L2, hL2e⟩ : ∃ L2, L2 = L ++ np (hvO (x.take d) (y.take c) i1 k1) := ⟨_, rfl⟩
          rw [← hL2e] at hp9 hL2
          have sX : slOk h9 1 X (d : Int) fun n => (n : Int) := by rw [cA.slOk]; exact ⟨by omega, by simp; omega, by simp, fun e he => ints_one he⟩
          have sY : slOk h9 1 Y (c : Int) fun n => (n : Int) := by rw [cB.slOk]; exact ⟨by omega, by simp; omega, by simp, fun e he => ints_one he⟩
          have wi : IntKind.i64.wrap ((i1 : Int) + d) = ((i1 + d : Nat) : Int) := by rw [wrap_id (by omega) (by omega)]; omega
          have wk : IntKind.i64.wrap ((k1 : Int) + c) = ((k1 + c : Nat) : Int) := by rw [wrap_id (by omega) (by omega)]; omega
          obtain ⟨i2, hi2⟩ : ∃ i2, i2 = i1 + d := ⟨_, rfl⟩
          obtain ⟨k2, hk2⟩ : ∃ k2, k2 = k1 + c := ⟨_, rfl⟩
          rw [← hi2] at wi; rw [← hk2] at wk
          simp (disch := first | omega | (simp only [List.length_set]; omega)) [gl, g0, g3, g4, g10, g11, g12, g14, g19, sX, sY, cA.chk, cB.chk, wi, wk]
          generalize subVal d (fun n => n) X = X4 at cX2 ⊢
          generalize subVal c (fun n => n) Y = Y4 at cY2 ⊢
          refine ihcallI_use (fun m' hm' hbd => ih (x.drop d) (y.drop c) i2 k2 m' _ _ h9 r L2 (by simp; omega) cX2 cY2 (by simp; omega) (by simp; omega) (by simp; omega) (by simp; omega) (by simp; omega) (hp9.mono (by omega) fun q _ => rfl)) (by simp [cX2.same (ints_bare _), cY2.same (ints_bare _)]) (fun o τ10 hQ => ?_)
          obtain ⟨rfl, hp10⟩ := hQ
          simp (disch := first | omega | (simp only [List.length_set]; omega)) [gl, g0, g3, g4, g10, g11, g12, g14, g19]
          intro m10 hm10 hbd10
          have hp10 := hp10.bound hbd10
          have hN3 := hvO_len (x.drop d) (y.drop c) i2 k2
          have hN4 := (lcs_bd (x.drop d) (y.drop c)).1
          simp only [List.length_drop] at hN4
          refine halves_l0 (r := r) (e := e) (i := i1) (k := k1) (nx := x.length) (ny := y.length) (X := X) (Y := Y) (l := L2 ++ np (hvO (x.drop d) (y.drop c) i2 k2)) lX lY hfe (by simp [hN3]; omega) (by omega) (by omega) (by omega) (by omega) ?_ _ _ _ (by simp [gl]) (by simp (disch := first | omega | (simp only [List.length_set]; omega)) [g0]) (by simp (disch := first | omega | (simp only [List.length_set]; omega)) [g3]) (by simp (disch := first | omega | (simp only [List.length_set]; omega)) [g4]) (by simp (disch := first | omega | (simp only [List.length_set]; omega)) [g11]) (by simp (disch := first | omega | (simp only [List.length_set]; omega)) [g12]) (by simp (disch := first | omega | (simp only [List.length_set]; omega)) [g10]) (by simp (disch := first | omega | (simp only [List.length_set]; omega)) []) (hp10.mono (by dsimp only at *; omega) fun q _ => rfl)
          intro ts loc τ gl hp
          simp (disch := first | omega | (simp only [List.length_set]; omega)) []
          refine ⟨rfl, ?_⟩
          rw [hL2e, hi2, hk2] at hp
          simpa using hp
end Go.Proofs.Ytbmkgpocnkiibaa.Lt
