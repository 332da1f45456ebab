/- myers.table: its walk. -/
import Derived.Test.YtinfmkmebemhcaaLt
import Derived.Test.YtinfmkmebemhcaaMy6
import Derived.Test.YtinfmkmebemhcaaA23
namespace Go.Proofs.Ytinfmkmebemhcaa.Lt
open Go.Proofs.YtinfmkmebemhcaaW.Abs Go
set_option maxRecDepth 100000
set_option maxHeartbeats 4000000
set_option linter.unusedSimpArgs false
set_option linter.unusedVariables false
variable {W0 : World}

theorem nums_at {l : List Int} {i : Nat} {x : Int} (h : l[i]? = some x) : (ints l)[i]? = some [.int .i64 x] := Go.Proofs.YtinfmkmebemhcaaW.Abs.ints_at h
theorem elems_boxed {h : Hp} {id n : Nat} {ty : TypeId} {F : List Int} (e : h id = some (.box ty (ints F))) (hn : F.length = n) : elems h (.sl id 0 n) = some (ints F) := by
  simp only [elems, e]; simp [hn]
  exact List.take_of_length_le (by simp; omega)
theorem elems_upd_self {h : Hp} {id n : Nat} {ty : TypeId} {F : List Int} (hn : F.length = n) : elems (upd h id (some (.box ty (ints F)))) (.sl id 0 n) = some (ints F) := elems_boxed (ty := ty) (by simp) hn
theorem elems_upd_ne {h : Hp} {j id st n : Nat} {x : Option AObj} (hne : id ≠ j) : elems (upd h j x) (.sl id st n) = elems h (.sl id st n) := by
  simp only [elems, upd_ne hne]
theorem upd_upd_same' (h : Hp) (i : Nat) (x y : Option AObj) : upd (upd h i x) i y = upd h i y := by
  funext q; simp only [upd]; split <;> rfl
theorem setAt_ints (l : List Int) (j : Nat) (x : Int) : setAt (ints l) j 0 [.int .i64 x] = ints (l.set j x) := by
  apply List.ext_getElem?
  intro i
  rw [setAt_get]
  simp only [ints, List.getElem?_map, List.getElem?_set]
  by_cases h : j = i
  · subst h
    rw [if_pos rfl, if_pos rfl]
    by_cases h2 : j < l.length
    · simp [h2]
    · simp [h2]
  · rw [if_neg h, if_neg h]

/-- numbers that stay readable while the two boxes change -/
structure Rd (B : AV) (b : List Int) (i1 i2 : Nat) (h0 : Hp) : Prop where
  len : lenOf B = some b.length
  el : ∀ h : Hp, (∀ q, q ≠ i1 → q ≠ i2 → h q = h0 q) → elems h B = some (ints b)
  tg : ∀ h : Hp, (∀ q, q ≠ i1 → q ≠ i2 → h q = h0 q) → ∀ (k : Nat) (e : List AV), (ints b)[k]? = some e → target h (iaVal B k) = some (e, 0)
theorem Rd.row {B : AV} {b : List Int} (h : IsRow B (ints b)) (i1 i2 : Nat) (h0 : Hp) : Rd B b i1 i2 h0 :=
  ⟨by rw [h.len, ints_len], fun hp _ => h.elems hp, fun hp _ k e he => by rw [h.at he]; rfl⟩
theorem Rd.box {id n i1 i2 : Nat} {b : List Int} {h0 : Hp} {ty : TypeId} (e : h0 id = some (.box ty (ints b))) (hn : b.length = n) (h1 : id ≠ i1) (h2 : id ≠ i2) : Rd (.sl id 0 n) b i1 i2 h0 :=
  ⟨by rw [hn]; rfl, fun hp hs => elems_boxed (by rw [hs id h1 h2]; exact e) hn, fun hp hs k x he => by
    show target hp (.bp id (0 + k) 0) = _
    rw [Nat.zero_add]
    simp only [target, hs id h1 h2, e, he]; rfl⟩

theorem table_l0 {K : KC2} {hs : Hints} {B : AV} {a b : List Int} {x : Int} {iL iN : Nat} {h0 : Hp} {w0 w1 w19 w20 w21 : AV} (hne : iL ≠ iN) (hB : Rd B b iL iN h0) (hbl : b.length ≤ 1000000)
    (F : List Int) (hF : F.length = b.length + 1) (hFk : ∀ k, k ≤ b.length → F[k]? = some (lcs a (b.take k) : Int)) (hal : a.length ≤ 1000000)
    (hK : ∀ ts loc (τ : Heap) G, ts.length = 63 → tmp ts 0 = w0 → tmp ts 1 = w1 → tmp ts 5 = .sl iL 0 (b.length + 1) → tmp ts 6 = .sl iN 0 (b.length + 1) → tmp ts 19 = w19 → tmp ts 20 = w20 → tmp ts 21 = w21 → iL < τ.next → iN < τ.next → (∀ q, q ≠ iL → q ≠ iN → τ.obj q = h0 q) → τ.obj iL = some (.box 3 (ints F)) →
      τ.obj iN = some (.box 3 (ints G)) → G.length = b.length + 1 → (∀ k, k ≤ b.length → G[k]? = some (lcs (a ++ [x]) (b.take k) : Int)) → K.k (.exit 2) ts loc τ)
    (ts : List AV) (loc : Go.Proofs.YtinfmkmebemhcaaW.Abs.Loc) (τ : Heap) (hl : ts.length = 63) (g0 : tmp ts 0 = w0) (g1 : tmp ts 1 = w1) (g5 : tmp ts 5 = .sl iL 0 (b.length + 1)) (g6 : tmp ts 6 = .sl iN 0 (b.length + 1)) (g8 : tmp ts 8 = .int .i64 x) (g19 : tmp ts 19 = w19) (g20 : tmp ts 20 = w20) (g21 : tmp ts 21 = w21) (g25 : tmp ts 25 = B) (g26 : tmp ts 26 = .int .i64 b.length) (g27 : tmp ts 27 = .int .i64 0)
    (n1 : iL < τ.next) (n2 : iN < τ.next) (ho : ∀ q, q ≠ iL → q ≠ iN → τ.obj q = h0 q) (hL : τ.obj iL = some (.box 3 (ints F))) (G0 : List Int) (hN : τ.obj iN = some (.box 3 (ints G0))) (hG0 : G0.length = b.length + 1) (hG00 : G0[0]? = some 0) : loop2I Try.prog W0 C hs F21l0 ts loc τ := by
  have base : ∀ j, j ≤ 0 → G0[j]? = some (lcs (a ++ [x]) (b.take j) : Int) := fun j hj => by
    have : j = 0 := by omega
    subst this; simpa [lcs_nil] using hG00
  refine loop2I_ind cok F21l0w (m := fun k => b.length - k) (I := fun k ts loc τ => k ≤ b.length ∧ ts.length = 63 ∧ tmp ts 0 = w0 ∧ tmp ts 1 = w1 ∧ tmp ts 5 = .sl iL 0 (b.length + 1) ∧ tmp ts 6 = .sl iN 0 (b.length + 1) ∧ tmp ts 8 = .int .i64 x ∧ tmp ts 19 = w19 ∧ tmp ts 20 = w20 ∧ tmp ts 21 = w21 ∧ tmp ts 25 = B ∧ tmp ts 26 = .int .i64 b.length ∧ tmp ts 27 = .int .i64 k ∧
    iL < τ.next ∧ iN < τ.next ∧ (∀ q, q ≠ iL → q ≠ iN → τ.obj q = h0 q) ∧ τ.obj iL = some (.box 3 (ints F)) ∧ ∃ G, τ.obj iN = some (.box 3 (ints G)) ∧ G.length = b.length + 1 ∧ ∀ j, j ≤ k → G[j]? = some (lcs (a ++ [x]) (b.take j) : Int)) ?_ 0
    ⟨by omega, hl, g0, g1, g5, g6, g8, g19, g20, g21, g25, g26, by simpa using g27, n1, n2, ho, hL, G0, hN, hG0, base⟩
  clear base hl g0 g1 g5 g6 g8 g19 g20 g21 g25 g26 g27 n1 n2 ho hL hN hG0 hG00 G0 ts loc τ
  rintro k ts loc τ ⟨hk, hl, g0, g1, g5, g6, g8, g19, g20, g21, g25, g26, g27, n1, n2, ho, hL, G, hN, hG, hGk⟩ ih'
  simp (disch := first | omega | (simp only [List.length_set]; omega)) [F21l0, hl, g26, g27]
  by_cases hlt : k < b.length
  · obtain ⟨y, hy⟩ : ∃ y, b[k]? = some y := ⟨b[k], by simp [hlt]⟩
    have hye := nums_at hy
    have eB := hB.el τ.obj ho
    have eL := elems_boxed hL hF
    have eN := elems_boxed hN hG
    have f1 := nums_at (hFk k (by omega))
    have f2 := nums_at (hFk (k + 1) (by omega))
    have q1 := nums_at (hGk k (Nat.le_refl _))
    have st := tab_step a b x y k hy
    have tB := hB.tg τ.obj ho k _ hye
    simp (disch := first | omega | (simp only [List.length_set]; omega)) [hlt, hl, g25, g27, eB, hye, tB]
    have hw1 : IntKind.i64.wrap ((k : Int) + 1) = (k : Int) + 1 := wrap_id (by omega) (by omega)
    have cc : ((k : Int) + 1).toNat = k + 1 := by omega
    have c0 : (0 : Int) ≤ (k : Int) + 1 := by omega
    obtain ⟨z, hz⟩ : ∃ z, G[k + 1]? = some z := ⟨G[k + 1]'(by omega), List.getElem?_eq_getElem _⟩
    have q2 := nums_at hz
    have d1 : iN < τ.next + 1 + 5 + 3 := by omega
    have d2 : iL < τ.next + 1 + 5 + 3 := by omega
    have go : ∀ (v : Int) (ts' : List AV) (loc' : Go.Proofs.YtinfmkmebemhcaaW.Abs.Loc) (τ' : Heap), v = (lcs (a ++ [x]) (b.take (k + 1)) : Int) → ts'.length = 63 → tmp ts' 0 = tmp ts 0 → tmp ts' 1 = tmp ts 1 → tmp ts' 5 = tmp ts 5 → tmp ts' 6 = tmp ts 6 → tmp ts' 8 = tmp ts 8 → tmp ts' 19 = tmp ts 19 → tmp ts' 20 = tmp ts 20 → tmp ts' 21 = tmp ts 21 → tmp ts' 25 = tmp ts 25 → tmp ts' 26 = tmp ts 26 → tmp ts' 27 = .int .i64 ((k : Int) + 1) → τ.next ≤ τ'.next → τ'.obj = upd τ.obj iN (some (.box 3 (ints (G.set (k + 1) v)))) → loop2I Try.prog W0 C hs F21l0 ts' loc' τ' := by
      intro v ts' loc' τ' hv e0 e1 e2 e3 e4 e5 e6 e7 e8 e9 e10 e11 en eo
      refine ih' (k + 1) _ _ _ (by omega) ⟨by omega, e0, e1.trans g0, e2.trans g1, e3.trans g5, e4.trans g6, e5.trans g8, e6.trans g19, e7.trans g20, e8.trans g21, e9.trans g25, e10.trans g26, e11, by omega, by omega, fun q h1 h2 => by rw [eo, upd_ne h2]; exact ho q h1 h2, by rw [eo, upd_ne hne]; exact hL, G.set (k + 1) v, by rw [eo]; simp, by simp [hG], fun j hj => ?_⟩
      rw [List.getElem?_set]
      by_cases h : k + 1 = j
      · subst h; rw [if_pos rfl, if_pos (by omega), hv]
      · rw [if_neg h]; exact hGk j (by omega)
    clear ih' hK
    by_cases hxy : x = y
    · subst hxy
      simp (disch := first | omega | (simp only [List.length_set]; omega)) [hl, g5, g6, g8, g27, eL, eN, f1, q2, hL, hN, hF, hG, hw1, cc, c0]
      refine go (IntKind.i64.wrap ((lcs a (b.take k) : Int) + 1)) _ _ _ ?_ ?_ ?_ ?_ ?_ ?_ ?_ ?_ ?_ ?_ ?_ ?_ ?_ ?_ ?_
      · rw [if_pos rfl] at st
        have := (lcs_bd a (b.take k)).1
        rw [st, wrap_id (by omega) (by omega)]; simp
      · simp [hl]
      all_goals first | (dsimp only; omega) | simp (disch := first | omega | (simp only [List.length_set]; omega)) [hw1, setAt_ints]
    · simp (disch := first | omega | (simp only [List.length_set]; omega)) [hl, g5, g6, g8, g27, hxy, eL, eN, f1, f2, q1, q2, hL, hN, hF, hG, hw1, cc, c0, d1, d2]
      intro m hm
      refine go (if lcs (a ++ [x]) (b.take k) < lcs a (b.take (k + 1)) then (lcs a (b.take (k + 1)) : Int) else (lcs (a ++ [x]) (b.take k) : Int)) _ _ _ ?_ ?_ ?_ ?_ ?_ ?_ ?_ ?_ ?_ ?_ ?_ ?_ ?_ ?_ ?_
      · rw [if_neg hxy] at st
        rw [st]; split <;> omega
      · simp [hl]
      all_goals first | (dsimp only; omega) | simp (disch := first | omega | (simp only [List.length_set]; omega)) [hw1, setAt_ints]
  · simp (disch := first | omega | (simp only [List.length_set]; omega)) [hlt, hl, g26, g27]
    have : k = b.length := by omega
    subst this
    exact hK _ _ _ G (by simp [hl]) (by simp (disch := first | omega | (simp only [List.length_set]; omega)) [g0]) (by simp (disch := first | omega | (simp only [List.length_set]; omega)) [g1]) (by simp (disch := first | omega | (simp only [List.length_set]; omega)) [g5]) (by simp (disch := first | omega | (simp only [List.length_set]; omega)) [g6]) (by simp (disch := first | omega | (simp only [List.length_set]; omega)) [g19]) (by simp (disch := first | omega | (simp only [List.length_set]; omega)) [g20]) (by simp (disch := first | omega | (simp only [List.length_set]; omega)) [g21]) (by dsimp only; omega) (by dsimp only; omega) ho hL hN hG hGk

theorem Rd.swap {B : AV} {b : List Int} {i1 i2 : Nat} {h0 : Hp} (h : Rd B b i1 i2 h0) : Rd B b i2 i1 h0 :=
  ⟨h.len, fun hp hs => h.el hp fun q h1 h2 => hs q h2 h1, fun hp hs => h.tg hp fun q h1 h2 => hs q h2 h1⟩
theorem table_l1 {K : KC2} {hs : Hints} {A B : AV} {a b : List Int} {i1 i2 : Nat} {h0 : Hp} (hne : i1 ≠ i2) (hA : Rd A a i1 i2 h0) (hB : Rd B b i1 i2 h0) (hbl : b.length ≤ 1000000) (hal : a.length ≤ 1000000)
    (hK : ∀ ts loc (τ : Heap) iL F, ts.length = 63 → tmp ts 5 = .sl iL 0 (b.length + 1) → iL = i1 ∨ iL = i2 → i1 < τ.next → i2 < τ.next → (∀ q, q ≠ i1 → q ≠ i2 → τ.obj q = h0 q) → τ.obj iL = some (.box 3 (ints F)) → F.length = b.length + 1 → (∀ k, k ≤ b.length → F[k]? = some (lcs a (b.take k) : Int)) → K.k (.exit 0) ts loc τ)
    (ts : List AV) (loc : Go.Proofs.YtinfmkmebemhcaaW.Abs.Loc) (τ : Heap) (hl : ts.length = 63) (g1 : tmp ts 1 = B) (g5 : tmp ts 5 = .sl i1 0 (b.length + 1)) (g6 : tmp ts 6 = .sl i2 0 (b.length + 1)) (g19 : tmp ts 19 = A) (g20 : tmp ts 20 = .int .i64 a.length) (g21 : tmp ts 21 = .int .i64 0)
    (n1 : i1 < τ.next) (n2 : i2 < τ.next) (ho : ∀ q, q ≠ i1 → q ≠ i2 → τ.obj q = h0 q) (hz1 : τ.obj i1 = some (.box 3 (ints (List.replicate (b.length + 1) 0)))) (hz2 : τ.obj i2 = some (.box 3 (ints (List.replicate (b.length + 1) 0)))) : loop2I Try.prog W0 C hs F21l1 ts loc τ := by
  have base : ∀ k, k ≤ b.length → (List.replicate (b.length + 1) (0 : Int))[k]? = some (lcs (a.take 0) (b.take k) : Int) := fun k hk => by
    rw [List.getElem?_replicate, if_pos (by omega)]; simp [lcs]
  refine loop2I_ind cok F21l1w (m := fun k => a.length - k) (I := fun k ts loc τ => k ≤ a.length ∧ ts.length = 63 ∧ tmp ts 1 = B ∧ tmp ts 19 = A ∧ tmp ts 20 = .int .i64 a.length ∧ tmp ts 21 = .int .i64 k ∧ i1 < τ.next ∧ i2 < τ.next ∧ (∀ q, q ≠ i1 → q ≠ i2 → τ.obj q = h0 q) ∧
    ∃ iL iN F G, ((iL = i1 ∧ iN = i2) ∨ (iL = i2 ∧ iN = i1)) ∧ tmp ts 5 = .sl iL 0 (b.length + 1) ∧ tmp ts 6 = .sl iN 0 (b.length + 1) ∧ τ.obj iL = some (.box 3 (ints F)) ∧ τ.obj iN = some (.box 3 (ints G)) ∧ F.length = b.length + 1 ∧ G.length = b.length + 1 ∧ G[0]? = some 0 ∧ ∀ k', k' ≤ b.length → F[k']? = some (lcs (a.take k) (b.take k') : Int)) ?_ 0
    ⟨by omega, hl, g1, g19, g20, by simpa using g21, n1, n2, ho, i1, i2, _, _, .inl ⟨rfl, rfl⟩, g5, g6, hz1, hz2, by simp, by simp, by simp, base⟩
  clear base hl g1 g5 g6 g19 g20 g21 n1 n2 ho hz1 hz2 ts loc τ
  rintro k ts loc τ ⟨hk, hl, g1, g19, g20, g21, n1, n2, ho, iL, iN, F, G, hp, g5, g6, hL, hN, hF, hG, hG0, hFk⟩ ih'
  have hne' : iL ≠ iN := by rcases hp with ⟨rfl, rfl⟩ | ⟨rfl, rfl⟩ <;> omega
  have hB' : Rd B b iL iN h0 := by rcases hp with ⟨rfl, rfl⟩ | ⟨rfl, rfl⟩; exact hB; exact hB.swap
  have hB1 : Rd B b iN iL h0 := hB'.swap
  have m1 : iL < τ.next := by rcases hp with ⟨rfl, rfl⟩ | ⟨rfl, rfl⟩ <;> omega
  have m2 : iN < τ.next := by rcases hp with ⟨rfl, rfl⟩ | ⟨rfl, rfl⟩ <;> omega
  have ho' : ∀ q, q ≠ iL → q ≠ iN → τ.obj q = h0 q := by rcases hp with ⟨rfl, rfl⟩ | ⟨rfl, rfl⟩; exact ho; exact fun q h1 h2 => ho q h2 h1
  simp (disch := first | omega | (simp only [List.length_set]; omega)) [F21l1, hl, g20, g21]
  by_cases hlt : k < a.length
  · obtain ⟨x, hx⟩ : ∃ x, a[k]? = some x := ⟨a[k], by simp [hlt]⟩
    have hxe := nums_at hx
    have eA := hA.el τ.obj ho
    have tA := hA.tg τ.obj ho k _ hxe
    have etk : a.take (k + 1) = a.take k ++ [x] := by rw [List.take_add_one, hx]; rfl
    have lB := hB.len
    simp (disch := first | omega | (simp only [List.length_set]; omega)) [hlt, hl, g1, g19, g21, eA, hxe, tA, lB]
    refine table_l0 (w1 := B) (w19 := A) (w20 := .int .i64 a.length) (w21 := .int .i64 (k : Int)) (a := a.take k) (x := x) hne' hB' hbl F hF hFk (by simp; omega) ?_ _ _ _ (by simp [hl]) (by simp (disch := first | omega | (simp only [List.length_set]; omega)) []; exact rfl) (by simp (disch := first | omega | (simp only [List.length_set]; omega)) [g1]) (by simp (disch := first | omega | (simp only [List.length_set]; omega)) [g5]) (by simp (disch := first | omega | (simp only [List.length_set]; omega)) [g6]) (by simp (disch := first | omega | (simp only [List.length_set]; omega)) []) (by simp (disch := first | omega | (simp only [List.length_set]; omega)) [g19]) (by simp (disch := first | omega | (simp only [List.length_set]; omega)) [g20]) (by simp (disch := first | omega | (simp only [List.length_set]; omega)) [g21]) (by simp (disch := first | omega | (simp only [List.length_set]; omega)) []) (by simp (disch := first | omega | (simp only [List.length_set]; omega)) []) (by simp (disch := first | omega | (simp only [List.length_set]; omega)) []) (by dsimp only; omega) (by dsimp only; omega) ho' hL G hN hG hG0
    intro ts2 loc2 τ2 G2 q0 r0 r1 r5 r6 r19 r20 r21 k1 k2 ho2 hL2 hN2 hG2 hGk2
    simp (disch := first | omega | (simp only [List.length_set]; omega)) [q0, r1, r5, r6, r19, r20, r21]
    rw [← etk] at hGk2
    refine ih' (k + 1) _ _ _ (by omega) ⟨by omega, ?_⟩
    simp (disch := first | omega | (simp only [List.length_set]; omega)) [q0, r1, r5, r6, r19, r20, r21, wrap_id]
    have F0 : F[0]? = some 0 := by simpa [lcs_nil] using hFk 0 (by omega)
    have c1 : i1 < τ2.next := by rcases hp with ⟨rfl, rfl⟩ | ⟨rfl, rfl⟩ <;> omega
    have c2 : i2 < τ2.next := by rcases hp with ⟨rfl, rfl⟩ | ⟨rfl, rfl⟩ <;> omega
    have c3 : ∀ q, q ≠ i1 → q ≠ i2 → τ2.obj q = h0 q := by rcases hp with ⟨rfl, rfl⟩ | ⟨rfl, rfl⟩; exact ho2; exact fun q h1 h2 => ho2 q h2 h1
    have c4 : (iN = i1 ∧ iL = i2) ∨ (iN = i2 ∧ iL = i1) := by rcases hp with ⟨h1, h2⟩ | ⟨h1, h2⟩; exact .inr ⟨h2, h1⟩; exact .inl ⟨h2, h1⟩
    exact ⟨by omega, by omega, c3, iN, iL, c4, rfl, rfl, G2, hN2, F, hL2, hG2, hF, F0, hGk2⟩
  · simp (disch := first | omega | (simp only [List.length_set]; omega)) [hlt, hl, g20, g21]
    have : k = a.length := by omega
    subst this
    rw [List.take_length] at hFk
    exact hK _ _ _ iL F (by simp [hl]) (by simp (disch := first | omega | (simp only [List.length_set]; omega)) [g5]) (by rcases hp with ⟨h, _⟩ | ⟨h, _⟩ <;> simp [h]) (by dsimp only; omega) (by dsimp only; omega) ho hL hF hFk

/-- the table's contract, over whatever heap -/
theorem table_spec {A B : AV} {a b : List Int} {n : Nat} {h0 : Hp} (hA : ∀ i1 i2, n ≤ i1 → n ≤ i2 → Rd A a i1 i2 h0) (hB : ∀ i1 i2, n ≤ i1 → n ≤ i2 → Rd B b i1 i2 h0) (hbl : b.length ≤ 1000000) (hal : a.length ≤ 1000000) :
    HCalls Try.prog W0 21 [A, B] ⟨n, h0⟩ (fun o τ' => ∃ i F, o = .ret (.sl i 0 (b.length + 1)) ∧ n ≤ i ∧ i < τ'.next ∧ (∀ q, q < n → τ'.obj q = h0 q) ∧ τ'.obj i = some (.box 3 (ints F)) ∧ F.length = b.length + 1 ∧ ∀ k, k ≤ b.length → F[k]? = some (lcs a (b.take k) : Int)) := by
  refine hcalls cok Try.func21 F21d F21e F21c F21w F21r ?_
  refine ev2I_intro ?_
  have lB := (hB n n (Nat.le_refl _) (Nat.le_refl _)).len
  have lA := (hA n n (Nat.le_refl _) (Nat.le_refl _)).len
  simp (disch := first | omega | (simp only [List.length_set]; omega)) [F21s, lB, lA, wrap_id]
  refine andI_intro (by omega) ?_
  simp (disch := first | omega | (simp only [List.length_set]; omega)) [lB, lA, wrap_id]
  refine andI_intro (by omega) ?_
  simp (disch := first | omega | (simp only [List.length_set]; omega)) [lB, lA, wrap_id]
  intro m hm
  have hrep : ([AV.int .i64 0] :: List.replicate b.length [AV.int .i64 0]) = ints (List.replicate (b.length + 1) 0) := by simp [ints, List.replicate_succ]
  rw [hrep]
  refine table_l1 (i1 := n + 1 + 3) (i2 := n + 1 + 7) (h0 := h0) (by omega) (hA _ _ (by omega) (by omega)) (hB _ _ (by omega) (by omega)) hbl hal ?_ _ _ _ (by rfl) (by rfl) (by rfl) (by rfl) (by rfl) (by rfl) (by rfl) (by dsimp only; omega) (by dsimp only; omega) (fun q h1 h2 => by dsimp only; rw [upd_ne h2, upd_ne h1]) (by simp (disch := first | omega | (simp only [List.length_set]; omega)) [upd_ne]) (by simp (disch := first | omega | (simp only [List.length_set]; omega)) [upd_ne])
  intro ts loc τ iL F gl g5 hi n1 n2 ho hL hF hFk
  simp (disch := first | omega | (simp only [List.length_set]; omega)) [g5]
  exact ⟨by omega, by omega, fun q hq => ho q (by omega) (by omega), F, hL, hF, hFk⟩
end Go.Proofs.Ytinfmkmebemhcaa.Lt
