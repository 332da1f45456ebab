/- MyersEnds: what both begin and end with. -/
import Derived.Test.YtinfmkmebemhcaaMt10
namespace Go.Proofs.Ytinfmkmebemhcaa.Lt
open Go.Proofs.YtinfmkmebemhcaaW.Abs Go
set_option maxRecDepth 100000
set_option maxHeartbeats 4000000
set_option linter.unusedSimpArgs false
set_option linter.unusedVariables false
variable {W0 : World}

/-- a row that is read -/
structure RowL (A : AV) (es : List (List AV)) : Prop where
  len : lenOf A = some es.length
  el : ∀ h : Hp, elems h A = some es
  at' : ∀ (i : Nat) (e : List AV), es[i]? = some e → iaVal A i = .ep e 0
  chk : ∀ D : Nat → Prop, chkS D A = True
theorem RowL.row (es : List (List AV)) (t : Option Nat) : RowL (.row es t) es := ⟨rfl, fun _ => rfl, fun i e h => by simp [h], fun _ => rfl⟩
theorem isRow_rl {A : AV} {es : List (List AV)} (h : IsRow A es) : RowL A es := ⟨h.len, h.elems, fun _ _ he => h.at he, h.chk⟩

theorem ends_l1 {K : KC2} {hs : Hints} {a b : List Int} {A B R : AV} (hA : RowL A (ints a)) (hB : RowL B (ints b)) (hR : RowL R (prs (np (hvO a b 0 0)))) (ha : a.length ≤ 100000) (hb : b.length ≤ 100000)
    (hK : ∀ ts loc (τ : Heap), ts.length = 143 → tmp ts 11 = A → tmp ts 12 = B → tmp ts 13 = R → tmp ts 15 = .int .i64 ((pre a b : Nat) : Int) → K.k (.exit 0) ts loc τ)
    (ts : List AV) (loc : Go.Proofs.YtinfmkmebemhcaaW.Abs.Loc) (τ : Heap) (gl : ts.length = 143) (g11 : tmp ts 11 = A) (g12 : tmp ts 12 = B) (g13 : tmp ts 13 = R) (g15 : tmp ts 15 = .int .i64 0) : loop2I Try.prog W0 C hs F4l1 ts loc τ := by
  refine loop2I_ind cok F4l1w (m := fun j => a.length - j) (I := fun j ts loc τ => j ≤ pre a b ∧ ts.length = 143 ∧ tmp ts 11 = A ∧ tmp ts 12 = B ∧ tmp ts 13 = R ∧ tmp ts 15 = .int .i64 (j : Int)) ?_ 0 ⟨by omega, gl, g11, g12, g13, by simpa using g15⟩
  clear gl g11 g12 g13 g15 ts loc τ
  rintro j ts loc τ ⟨hj, gl, g11, g12, g13, g15⟩ ih'
  have ⟨pa, pb⟩ := pre_le a b
  have lA := hA.len
  have lB := hB.len
  have lR := hR.len
  simp only [ints_len, prs_len, np_len] at lA lB lR
  have fin : j = pre a b → ∀ (ts' : List AV) (loc' : Go.Proofs.YtinfmkmebemhcaaW.Abs.Loc) (τ' : Heap), ts'.length = 143 → tmp ts' 11 = tmp ts 11 → tmp ts' 12 = tmp ts 12 → tmp ts' 13 = tmp ts 13 → tmp ts' 15 = tmp ts 15 → K.k (.exit 0) ts' loc' τ' := by
    intro e ts' loc' τ' e0 e1 e2 e3 e4
    subst e
    exact hK ts' loc' τ' e0 (e1.trans g11) (e2.trans g12) (e3.trans g13) (e4.trans g15)
  simp (disch := first | omega | (simp only [List.length_set]; omega)) [F4l1, gl, g11, g12, g15, lA, lB]
  by_cases h1 : j < a.length
  · simp (disch := first | omega | (simp only [List.length_set]; omega)) [gl, g11, g12, g15, lA, lB, h1]
    by_cases h2 : j < b.length
    · obtain ⟨x, hx⟩ : ∃ x, a[j]? = some x := ⟨a[j]'(by omega), List.getElem?_eq_getElem _⟩
      obtain ⟨y, hy⟩ : ∃ y, b[j]? = some y := ⟨b[j]'(by omega), List.getElem?_eq_getElem _⟩
      have ex := nums_at hx
      have ey := nums_at hy
      have eA := hA.el τ.obj
      have eB := hB.el τ.obj
      have tA := hA.at' _ _ ex
      have tB := hB.at' _ _ ey
      simp (disch := first | omega | (simp only [List.length_set]; omega)) [gl, g11, g12, g15, lA, lB, h2, eA, eB, ex, ey, tA, tB, hA.chk, hB.chk]
      intro m hm
      by_cases hxy : x = y
      · subst hxy
        have hlt : j < pre a b := by
          rcases Nat.lt_or_ge j (pre a b) with h | h
          · exact h
          · have : j = pre a b := by omega
            subst this; exact absurd rfl (pre_ne a b x x hx hy)
        have hr := hvO_front a b j hlt
        have hrl : j < (hvO a b 0 0).length := (List.getElem?_eq_some_iff.1 hr).1
        have hre : (prs (np (hvO a b 0 0)))[j]? = some [.int .i64 (j : Int), .int .i64 (j : Int)] := by
          have : (np (hvO a b 0 0))[j]? = some ((j : Int), (j : Int)) := by rw [np, List.getElem?_map, hr]; rfl
          exact prs_at this
        have eR := hR.el τ.obj
        have tR := hR.at' _ _ hre
        have hrl' : ¬ (hvO a b 0 0).length ≤ j := by omega
        simp (disch := first | omega | (simp only [List.length_set]; omega)) [gl, g11, g12, g13, g15, lR, eR, tR, hre, hrl']
        refine ih' (j + 1) _ _ _ (by omega) ⟨by omega, ?_⟩
        simp (disch := first | omega | (simp only [List.length_set]; omega)) [gl, g11, g12, g13, g15, wrap_id]
      · simp (disch := first | omega | (simp only [List.length_set]; omega)) [gl, hxy]
        have : j = pre a b := by
          rcases Nat.lt_or_ge j (pre a b) with h | h
          · obtain ⟨z, h1, h2⟩ := pre_at a b j h
            rw [hx] at h1; rw [hy] at h2; cases h1; cases h2; exact absurd rfl hxy
          · omega
        exact fin this _ _ _ (by simp [gl]) (by simp (disch := first | omega | (simp only [List.length_set]; omega)) []) (by simp (disch := first | omega | (simp only [List.length_set]; omega)) []) (by simp (disch := first | omega | (simp only [List.length_set]; omega)) []) (by simp (disch := first | omega | (simp only [List.length_set]; omega)) [])
    · simp (disch := first | omega | (simp only [List.length_set]; omega)) [gl, g11, g12, g15, lA, lB, h2]
      intro m hm
      exact fin (by omega) _ _ _ (by simp [gl]) (by simp (disch := first | omega | (simp only [List.length_set]; omega)) []) (by simp (disch := first | omega | (simp only [List.length_set]; omega)) []) (by simp (disch := first | omega | (simp only [List.length_set]; omega)) []) (by simp (disch := first | omega | (simp only [List.length_set]; omega)) [])
  · simp (disch := first | omega | (simp only [List.length_set]; omega)) [gl, g11, g12, g15, lA, lB, h1]
    intro m hm
    exact fin (by omega) _ _ _ (by simp [gl]) (by simp (disch := first | omega | (simp only [List.length_set]; omega)) []) (by simp (disch := first | omega | (simp only [List.length_set]; omega)) []) (by simp (disch := first | omega | (simp only [List.length_set]; omega)) []) (by simp (disch := first | omega | (simp only [List.length_set]; omega)) [])

theorem ends_l0 {K : KC2} {hs : Hints} {a b : List Int} {A B R : AV} (hA : RowL A (ints a)) (hB : RowL B (ints b)) (hR : RowL R (prs (np (hvO a b 0 0)))) (ha : a.length ≤ 100000) (hb : b.length ≤ 100000)
    (hK : ∀ ts loc (τ : Heap), ts.length = 143 → K.k (.exit 2) ts loc τ)
    (ts : List AV) (loc : Go.Proofs.YtinfmkmebemhcaaW.Abs.Loc) (τ : Heap) (gl : ts.length = 143) (g11 : tmp ts 11 = A) (g12 : tmp ts 12 = B) (g13 : tmp ts 13 = R) (g15 : tmp ts 15 = .int .i64 ((pre a b : Nat) : Int)) (g16 : tmp ts 16 = .int .i64 1) : loop2I Try.prog W0 C hs F4l0 ts loc τ := by
  refine loop2I_ind cok F4l0w (m := fun j => endN a b + 1 - j) (I := fun j ts loc τ => j ≤ endN a b ∧ ts.length = 143 ∧ tmp ts 11 = A ∧ tmp ts 12 = B ∧ tmp ts 13 = R ∧ tmp ts 15 = .int .i64 ((pre a b : Nat) : Int) ∧ tmp ts 16 = .int .i64 ((j + 1 : Nat) : Int)) ?_ 0 ⟨by omega, gl, g11, g12, g13, g15, by simpa using g16⟩
  clear gl g11 g12 g13 g15 g16 ts loc τ
  rintro j ts loc τ ⟨hj, gl, g11, g12, g13, g15, g16⟩ ih'
  have ⟨ma, mb⟩ := mid_len a b
  have lA := hA.len
  have lB := hB.len
  have lR := hR.len
  simp only [ints_len, prs_len, np_len] at lA lB lR
  obtain ⟨p, hp⟩ : ∃ p, p = pre a b := ⟨_, rfl⟩
  obtain ⟨k, hk⟩ : ∃ k, k = j + 1 := ⟨_, rfl⟩
  rw [← hp] at g15 ma mb
  rw [← hk] at g16
  have wa : IntKind.i64.wrap ((a.length : Int) - k) = (a.length : Int) - k := wrap_id (by omega) (by omega)
  have wb : IntKind.i64.wrap ((b.length : Int) - k) = (b.length : Int) - k := wrap_id (by omega) (by omega)
  by_cases h1 : p + k ≤ a.length
  · have c1 : (p : Int) ≤ (a.length : Int) - k := by omega
    by_cases h2 : p + k ≤ b.length
    · have c2 : (p : Int) ≤ (b.length : Int) - k := by omega
      obtain ⟨x, hx⟩ : ∃ x, a[a.length - k]? = some x := ⟨a[a.length - k]'(by omega), List.getElem?_eq_getElem _⟩
      obtain ⟨y, hy⟩ : ∃ y, b[b.length - k]? = some y := ⟨b[b.length - k]'(by omega), List.getElem?_eq_getElem _⟩
      have ex := nums_at hx
      have ey := nums_at hy
      have eA := hA.el τ.obj
      have eB := hB.el τ.obj
      have tA := hA.at' _ _ ex
      have tB := hB.at' _ _ ey
      have c3 : ((a.length : Int) - k).toNat = a.length - k := by omega
      have c4 : ((b.length : Int) - k).toNat = b.length - k := by omega
      have c5 : (0 : Int) ≤ (a.length : Int) - k := by omega
      have c6 : (0 : Int) ≤ (b.length : Int) - k := by omega
      have c7 : (k : Int) ≤ (a.length : Int) := by omega
      have c8 : (k : Int) ≤ (b.length : Int) := by omega
      have c9 : k ≤ a.length := by omega
      have c10 : k ≤ b.length := by omega
      simp (disch := first | omega | (simp only [List.length_set]; omega)) [F4l0, gl, g11, g12, g15, g16, lA, lB, wa, wb, c1, c2, c3, c4, c5, c6, c7, c8, c9, c10, eA, eB, ex, ey, tA, tB, hA.chk, hB.chk]
      intro m hm
      by_cases hxy : x = y
      · subst hxy
        have hlt : j < endN a b := by
          rcases Nat.lt_or_ge j (endN a b) with h | h
          · exact h
          · have e : endN a b + 1 = k := by omega
            exact absurd rfl (end_ne a b x x (by omega) (by omega) (by rw [e]; exact hx) (by rw [e]; exact hy))
        obtain ⟨q1, q2⟩ := hvO_back a b k (by omega) (by omega)
        have hrn : k ≤ (hvO a b 0 0).length := by omega
        have hre : (prs (np (hvO a b 0 0)))[(hvO a b 0 0).length - k]? = some [.int .i64 ((a.length : Int) - k), .int .i64 ((b.length : Int) - k)] := by
          have : (np (hvO a b 0 0))[(hvO a b 0 0).length - k]? = some ((a.length : Int) - k, (b.length : Int) - k) := by
            rw [np, List.getElem?_map, q2]; simp; omega
          exact prs_at this
        have eR := hR.el τ.obj
        have tR := hR.at' _ _ hre
        have hrl : (hvO a b 0 0).length ≤ 100000 := by rw [hvO_len]; have := (lcs_bd a b).1; omega
        generalize (hvO a b 0 0).length = nr at hrn hre tR lR hrl
        have wr : IntKind.i64.wrap ((nr : Int) - k) = (nr : Int) - k := wrap_id (by omega) (by omega)
        have d1 : ¬ (nr : Int) - k < 0 := by omega
        have d2 : ((nr : Int) - k).toNat = nr - k := by omega
        have d3 : (0 : Int) ≤ (nr : Int) - k := by omega
        have d4 : (k : Int) ≤ (nr : Int) := by omega
        have wk : IntKind.i64.wrap ((k : Int) + 1) = ((j + 1 + 1 : Nat) : Int) := by rw [wrap_id (by omega) (by omega)]; omega
        simp (disch := first | omega | (simp only [List.length_set]; omega)) [gl, g11, g12, g13, g15, g16, lA, lB, lR, wa, wb, wr, d1, d2, d3, d4, eR, tR, hre]
        refine ih' (j + 1) _ _ _ (by omega) ⟨by omega, ?_⟩
        simp (disch := first | omega | (simp only [List.length_set]; omega)) [gl, g11, g12, g13, g15, g16, wk]
        rw [hp]
      · simp (disch := first | omega | (simp only [List.length_set]; omega)) [gl, hxy]
        exact hK _ _ _ (by simp [gl])
    · have c2 : ¬ (p : Int) ≤ (b.length : Int) - k := by omega
      simp (disch := first | omega | (simp only [List.length_set]; omega)) [F4l0, gl, g11, g12, g15, g16, lA, lB, wa, wb, c1, c2]
      intro m hm
      exact hK _ _ _ (by simp [gl])
  · have c1 : ¬ (p : Int) ≤ (a.length : Int) - k := by omega
    simp (disch := first | omega | (simp only [List.length_set]; omega)) [F4l0, gl, g11, g12, g15, g16, lA, lB, wa, wb, c1]
    intro m hm
    exact hK _ _ _ (by simp [gl])

theorem myersEnds_spec (front : List Int) {X : AV} (hX : IsRow X (ints front)) (_ : ∀ v ∈ front, (Lit.int .i64 v).wf = true) (_ : front.length * 8 ≤ 140737488351232) (l : List Int) {Y : AV} (hY : IsRow Y (ints l)) (_ : ∀ v ∈ l, (Lit.int .i64 v).wf = true) (_ : l.length * 8 ≤ 140737488351232)
    (m : List Int) {Z : AV} (hZ : IsRow Z (ints m)) (_ : ∀ v ∈ m, (Lit.int .i64 v).wf = true) (_ : m.length * 8 ≤ 140737488351232) (back : List Int) {V : AV} (hV : IsRow V (ints back)) (_ : ∀ v ∈ back, (Lit.int .i64 v).wf = true) (_ : back.length * 8 ≤ 140737488351232) :
    PCall Try.prog W0 4 [X, Y, Z, V] (.bool true) := by
  refine pcall2 cok Try.func4 F4d F4e F4c F4w F4r (fun N => ?_)
  refine ev2I_intro ?_
  have k1 := kindL_len 5 front
  have k2 := kindL_len 5 l
  have k3 := kindL_len 5 m
  have k4 := kindL_len 5 back
  obtain ⟨f, hf⟩ : ∃ f, f = kindL 5 front := ⟨_, rfl⟩
  obtain ⟨x, hx⟩ : ∃ x, x = kindL 5 l := ⟨_, rfl⟩
  obtain ⟨y, hy⟩ : ∃ y, y = kindL 5 m := ⟨_, rfl⟩
  obtain ⟨g, hg⟩ : ∃ g, g = kindL 5 back := ⟨_, rfl⟩
  rw [← hf] at k1; rw [← hx] at k2; rw [← hy] at k3; rw [← hg] at k4
  simp (disch := first | omega | (simp only [List.length_set]; omega)) [F4s]
  refine hcallI_pure (few_spec front hX 5 (by omega) (by omega)) (by simp [hX.same (ints_bare _)]) (fun M hM => ?_)
  rw [← hf]
  simp (disch := first | omega | (simp only [List.length_set]; omega)) []
  refine hcallI_pure (few_spec back hV 5 (by omega) (by omega)) (by simp [hV.same (ints_bare _)]) (fun M hM => ?_)
  rw [← hg]
  simp (disch := first | omega | (simp only [List.length_set]; omega)) []
  refine andI_intro ⟨fun e he => ints_one he, by omega, by omega⟩ ?_
  simp (disch := first | omega | (simp only [List.length_set]; omega)) []
  refine hcallI_pure (few_spec l hY 5 (by omega) (by omega)) (by simp [hY.same (ints_bare _)]) (fun M hM => ?_)
  rw [← hx]
  simp (disch := first | omega | (simp only [List.length_set]; omega)) []
  refine andI_intro ⟨fun e he => ints_one he, by omega, by omega⟩ ?_
  simp (disch := first | omega | (simp only [List.length_set]; omega)) []
  refine andI_intro ⟨fun e he => ints_one he, by omega, by omega⟩ ?_
  simp (disch := first | omega | (simp only [List.length_set]; omega)) []
  refine andI_intro ⟨fun e he => ints_one he, by omega, by omega⟩ ?_
  simp (disch := first | omega | (simp only [List.length_set]; omega)) []
  refine hcallI_pure (few_spec m hZ 5 (by omega) (by omega)) (by simp [hZ.same (ints_bare _)]) (fun M hM => ?_)
  rw [← hy]
  simp (disch := first | omega | (simp only [List.length_set]; omega)) []
  refine andI_intro ⟨fun e he => ints_one he, by omega, by omega⟩ ?_
  simp (disch := first | omega | (simp only [List.length_set]; omega)) []
  refine andI_intro ⟨fun e he => ints_one he, by omega, by omega⟩ ?_
  simp (disch := first | omega | (simp only [List.length_set]; omega)) []
  have eA : ints f ++ (ints x ++ ints g) = ints (f ++ x ++ g) := by simp
  have eB : ints f ++ (ints y ++ ints g) = ints (f ++ y ++ g) := by simp
  rw [eA, eB]
  have hal : (f ++ x ++ g).length ≤ 450 := by simp; omega
  have hbl : (f ++ y ++ g).length ≤ 450 := by simp; omega
  generalize f ++ x ++ g = a at hal ⊢
  generalize f ++ y ++ g = b at hbl ⊢
  refine hcallI_pure (of_spec (IsRow.row (ints a)) (IsRow.row (ints b)) (by omega) (by omega)) (by simp) (fun M hM => ?_)
  simp (disch := first | omega | (simp only [List.length_set]; omega)) []
  refine hcallI_pure known_spec (by simp) (fun M hM => ?_)
  simp (disch := first | omega | (simp only [List.length_set]; omega)) []
  refine ends_l1 (a := a) (b := b) (R := rowV (prs (np (hvO a b 0 0)))) (A := .row (ints a) _) (B := .row (ints b) _) (RowL.row _ _) (RowL.row _ _) (isRow_rl (IsRow.rowV _)) (by omega) (by omega) ?_ _ _ _ (by rfl) (by rfl) (by rfl) (by rfl) (by rfl)
  intro ts loc τ gl g11 g12 g13 g15
  simp (disch := first | omega | (simp only [List.length_set]; omega)) [gl]
  refine ends_l0 (a := a) (b := b) (R := rowV (prs (np (hvO a b 0 0)))) (RowL.row _ _) (RowL.row _ _) (isRow_rl (IsRow.rowV _)) (by omega) (by omega) ?_ _ _ _ (by simp [gl]) (Eq.trans (by simp (disch := first | omega | (simp only [List.length_set]; omega)) []) g11) (Eq.trans (by simp (disch := first | omega | (simp only [List.length_set]; omega)) []) g12) (by simp (disch := first | omega | (simp only [List.length_set]; omega)) [g13]) (by simp (disch := first | omega | (simp only [List.length_set]; omega)) [g15]) (by simp (disch := first | omega | (simp only [List.length_set]; omega)) [])
  intro ts loc τ gl
  simp (disch := first | omega | (simp only [List.length_set]; omega)) [gl]
end Go.Proofs.Ytinfmkmebemhcaa.Lt
