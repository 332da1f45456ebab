import Derived.Test.YtbmkgpocnkiibaaLt
import Derived.Test.YtbmkgpocnkiibaaA22
/- Rows of few numbers; are two rows the same; whether pairs are a common row. -/
namespace Go.Proofs.Ytbmkgpocnkiibaa.Lt
open Go.Proofs.YtbmkgpocnkiibaaW.Abs Go
set_option maxRecDepth 100000
set_option maxHeartbeats 1000000
set_option linter.unusedSimpArgs false
set_option linter.unusedVariables false
variable {W0 : World}

def fewN (x : Int) : Int := (x % 18446744073709551616) % 6
theorem fewN_bd (x : Int) : 0 ≤ fewN x ∧ fewN x < 6 := by unfold fewN; omega
def fewL (l : List Int) : List Int := (l.take 80).map fewN

theorem fewN_eq (x : Int) : IntKind.i64.wrap (((IntKind.u64.wrap x).tmod 6)) = fewN x := by
  have h1 : IntKind.u64.wrap x = x % 18446744073709551616 := by rw [IntKind.wrap_u64]
  rw [h1, Int.tmod_eq_emod_of_nonneg (by omega)]
  rw [wrap_id (by omega) (by omega)]; rfl

theorem few_spec (l : List Int) {A : AV} (hA : IsRow A (ints l)) : PCall Try.prog W0 7 [A] (rowV (ints (fewL l))) := by
  refine pcall2 cok Try.func7 F7d F7e F7c F7w F7r (fun N => ?_)
  refine ev2I_intro ?_
  have key : ∀ (m : List Int) (B : AV) (ts : List AV) (loc : Go.Proofs.YtbmkgpocnkiibaaW.Abs.Loc) (τ : Heap), m.length ≤ 80 → IsRow B (ints m) → ts.length = 27 → tmp ts 0 = B → tmp ts 3 = .nils → tmp ts 4 = .int .i64 0 → ∀ K : KC2, (∀ ts loc τ tok, tmp ts 3 = accV (ints (m.map fewN)) tok → ts.length = 27 → K.k (.exit 0) ts loc τ) → @loop2I Try.prog W0 C [] K F7l0 ts loc τ := by
    intro m B ts loc τ hm hB hl h0 h3 h4 K hK
    refine loop2I_ind cok F7l0w (m := fun i => m.length - i) (I := fun i ts loc τ => i ≤ m.length ∧ ts.length = 27 ∧ tmp ts 0 = B ∧ tmp ts 4 = .int .i64 i ∧ ∃ acc tok, tmp ts 3 = accV (ints acc) tok ∧ AccL (loc 0) 1 tok (ints acc) ∧ acc.length = i ∧ acc ++ (m.drop i).map fewN = m.map fewN) ?_ 0 ⟨by omega, hl, h0, by simpa using h4, [], 0, by simpa using h3, by simp, rfl, by simp⟩
    clear hl h0 h3 h4 ts loc τ
    rintro i ts loc τ ⟨hi, hl, h0, h4, acc, tok, h3, ha, hal, hR⟩ ih'
    simp (disch := first | omega | (simp only [List.length_set]; omega)) [F7l0, h0, h3, h4, hl, hB.len]
    by_cases hlt : i < m.length
    · obtain ⟨x, hx⟩ : ∃ x, m[i]? = some x := ⟨m[i], by simp [hlt]⟩
      have hxe := ints_at hx
      simp (disch := first | omega | (simp only [List.length_set]; omega)) [hlt, h0, h3, h4, hl, hB.elems, hB.at hxe, hxe, fewN_eq, ha.grow]
      refine andI_intro (by omega) ?_
      simp (disch := first | omega | (simp only [List.length_set]; omega)) [hlt, h0, h3, h4, hl, wrap_id]
      refine ih' (i + 1) _ _ _ (by omega) ⟨by omega, ?_⟩
      simp (disch := first | omega | (simp only [List.length_set]; omega)) [h0, h3, h4, hl, wrap_id]
      rw [drop_at hx] at hR
      exact ⟨acc ++ [fewN x], _, by rw [ints_app]; rfl, AccL.next' _ _ _ (by rw [ints_app]; rfl), by simp; omega, by simpa using hR⟩
    · have hR' : acc = m.map fewN := by rw [List.drop_of_length_le (by omega)] at hR; simpa using hR
      rw [hR'] at h3
      simp (disch := first | omega | (simp only [List.length_set]; omega)) [hlt, h0, h3, h4, hl]
      exact hK _ _ _ tok (by simp (disch := first | omega | (simp only [List.length_set]; omega)) [h3]) (by simp [hl])
  simp [F7s, hA.len]
  refine condI_dec (fun h => ?_) (fun h => ?_)
  · simp
    refine andI_intro (by rw [hA.slOk]; exact ⟨by omega, by omega, by simp; omega, fun e he => ints_one he⟩) ?_
    have hB := hA.sub 0 80 (by simp; omega)
    rw [ints_cut] at hB
    simp
    refine key (l.take 80) (subVal 0 (fun _ => 80) A) _ _ _ (by simp; omega) (by simpa using hB) (by simp) (by simp) (by simp) (by simp) _ (fun ts loc τ tok h3 hl => ?_)
    simp (disch := first | omega | (simp only [List.length_set]; omega)) [h3, hl, fewL]
  · simp
    refine key l A _ _ _ (by omega) hA (by simp) (by simp) (by simp) (by simp) _ (fun ts loc τ tok h3 hl => ?_)
    simp (disch := first | omega | (simp only [List.length_set]; omega)) [h3, hl, fewL, List.take_of_length_le (show l.length ≤ 80 by omega)]

theorem same_spec (a b : List Int) {A B : AV} (hA : IsRow A (ints a)) (hB : IsRow B (ints b)) (hl : a.length ≤ 140737488355328) : PCall Try.prog W0 11 [A, B] (.bool (decide (a = b))) := by
  refine pcall2 cok Try.func11 F11d F11e F11c F11w F11r (fun N => ?_)
  refine ev2I_intro ?_
  simp [F11s, hA.len, hB.len]
  by_cases hlen : a.length = b.length
  · simp [hlen]
    refine loop2I_ind cok F11l0w (m := fun i => a.length - i) (I := fun i ts loc τ => i ≤ a.length ∧ ts.length = 26 ∧ tmp ts 0 = A ∧ tmp ts 1 = B ∧ tmp ts 5 = .int .i64 i ∧ decide (a.drop i = b.drop i) = decide (a = b)) ?_ 0 ?_
    · rintro i ts loc τ ⟨hi, hts, h0, h1, h5, hs⟩ ih'
      simp (disch := first | omega | (simp only [List.length_set]; omega)) [F11l0, h0, h1, h5, hA.len, hts]
      by_cases hlt : i < a.length
      · obtain ⟨x, hx⟩ : ∃ x, a[i]? = some x := ⟨a[i], by simp [hlt]⟩
        obtain ⟨y, hy⟩ : ∃ y, b[i]? = some y := ⟨b[i]'(by omega), by simp [hlen ▸ hlt]⟩
        have ha := ints_at hx
        have hb := ints_at hy
        rw [drop_at hx, drop_at hy] at hs
        simp (disch := first | omega | (simp only [List.length_set]; omega)) [hlt, h0, h1, h5, hts, hA.elems, hB.elems, hA.chk, hB.chk, hA.at ha, hB.at hb, ha, hb]
        by_cases hxy : x = y
        · subst hxy
          simp at hs
          simp (disch := first | omega | (simp only [List.length_set]; omega)) [h0, h1, h5, hts]
          intro M hM
          refine ih' (i + 1) _ _ _ (by omega) ⟨by omega, ?_⟩
          simp (disch := first | omega | (simp only [List.length_set]; omega)) [h0, h1, h5, hts, wrap_id]
          simpa using hs
        · simp [hxy] at hs
          simp (disch := first | omega | (simp only [List.length_set]; omega)) [hxy, h0, h1, h5, hts]
          intro M hM
          simpa using hs
      · simp (disch := first | omega | (simp only [List.length_set]; omega)) [hlt, h0, h1, h5, hts]
        rw [List.drop_of_length_le (by omega), List.drop_of_length_le (by omega)] at hs
        simpa using hs
    · simp
  · have hne : a ≠ b := fun e => hlen (by rw [e])
    have hlen' : ¬ ((a.length : Int) = b.length) := by omega
    simp [hlen', hne]

/-- the partner of a place -/
def toF : List (Int × Int) → Int → Int
  | [], _ => -1
  | p :: r, i => if p.1 = i then p.2 else toF r i
theorem to_spec (l : List (Int × Int)) (x : Int) {A : AV} (hA : IsRow A (prs l)) (hl : l.length ≤ 140737488355328) : PCall Try.prog W0 19 [A, .int .i64 x] (.int .i64 (toF l x)) := by
  refine pcall2 cok Try.func19 F19d F19e F19c F19w F19r (fun N => ?_)
  refine ev2I_intro ?_
  simp [F19s]
  refine loop2I_ind cok F19l0w (m := fun i => l.length - i) (I := fun i ts loc τ => i ≤ l.length ∧ ts.length = 24 ∧ tmp ts 0 = A ∧ tmp ts 1 = .int .i64 x ∧ tmp ts 5 = .int .i64 i ∧ toF (l.drop i) x = toF l x) ?_ 0 ?_
  · rintro i ts loc τ ⟨hi, hts, h0, h1, h5, hs⟩ ih'
    simp (disch := first | omega | (simp only [List.length_set]; omega)) [F19l0, h0, h1, h5, hA.len, hts]
    by_cases hlt : i < l.length
    · obtain ⟨p, hp⟩ : ∃ p, l[i]? = some p := ⟨l[i], by simp [hlt]⟩
      have ha := prs_at hp
      rw [drop_at hp, toF] at hs
      simp (disch := first | omega | (simp only [List.length_set]; omega)) [hlt, h0, h1, h5, hts, hA.elems, hA.at ha, ha]
      by_cases hxy : p.1 = x
      · rw [if_pos hxy] at hs
        simp (disch := first | omega | (simp only [List.length_set]; omega)) [hxy, h0, h1, h5, hts, hA.elems, hA.at ha, ha]
        exact hs
      · rw [if_neg hxy] at hs
        simp (disch := first | omega | (simp only [List.length_set]; omega)) [hxy, h0, h1, h5, hts]
        refine ih' (i + 1) _ _ _ (by omega) ⟨by omega, ?_⟩
        simp (disch := first | omega | (simp only [List.length_set]; omega)) [h0, h1, h5, hts, wrap_id]
        exact hs
    · simp (disch := first | omega | (simp only [List.length_set]; omega)) [hlt, h0, h1, h5, hts]
      rw [List.drop_of_length_le (by omega)] at hs
      simpa [toF] using hs
  · simp
end Go.Proofs.Ytbmkgpocnkiibaa.Lt

/- Whether pairs are a common row. -/
namespace Go.Proofs.Ytbmkgpocnkiibaa.Lt
open Go.Proofs.YtbmkgpocnkiibaaW.Abs Go
set_option maxRecDepth 100000
set_option maxHeartbeats 1000000
set_option linter.unusedSimpArgs false
set_option linter.unusedVariables false
variable {W0 : World}

/-- a pair of places that hold the same number -/
def pairOk (a b : List Int) (p : Int × Int) : Bool := decide (0 ≤ p.1) && decide (p.1 < a.length) && decide (0 ≤ p.2) && decide (p.2 < b.length) && decide (a[p.1.toNat]? = b[p.2.toNat]?)
/-- .. and behind the one before -/
def rightR (a b : List Int) : Option (Int × Int) → List (Int × Int) → Bool
  | _, [] => true
  | q, p :: r => pairOk a b p && (match q with | some q => decide (q.1 < p.1) && decide (q.2 < p.2) | none => true) && rightR a b (some p) r
theorem rightR_cons (a b : List Int) (q : Option (Int × Int)) (p : Int × Int) (r : List (Int × Int)) : rightR a b q (p :: r) = (pairOk a b p && (match q with | some q => decide (q.1 < p.1) && decide (q.2 < p.2) | none => true) && rightR a b (some p) r) := rfl
theorem rightR_nil (a b : List Int) (q : Option (Int × Int)) : rightR a b q [] = true := by simp [rightR]
def before {α : Type} (l : List α) (i : Nat) : Option α := if i = 0 then none else l[i - 1]?
theorem before_succ {α : Type} {l : List α} {i : Nat} {x : α} (h : l[i]? = some x) : before l (i + 1) = some x := by simp [before, h]

theorem refRight_spec (a b : List Int) (l : List (Int × Int)) {A B L : AV} (hA : IsRow A (ints a)) (hB : IsRow B (ints b)) (hL : IsRow L (prs l)) (hl : l.length ≤ 140737488355328) : PCall Try.prog W0 18 [A, B, L] (.bool (rightR a b none l)) := by
  refine pcall2 cok Try.func18 F18d F18e F18c F18w F18r (fun N => ?_)
  refine ev2I_intro ?_
  simp [F18s]
  refine loop2I_ind cok F18l0w (m := fun i => l.length - i) (I := fun i ts loc τ => i ≤ l.length ∧ ts.length = 77 ∧ tmp ts 0 = A ∧ tmp ts 1 = B ∧ tmp ts 2 = L ∧ tmp ts 7 = .int .i64 i ∧ rightR a b (before l i) (l.drop i) = rightR a b none l) ?_ 0 ?_
  · rintro i ts loc τ ⟨hi, hts, h0, h1, h2, h7, hs⟩ ih'
    simp (disch := first | omega | (simp only [List.length_set]; omega)) [F18l0, h0, h1, h2, h7, hL.len, hts]
    by_cases hlt : i < l.length
    · obtain ⟨p, hp⟩ : ∃ p, l[i]? = some p := ⟨l[i], by simp [hlt]⟩
      have hpe := prs_at hp
      rw [drop_at hp, rightR_cons] at hs
      obtain ⟨x, y⟩ := p
      simp (disch := first | omega | (simp only [List.length_set]; omega)) [hlt, h0, h1, h2, h7, hts, hL.elems, hL.chk, hL.at hpe, hpe]
      intro M hM
      by_cases hx0 : x < 0
      · simp (disch := first | omega | (simp only [List.length_set]; omega)) [hx0, h0, h1, h2, h7, hts]
        intro M2 hM2
        rw [← hs]; simp [pairOk, hx0]
        omega
      by_cases hxa : (a.length : Int) ≤ x
      · simp (disch := first | omega | (simp only [List.length_set]; omega)) [hx0, hxa, hA.len, h0, h1, h2, h7, hts]
        intro M2 hM2
        rw [← hs]; simp [pairOk]
        omega
      by_cases hy0 : y < 0
      · simp (disch := first | omega | (simp only [List.length_set]; omega)) [hx0, hxa, hy0, hA.len, h0, h1, h2, h7, hts]
        intro M2 hM2
        rw [← hs]; simp [pairOk]
        omega
      by_cases hyb : (b.length : Int) ≤ y
      · simp (disch := first | omega | (simp only [List.length_set]; omega)) [hx0, hxa, hy0, hyb, hA.len, hB.len, h0, h1, h2, h7, hts]
        intro M2 hM2
        rw [← hs]; simp [pairOk]
        omega
      obtain ⟨u, hu⟩ : ∃ u, a[x.toNat]? = some u := ⟨a[x.toNat]'(by omega), List.getElem?_eq_getElem (by omega)⟩
      obtain ⟨v, hv⟩ : ∃ v, b[y.toNat]? = some v := ⟨b[y.toNat]'(by omega), List.getElem?_eq_getElem (by omega)⟩
      have hue := ints_at hu
      have hve := ints_at hv
      have hx0' : 0 ≤ x := by omega
      have hy0' : 0 ≤ y := by omega
      simp (disch := first | omega | (simp only [List.length_set]; omega)) [hx0, hxa, hy0, hyb, hx0', hy0', hA.len, hB.len, hA.elems, hB.elems, hA.chk, hB.chk, hA.at hue, hB.at hve, hue, hve, h0, h1, h2, h7, hts]
      intro M2 hM2
      by_cases huv : u = v
      · subst huv
        have hpok : pairOk a b (x, y) = true := by simp [pairOk, hu, hv, hx0', hy0']; omega
        rw [hpok] at hs
        by_cases hi0 : i = 0
        · subst hi0
          simp (disch := first | omega | (simp only [List.length_set]; omega)) [h0, h1, h2, h7, hts]
          refine ih' 1 _ _ _ (by omega) ⟨by omega, ?_⟩
          simp (disch := first | omega | (simp only [List.length_set]; omega)) [h0, h1, h2, h7, hts, wrap_id]
          simpa [before, hp] using hs
        · have hip : 0 < i := by omega
          obtain ⟨q, hq⟩ : ∃ q, l[i - 1]? = some q := ⟨l[i - 1]'(by omega), List.getElem?_eq_getElem (by omega)⟩
          have hbf : before l i = some q := by simp [before, hi0, hq]
          have hqe := prs_at hq
          have e1 : ((i : Int) - 1).toNat = i - 1 := by omega
          have e2 : (0 : Int) ≤ (i : Int) - 1 := by omega
          rw [hbf] at hs
          obtain ⟨qx, qy⟩ := q
          have e3 : (1 : Int) ≤ (i : Int) := by omega
          by_cases hqx : qx < x
          · have hqx' : ¬ x ≤ qx := by omega
            by_cases hqy : qy < y
            · have hqy' : ¬ y ≤ qy := by omega
              simp (disch := first | omega | (simp only [List.length_set]; omega)) [hip, h0, h1, h2, h7, hts, wrap_id, e1, e2, e3, hL.elems, hL.at hqe, hqe, hqx, hqx', hqy, hqy']
              refine ih' (i + 1) _ _ _ (by omega) ⟨by omega, ?_⟩
              simp (disch := first | omega | (simp only [List.length_set]; omega)) [h0, h1, h2, h7, hts, wrap_id]
              simp [hqx, hqy] at hs
              rw [before_succ hp]; exact hs
            · have hqy' : y ≤ qy := by omega
              simp [hqy] at hs
              simp (disch := first | omega | (simp only [List.length_set]; omega)) [hip, h0, h1, h2, h7, hts, wrap_id, e1, e2, e3, hL.elems, hL.at hqe, hqe, hqx, hqx', hqy, hqy']
              exact hs
          · have hqx' : x ≤ qx := by omega
            simp [hqx] at hs
            simp (disch := first | omega | (simp only [List.length_set]; omega)) [hip, h0, h1, h2, h7, hts, wrap_id, e1, e2, e3, hL.elems, hL.at hqe, hqe, hqx, hqx']
            exact hs
      · simp (disch := first | omega | (simp only [List.length_set]; omega)) [hts, huv]
        rw [← hs]; simp [pairOk, hu, hv, huv]
    · simp (disch := first | omega | (simp only [List.length_set]; omega)) [hlt, h0, h1, h2, h7, hts]
      rw [List.drop_of_length_le (by omega)] at hs
      simpa [rightR_nil] using hs
  · simp [before]
end Go.Proofs.Ytbmkgpocnkiibaa.Lt

/- Whether pairs are a common row, as the program asks it. -/
namespace Go.Proofs.Ytbmkgpocnkiibaa.Lt
open Go.Proofs.YtbmkgpocnkiibaaW.Abs Go
set_option maxRecDepth 100000
set_option maxHeartbeats 2000000
set_option linter.unusedSimpArgs false
set_option linter.unusedVariables false
variable {W0 : World}

def stepM (a b : List Int) (q p : Int × Int) : Bool := decide (q.1 < p.1) && decide (q.2 < p.2) && decide (p.1 < a.length) && decide (p.2 < b.length) && decide (a[p.1.toNat]? = b[p.2.toNat]?)
def rightM (a b : List Int) : Int × Int → List (Int × Int) → Bool
  | _, [] => true
  | q, p :: r => stepM a b q p && rightM a b p r
theorem rightM_cons (a b : List Int) (q p : Int × Int) (r : List (Int × Int)) : rightM a b q (p :: r) = (stepM a b q p && rightM a b p r) := rfl
theorem rightM_some (a b : List Int) : ∀ (l : List (Int × Int)) (q : Int × Int), 0 ≤ q.1 → 0 ≤ q.2 → rightM a b q l = rightR a b (some q) l
  | [], q, _, _ => by simp [rightM, rightR]
  | p :: r, q, h1, h2 => by
    rw [rightM_cons, rightR_cons]
    by_cases hs : stepM a b q p = true
    · have hs' := hs
      simp only [stepM, Bool.and_eq_true, decide_eq_true_eq] at hs'
      obtain ⟨⟨⟨⟨g1, g2⟩, g3⟩, g4⟩, g5⟩ := hs'
      rw [rightM_some a b r p (by omega) (by omega), hs]
      have e3 : decide (0 ≤ p.1) = true := decide_eq_true (by omega)
      have e4 : decide (0 ≤ p.2) = true := decide_eq_true (by omega)
      have e5 : pairOk a b p = true := by
        simp only [pairOk, e3, e4, decide_eq_true g3, decide_eq_true g4, decide_eq_true g5, Bool.and_self]
      rw [e5]
      simp [g1, g2]
    · have hs0 : stepM a b q p = false := by simpa using hs
      rw [hs0]
      have : (pairOk a b p && (decide (q.1 < p.1) && decide (q.2 < p.2))) = false := by
        cases hh : (pairOk a b p && (decide (q.1 < p.1) && decide (q.2 < p.2))) with
        | false => rfl
        | true =>
          simp only [pairOk, Bool.and_eq_true, decide_eq_true_eq] at hh
          exfalso; apply hs
          simp only [stepM, Bool.and_eq_true, decide_eq_true_eq]
          exact ⟨⟨⟨⟨hh.2.1, hh.2.2⟩, hh.1.1.1.1.2⟩, hh.1.1.2⟩, hh.1.2⟩
      simp only at this ⊢
      rw [this]; rfl
theorem rightM_none (a b : List Int) : ∀ l : List (Int × Int), rightM a b (-1, -1) l = rightR a b none l
  | [] => by simp [rightM, rightR]
  | p :: r => by
    rw [rightM_cons, rightR_cons]
    by_cases h0 : 0 ≤ p.1 ∧ 0 ≤ p.2
    · rw [rightM_some a b r p h0.1 h0.2]
      have : stepM a b (-1, -1) p = pairOk a b p := by
        simp only [stepM, pairOk]
        have e1 : decide (-1 < p.1) = true := by simp; omega
        have e2 : decide (-1 < p.2) = true := by simp; omega
        have e3 : decide (0 ≤ p.1) = true := by simp; omega
        have e4 : decide (0 ≤ p.2) = true := by simp; omega
        simp only [e1, e2, e3, e4, Bool.true_and]
        cases decide (p.1 < a.length) <;> simp
      rw [this]; simp
    · have e1 : stepM a b (-1, -1) p = false := by
        simp only [stepM]
        cases hh : (decide (-1 < p.1) && decide (-1 < p.2)) with
        | false => simp only [Bool.false_and]
        | true => simp only [Bool.and_eq_true, decide_eq_true_eq] at hh; omega
      have e2 : pairOk a b p = false := by
        cases hh : pairOk a b p with
        | false => rfl
        | true => simp only [pairOk, Bool.and_eq_true, decide_eq_true_eq] at hh; omega
      rw [e1, e2]; rfl

theorem right_spec (a b : List Int) (l : List (Int × Int)) {A B L : AV} (hA : IsRow A (ints a)) (hB : IsRow B (ints b)) (hL : IsRow L (prs l)) (hl : l.length ≤ 140737488355328) : PCall Try.prog W0 15 [A, B, L] (.bool (rightM a b (-1, -1) l)) := by
  refine pcall2 cok Try.func15 F15d F15e F15c F15w F15r (fun N => ?_)
  refine ev2I_intro ?_
  simp [F15s, hL.len]
  refine loop2I_ind cok F15l0w (m := fun i => l.length - i) (I := fun i ts loc τ => i ≤ l.length ∧ ts.length = 58 ∧ N + 2 < τ.next ∧ tmp ts 0 = A ∧ tmp ts 1 = B ∧ tmp ts 7 = .bp (N + 2) 0 0 ∧ tmp ts 11 = L ∧ tmp ts 12 = .int .i64 l.length ∧ tmp ts 13 = .int .i64 i ∧ ∃ q : Int × Int, -1 ≤ q.1 ∧ -1 ≤ q.2 ∧ loc 0 = .box (N + 2) 31 [[.int .i64 q.1, .int .i64 q.2]] ∧ rightM a b q (l.drop i) = rightM a b (-1, -1) l) ?_ 0 ?_
  · rintro i ts loc τ ⟨hi, hts, hN, h0, h1, h7, h11, h12, h13, q, hq1, hq2, hlc, hs⟩ ih'
    simp (disch := first | omega | (simp only [List.length_set]; omega)) [F15l0, h0, h1, h7, h11, h12, h13, hts]
    by_cases hlt : i < l.length
    · obtain ⟨p, hp⟩ : ∃ p, l[i]? = some p := ⟨l[i], by simp [hlt]⟩
      have hpe := prs_at hp
      rw [drop_at hp, rightM_cons] at hs
      obtain ⟨x, y⟩ := p
      obtain ⟨qx, qy⟩ := q
      dsimp only at hq1 hq2 hlc
      have hN1 : N + 2 < τ.next + 1 + 4 := by omega
      have hN2 : τ.next + 1 + 2 < τ.next + 1 + 4 := by omega
      simp (disch := first | omega | (simp only [List.length_set]; omega)) [hlt, h0, h1, h7, h11, h12, h13, hts, hL.elems, hL.at hpe, hpe, hlc, hN1, hN2]
      have hno : stepM a b (qx, qy) (x, y) = false → rightM a b (-1, -1) l = false := fun h => by rw [← hs, h]; rfl
      have hof : ∀ {c : Prop} [Decidable c], ¬ c → decide c = false := fun h => decide_eq_false h
      by_cases hx : x ≤ qx
      · simp (disch := first | omega | (simp only [List.length_set]; omega)) [hx, h0, h1, h7, h11, h12, h13, hts]
        intro M hM
        exact hno (by simp [stepM, hof (show ¬ qx < x by omega)])
      by_cases hy : y ≤ qy
      · simp (disch := first | omega | (simp only [List.length_set]; omega)) [hx, hy, h0, h1, h7, h11, h12, h13, hts, hN1, hN2, hlc]
        intro M hM
        exact hno (by simp [stepM, hof (show ¬ qy < y by omega)])
      by_cases hxa : (a.length : Int) ≤ x
      · simp (disch := first | omega | (simp only [List.length_set]; omega)) [hx, hy, hxa, hA.len, h0, h1, h7, h11, h12, h13, hts, hN1, hN2, hlc]
        intro M hM
        exact hno (by simp [stepM, hof (show ¬ x < a.length by omega)])
      by_cases hyb : (b.length : Int) ≤ y
      · simp (disch := first | omega | (simp only [List.length_set]; omega)) [hx, hy, hxa, hyb, hA.len, hB.len, h0, h1, h7, h11, h12, h13, hts, hN1, hN2, hlc]
        intro M hM
        exact hno (by simp [stepM, hof (show ¬ y < b.length by omega)])
      have hx0 : 0 ≤ x := by omega
      have hy0 : 0 ≤ y := by omega
      obtain ⟨u, hu⟩ : ∃ u, a[x.toNat]? = some u := ⟨a[x.toNat]'(by omega), List.getElem?_eq_getElem (by omega)⟩
      obtain ⟨v, hv⟩ : ∃ v, b[y.toNat]? = some v := ⟨b[y.toNat]'(by omega), List.getElem?_eq_getElem (by omega)⟩
      have hue := ints_at hu
      have hve := ints_at hv
      simp (disch := first | omega | (simp only [List.length_set]; omega)) [hx, hy, hxa, hyb, hx0, hy0, hA.len, hB.len, hA.elems, hB.elems, hA.chk, hB.chk, hA.at hue, hB.at hve, hue, hve, h0, h1, h7, h11, h12, h13, hts, hN1, hN2, hlc]
      intro M hM
      by_cases huv : u = v
      · subst huv
        have hst : stepM a b (qx, qy) (x, y) = true := by
          simp only [stepM, Bool.and_eq_true, decide_eq_true_eq]
          exact ⟨⟨⟨⟨by omega, by omega⟩, by omega⟩, by omega⟩, by rw [hu, hv]⟩
        rw [hst] at hs
        simp (disch := first | omega | (simp only [List.length_set]; omega)) [h0, h1, h7, h11, h12, h13, hts, hlc]
        refine ih' (i + 1) _ _ _ (by omega) ⟨by omega, ?_⟩
        simp (disch := first | omega | (simp only [List.length_set]; omega)) [h0, h1, h7, h11, h12, h13, hts, hlc, wrap_id]
        refine ⟨by omega, x, by omega, y, by omega, ⟨rfl, rfl⟩, by simpa using hs⟩
      · simp (disch := first | omega | (simp only [List.length_set]; omega)) [huv, hts]
        exact hno (by simp only [stepM, hu, hv, Option.some.injEq, hof huv, Bool.and_false])
    · simp (disch := first | omega | (simp only [List.length_set]; omega)) [hlt, h0, h1, h7, h11, h12, h13, hts]
      rw [List.drop_of_length_le (by omega)] at hs
      simpa [rightM] using hs
  · simp
    exact ⟨-1, by omega, -1, by omega, ⟨rfl, rfl⟩, rfl⟩
end Go.Proofs.Ytbmkgpocnkiibaa.Lt

/- Of some pairs those that go on with a common row; are two rows equal. -/
namespace Go.Proofs.Ytbmkgpocnkiibaa.Lt
open Go.Proofs.YtbmkgpocnkiibaaW.Abs Go
set_option maxRecDepth 100000
set_option maxHeartbeats 2000000
set_option linter.unusedSimpArgs false
set_option linter.unusedVariables false
variable {W0 : World}

def pairsF (a b : List Int) : List (Int × Int) → List (Int × Int) → List (Int × Int)
  | acc, [] => acc
  | acc, p :: r => pairsF a b (if rightR a b none (acc ++ [p]) = true then acc ++ [p] else acc) r

theorem pairs_spec (a b : List Int) (l : List (Int × Int)) {A B L : AV} (hA : IsRow A (ints a)) (hB : IsRow B (ints b)) (hL : IsRow L (prs l)) : PCall Try.prog W0 9 [A, B, L] (rowV (prs (pairsF a b [] (l.take 100)))) := by
  refine pcall2 cok Try.func9 F9d F9e F9c F9w F9r (fun N => ?_)
  refine ev2I_intro ?_
  simp [F9s]
  refine loop2I_ind cok F9l0w (m := fun i => 100 - i) (I := fun i ts loc τ => i ≤ l.length ∧ i ≤ 100 ∧ ts.length = 39 ∧ tmp ts 0 = A ∧ tmp ts 1 = B ∧ tmp ts 2 = L ∧ tmp ts 8 = .int .i64 i ∧ ∃ acc tok, tmp ts 7 = accV (prs acc) tok ∧ AccL (loc 1) 2 tok (prs acc) ∧ acc.length ≤ i ∧ pairsF a b acc ((l.take 100).drop i) = pairsF a b [] (l.take 100)) ?_ 0 ?_
  · rintro i ts loc τ ⟨hi, hi2, hts, h0, h1, h2, h8, acc, tok, h7, ha, hal, hR⟩ ih'
    simp (disch := first | omega | (simp only [List.length_set]; omega)) [F9l0, h0, h1, h2, h7, h8, hL.len, hts]
    have hfin : ¬ (i < l.length ∧ i < 100) → acc = pairsF a b [] (l.take 100) := fun h => by
      rw [List.drop_of_length_le (by simp; omega)] at hR; simpa [pairsF] using hR
    by_cases hlt : i < l.length
    · by_cases hlh : i < 100
      · obtain ⟨p, hp⟩ : ∃ p, l[i]? = some p := ⟨l[i], by simp [hlt]⟩
        have hpe := prs_at hp
        have hpt : (l.take 100)[i]? = some p := by rw [List.getElem?_take, if_pos hlh]; exact hp
        rw [drop_at hpt, pairsF] at hR
        have hlh' : (i : Int) < 100 := by omega
        simp (disch := first | omega | (simp only [List.length_set]; omega)) [hlt, hlh', h0, h1, h2, h7, h8, hts, hL.elems, hL.at hpe, hpe, hL.chk]
        refine andI_intro ⟨fun e he => prs_two he, by omega, by omega⟩ ?_
        simp (disch := first | omega | (simp only [List.length_set]; omega)) [hlt, hlh', h0, h1, h2, h7, h8, hts, hL.elems, hL.at hpe, hpe, hL.chk]
        refine andI_intro ⟨by omega, by omega⟩ ?_
        simp (disch := first | omega | (simp only [List.length_set]; omega)) [hlt, hlh', h0, h1, h2, h7, h8, hts, hL.elems, hL.at hpe, hpe, hL.chk]
        refine pcallI_pure' (refRight_spec a b (acc ++ [p]) hA hB (L := .row (prs (acc ++ [p])) none) (.inr rfl) (by simp; omega)) ?_ ?_
        · simp [bareL, hA.same (ints_bare a), hB.same (ints_bare b)]
          simp [prs]
        by_cases hr : rightR a b none (acc ++ [p]) = true
        · rw [if_pos hr] at hR
          simp (disch := first | omega | (simp only [List.length_set]; omega)) [hr, hlt, hlh', h0, h1, h2, h7, h8, hts, hL.elems, hL.at hpe, hpe, hL.chk, ha.grow]
          intro M hM
          refine andI_intro ⟨by omega, by omega⟩ ?_
          simp (disch := first | omega | (simp only [List.length_set]; omega)) [hlt, hlh', h0, h1, h2, h7, h8, hts]
          refine ih' (i + 1) _ _ _ (by omega) ⟨by omega, by omega, ?_⟩
          simp (disch := first | omega | (simp only [List.length_set]; omega)) [h0, h1, h2, h7, h8, hts, wrap_id]
          exact ⟨acc ++ [p], _, by rw [prs_app]; rfl, AccL.next' _ _ _ (by rw [prs_app]; rfl), by simp; omega, hR⟩
        · rw [if_neg hr] at hR
          simp (disch := first | omega | (simp only [List.length_set]; omega)) [hr, hlt, hlh', h0, h1, h2, h7, h8, hts]
          intro M hM
          refine ih' (i + 1) _ _ _ (by omega) ⟨by omega, by omega, ?_⟩
          simp (disch := first | omega | (simp only [List.length_set]; omega)) [h0, h1, h2, h7, h8, hts, wrap_id]
          exact ⟨acc, tok, rfl, ha, by omega, hR⟩
      · have hlh' : ¬ (i : Int) < 100 := by omega
        simp (disch := first | omega | (simp only [List.length_set]; omega)) [hlt, hlh', h0, h1, h2, h7, h8, hts]
        rw [hfin (by omega)]
    · simp (disch := first | omega | (simp only [List.length_set]; omega)) [hlt, h0, h1, h2, h7, h8, hts]
      rw [hfin (by omega)]
  · simp
    exact ⟨[], 0, by simp, by simp, rfl, rfl⟩

theorem equal_spec (a b : List Int) {A B : AV} (hA : IsRow A (ints a)) (hB : IsRow B (ints b)) (hl : a.length ≤ 140737488355328) : PCall Try.prog W0 22 [A, B] (.bool (decide (a = b))) := by
  refine pcall2 cok Try.func22 F22d F22e F22c F22w F22r (fun N => ?_)
  refine ev2I_intro ?_
  simp [F22s, hA.len, hB.len]
  by_cases hlen : a.length = b.length
  · simp [hlen, hA.len]
    refine loop2I_ind cok F22l0w (m := fun i => a.length - i) (I := fun i ts loc τ => i ≤ a.length ∧ ts.length = 26 ∧ tmp ts 0 = A ∧ tmp ts 1 = B ∧ tmp ts 12 = .int .i64 a.length ∧ tmp ts 13 = .int .i64 i ∧ decide (a.drop i = b.drop i) = decide (a = b)) ?_ 0 ?_
    · rintro i ts loc τ ⟨hi, hts, h0, h1, h12, h13, hs⟩ ih'
      simp (disch := first | omega | (simp only [List.length_set]; omega)) [F22l0, h0, h1, h12, h13, hts]
      by_cases hlt : i < a.length
      · obtain ⟨x, hx⟩ : ∃ x, a[i]? = some x := ⟨a[i], by simp [hlt]⟩
        obtain ⟨y, hy⟩ : ∃ y, b[i]? = some y := ⟨b[i]'(by omega), by simp [hlen ▸ hlt]⟩
        have ha := ints_at hx
        have hb := ints_at hy
        rw [drop_at hx, drop_at hy] at hs
        simp (disch := first | omega | (simp only [List.length_set]; omega)) [hlt, h0, h1, h12, h13, hts, hA.elems, hB.elems, hA.chk, hB.chk, hA.at ha, hB.at hb, ha, hb]
        intro M hM
        by_cases hxy : x = y
        · subst hxy
          simp at hs
          simp (disch := first | omega | (simp only [List.length_set]; omega)) [h0, h1, h12, h13, hts]
          refine ih' (i + 1) _ _ _ (by omega) ⟨by omega, ?_⟩
          simp (disch := first | omega | (simp only [List.length_set]; omega)) [h0, h1, h12, h13, hts, wrap_id]
          simpa using hs
        · simp [hxy] at hs
          simp (disch := first | omega | (simp only [List.length_set]; omega)) [hxy, h0, h1, h12, h13, hts]
          simpa using hs
      · simp (disch := first | omega | (simp only [List.length_set]; omega)) [hlt, h0, h1, h12, h13, hts]
        rw [List.drop_of_length_le (by omega), List.drop_of_length_le (by omega)] at hs
        simpa using hs
    · simp [hlen]
  · have hne : a ≠ b := fun e => hlen (by rw [e])
    have hlen' : ¬ ((a.length : Int) = b.length) := by omega
    simp [hlen', hne]
end Go.Proofs.Ytbmkgpocnkiibaa.Lt

/- Do two ranges hold the same numbers. -/
namespace Go.Proofs.Ytbmkgpocnkiibaa.Lt
open Go.Proofs.YtbmkgpocnkiibaaW.Abs Go
set_option maxRecDepth 100000
set_option maxHeartbeats 2000000
set_option linter.unusedSimpArgs false
set_option linter.unusedVariables false
variable {W0 : World}

def cut (l : List Int) (i j : Nat) : List Int := (l.take j).drop i
theorem cut_at {l : List Int} {i j : Nat} {x : Int} (h : l[i]? = some x) (hj : i < j) : cut l i j = x :: cut l (i + 1) j := by
  unfold cut
  exact drop_at (by rw [List.getElem?_take, if_pos hj]; exact h)
theorem cut_end {l : List Int} {i j : Nat} (h : j ≤ i) : cut l i j = [] := by
  unfold cut; exact List.drop_of_length_le (by simp; omega)
theorem cut_length {l : List Int} {i j : Nat} (hj : j ≤ l.length) : (cut l i j).length = j - i := by
  unfold cut; simp; omega

theorem rsame_spec (a b : List Int) (x0 x1 y0 y1 : Nat) {A B : AV} (hA : IsRow A (ints a)) (hB : IsRow B (ints b)) (hx : x0 ≤ x1) (hxa : x1 ≤ a.length) (hy : y0 ≤ y1) (hyb : y1 ≤ b.length) (hla : a.length ≤ 1000000) (hlb : b.length ≤ 1000000) :
    PCall Try.prog W0 20 [A, .agg [.int .i64 x0, .int .i64 x1], B, .agg [.int .i64 y0, .int .i64 y1]] (.bool (decide (cut a x0 x1 = cut b y0 y1))) := by
  refine pcall2 cok Try.func20 F20d F20e F20c F20w F20r (fun N => ?_)
  refine ev2I_intro ?_
  have hl1 := cut_length (i := x0) hxa
  have hl2 := cut_length (i := y0) hyb
  simp (disch := first | omega | (simp only [List.length_set]; omega)) [F20s, wrap_id]
  by_cases hlen : x1 - x0 = y1 - y0
  · have hlen' : (x1 : Int) - x0 = (y1 : Int) - y0 := by omega
    simp [hlen']
    refine loop2I_ind cok F20l0w (m := fun i => x1 - x0 - i) (I := fun i ts loc τ => i ≤ x1 - x0 ∧ ts.length = 45 ∧ N + 1 < τ.next ∧ tmp ts 0 = A ∧ tmp ts 2 = B ∧ tmp ts 5 = .bp N 0 0 ∧ tmp ts 7 = .bp (N + 1) 0 0 ∧ tmp ts 9 = .int .i64 i ∧ loc 0 = .box N 31 [[.int .i64 x0, .int .i64 x1]] ∧ loc 1 = .box (N + 1) 31 [[.int .i64 y0, .int .i64 y1]] ∧ decide (cut a (x0 + i) x1 = cut b (y0 + i) y1) = decide (cut a x0 x1 = cut b y0 y1)) ?_ 0 ?_
    · rintro i ts loc τ ⟨hi, hts, hN, h0, h2, h5, h7, h9, hc0, hc1, hs⟩ ih'
      simp (disch := first | omega | (simp only [List.length_set]; omega)) [F20l0, h0, h2, h5, h7, h9, hc0, hc1, hts, wrap_id]
      by_cases hlt : i < x1 - x0
      · have hlt' : (i : Int) < (x1 : Int) - x0 := by omega
        obtain ⟨u, hu⟩ : ∃ u, a[x0 + i]? = some u := ⟨a[x0 + i]'(by omega), List.getElem?_eq_getElem (by omega)⟩
        obtain ⟨v, hv⟩ : ∃ v, b[y0 + i]? = some v := ⟨b[y0 + i]'(by omega), List.getElem?_eq_getElem (by omega)⟩
        have hue := ints_at hu
        have hve := ints_at hv
        have t1 : ((x0 : Int) + i).toNat = x0 + i := by omega
        have t2 : ((y0 : Int) + i).toNat = y0 + i := by omega
        have t3 : (0 : Int) ≤ (x0 : Int) + i := by omega
        have t4 : (0 : Int) ≤ (y0 : Int) + i := by omega
        have hN1 : N < τ.next + 7 := by omega
        have hN2 : N + 1 < τ.next + 7 := by omega
        rw [cut_at hu (by omega), cut_at hv (by omega)] at hs
        simp (disch := first | omega | (simp only [List.length_set]; omega)) [hlt', h0, h2, h5, h7, h9, hc0, hc1, hts, wrap_id, t1, t2, t3, t4, hA.elems, hB.elems, hA.chk, hB.chk, hA.at hue, hB.at hve, hue, hve, hN1, hN2]
        intro M hM
        by_cases huv : u = v
        · subst huv
          simp at hs
          simp (disch := first | omega | (simp only [List.length_set]; omega)) [h0, h2, h5, h7, h9, hc0, hc1, hts]
          refine ih' (i + 1) _ _ _ (by omega) ⟨by omega, ?_⟩
          simp (disch := first | omega | (simp only [List.length_set]; omega)) [h0, h2, h5, h7, h9, hc0, hc1, hts, wrap_id]
          exact ⟨by omega, by simpa [Nat.add_assoc] using hs⟩
        · simp [huv] at hs
          simp (disch := first | omega | (simp only [List.length_set]; omega)) [huv, hts]
          simpa using hs
      · have hlt' : ¬ (i : Int) < (x1 : Int) - x0 := by omega
        simp (disch := first | omega | (simp only [List.length_set]; omega)) [hlt', h0, h2, h5, h7, h9, hc0, hc1, hts]
        rw [cut_end (by omega), cut_end (by omega)] at hs
        simpa using hs
    · simp
  · have hne : cut a x0 x1 ≠ cut b y0 y1 := fun e => hlen (by rw [← hl1, ← hl2, e])
    have hlen' : ¬ ((x1 : Int) - x0 = (y1 : Int) - y0) := by omega
    simp [hlen', hne]
end Go.Proofs.Ytbmkgpocnkiibaa.Lt

/- A chunk that is no run, with its sort. -/
namespace Go.Proofs.Ytbmkgpocnkiibaa.Lt
open Go.Proofs.YtbmkgpocnkiibaaW.Abs Go
set_option maxRecDepth 100000
set_option maxHeartbeats 2000000
set_option linter.unusedSimpArgs false
set_option linter.unusedVariables false
variable {W0 : World}

def sortOf (x y z : List Int) : Int := if y = z then 4 else if x = y then 3 else if x = z then 2 else 5

theorem sorted_spec (b o t : List Int) (k : Int) (b0 b1 o0 o1 t0 t1 : Nat) {B O T : AV} (hB : IsRow B (ints b)) (hO : IsRow O (ints o)) (hT : IsRow T (ints t)) (hb : b0 ≤ b1) (hb' : b1 ≤ b.length) (ho : o0 ≤ o1) (ho' : o1 ≤ o.length) (ht : t0 ≤ t1) (ht' : t1 ≤ t.length) (hlo : o.length ≤ 1000000) (hlb : b.length ≤ 1000000) :
    PCall Try.prog W0 17 [B, O, T, .agg [.int .i64 k, .int .i64 b0, .int .i64 b1, .int .i64 o0, .int .i64 o1, .int .i64 t0, .int .i64 t1]] (.agg [.int .i64 (sortOf (cut b b0 b1) (cut o o0 o1) (cut t t0 t1)), .int .i64 b0, .int .i64 b1, .int .i64 o0, .int .i64 o1, .int .i64 t0, .int .i64 t1]) := by
  refine pcall2 cok Try.func17 F17d F17e F17c F17w F17r (fun N => ?_)
  refine ev2I_intro ?_
  have sB := hB.sub b0 b1 (by simpa using hb')
  have sO := hO.sub o0 o1 (by simpa using ho')
  have sT := hT.sub t0 t1 (by simpa using ht')
  rw [ints_cut] at sB sO sT
  have fit : ∀ (l : List Int) (i j : Nat) (A : AV), IsRow A (ints l) → i ≤ j → j ≤ l.length → slOk (fun _ => none) 1 A (i : Int) (fun _ => (j : Int)) := fun l i j A hA h1 h2 => by
    rw [hA.slOk]; exact ⟨by omega, by omega, by simp; omega, fun e he => ints_one he⟩
  have hN : N < N + 2 := by omega
  simp (disch := first | omega | (simp only [List.length_set]; omega)) [F17s, hN, fit b b0 b1 B hB hb hb', fit o o0 o1 O hO ho ho', fit t t0 t1 T hT ht ht', hB.chk, hO.chk, hT.chk]
  intro M hM
  have lo : (cut o o0 o1).length ≤ 140737488355328 := by rw [cut_length ho']; omega
  have lb : (cut b b0 b1).length ≤ 140737488355328 := by rw [cut_length hb']; omega
  have bB := sB.same (ints_bare _)
  have bO := sO.same (ints_bare _)
  have bT := sT.same (ints_bare _)
  refine hcallI_pure (equal_spec (cut o o0 o1) (cut t t0 t1) sO sT lo) (by simp [bareL, bO, bT]) (fun M2 hM2 => ?_)
  by_cases h1 : cut o o0 o1 = cut t t0 t1
  · simp [h1, sortOf]
  simp [h1]
  refine hcallI_pure (equal_spec (cut b b0 b1) (cut o o0 o1) sB sO lb) (by simp [bareL, bO, bB]) (fun M3 hM3 => ?_)
  by_cases h2 : cut b b0 b1 = cut o o0 o1
  · have e3 : sortOf (cut b b0 b1) (cut o o0 o1) (cut t t0 t1) = 3 := by
      unfold sortOf; rw [if_neg h1, if_pos h2]
    rw [e3]; simp [h2]
  simp [h2]
  refine hcallI_pure (equal_spec (cut b b0 b1) (cut t t0 t1) sB sT lb) (by simp [bareL, bT, bB]) (fun M4 hM4 => ?_)
  by_cases h3 : cut b b0 b1 = cut t t0 t1
  · have e3 : sortOf (cut b b0 b1) (cut o o0 o1) (cut t t0 t1) = 2 := by
      unfold sortOf; rw [if_neg h1, if_neg h2, if_pos h3]
    rw [e3]; simp [h3]
  · have e3 : sortOf (cut b b0 b1) (cut o o0 o1) (cut t t0 t1) = 5 := by
      unfold sortOf; rw [if_neg h1, if_neg h2, if_neg h3]
    rw [e3]; simp [h3]
end Go.Proofs.Ytbmkgpocnkiibaa.Lt
