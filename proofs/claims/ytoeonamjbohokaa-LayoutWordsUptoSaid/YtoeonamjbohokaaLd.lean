import Derived.Test.YtoeonamjbohokaaLc
/- The document's answer for a layout. -/
namespace Go.Proofs.Ytoeonamjbohokaa.Lt
open Go.Proofs.YtoeonamjbohokaaW.Abs Go
set_option maxRecDepth 100000
set_option maxHeartbeats 4000000
set_option linter.unusedSimpArgs false
set_option linter.unusedVariables false
variable {W0 : World}

theorem fits_tail {K : KC2} {hs : Hints} {l : List Pc} {L : AV} (hL : IsRow L (l.map Pc.enc)) (hll : l.length ≤ 1000000) {w3 : AV} (B : Nat)
    (hB : B ≤ 140737488355328) (N0 : Nat)
    (hK : ∀ ts loc (τ : Heap), ts.length = 90 → tmp ts 3 = w3 → tmp ts 10 = .int .i64 N0 → K.k (.exit 3) ts loc τ)
    (ts : List AV) (loc : Go.Proofs.YtoeonamjbohokaaW.Abs.Loc) (τ : Heap) (hl : ts.length = 90) (h0 : tmp ts 0 = L) (h3 : tmp ts 3 = w3) (j n : Nat) (hj : j ≤ l.length + 1) (h10 : tmp ts 10 = .int .i64 n) (h11 : tmp ts 11 = .int .i64 j) (hn : n + wid (l.drop j) ≤ B) (hN : n + tailS (l.drop j) = N0) : loop2I Try.prog W0 C hs F34l0 ts loc τ := by
  refine loop2I_ind cok F34l0w (α := Nat × Nat) (m := fun x => l.length - x.1) (I := fun x ts loc τ => x.1 ≤ l.length + 1 ∧ ts.length = 90 ∧ tmp ts 0 = L ∧ tmp ts 3 = w3 ∧ tmp ts 10 = .int .i64 x.2 ∧ tmp ts 11 = .int .i64 x.1 ∧ x.2 + wid (l.drop x.1) ≤ B ∧ x.2 + tailS (l.drop x.1) = N0) ?_ (j, n) ⟨hj, hl, h0, h3, h10, h11, hn, hN⟩
  clear hl h0 h3 h10 h11 hn hN hj ts loc τ j n
  rintro ⟨j, n⟩ ts loc τ ⟨hj, hl, h0, h3, h10, h11, hn, hN⟩ ih'
  dsimp only at hj h10 h11 hn hN ih'
  simp (disch := first | omega | (simp only [List.length_set]; omega)) [F34l0, hl, h0, h11, hL.len]
  by_cases hlt : j < l.length
  · obtain ⟨q, hq⟩ : ∃ q, l[j]? = some q := ⟨l[j], by simp [hlt]⟩
    have hqe : (l.map Pc.enc)[j]? = some q.enc := by simp [hq]
    rw [drop_at hq] at hn hN
    rw [tailS] at hN
    rw [wid] at hn
    obtain ⟨qk, qs⟩ := q
    dsimp only at hn hN
    have hws := width_le qs
    simp (disch := first | omega | (simp only [List.length_set]; omega)) [hlt, hl, h0, h10, h11, hL.elems, hL.at hqe, hqe]
    by_cases c : qk = 2 ∨ qk = 3 ∨ qk = 4
    · rw [if_pos c] at hN
      have c2 : 2 ≤ qk := by omega
      have c4 : qk ≤ 4 := by omega
      simp (disch := first | omega | (simp only [List.length_set]; omega)) [c2, c4, hl, h0, h10, h11, hL.elems, hL.at hqe, hqe]
      exact hK _ _ _ (by simp [hl]) (by simp (disch := first | omega | (simp only [List.length_set]; omega)) [h3]) (by simp (disch := first | omega | (simp only [List.length_set]; omega)) [h10]; omega)
    · rw [if_neg c] at hN
      by_cases k1 : qk = 1
      · subst k1
        rw [if_pos rfl] at hN
        simp (disch := first | omega | (simp only [List.length_set]; omega)) [hl, h0, h10, h11, hL.elems, hL.at hqe, hqe]
        refine hcallI_pure (rwidth_spec qs (by omega)) (by simp) (fun M hM => ?_)
        simp (disch := first | omega | (simp only [List.length_set]; omega)) [hl, h0, h10, h11]
        refine ih' (j + 1, n + width qs) _ _ _ (by simp only; omega) ⟨by simp only; omega, ?_⟩
        simp (disch := first | omega | (simp only [List.length_set]; omega)) [hl, h0, h3, h10, h11, wrap_id]
        omega
      · rw [if_neg k1] at hN
        by_cases c2 : 2 ≤ qk
        · have c4 : ¬ qk ≤ 4 := by omega
          simp (disch := first | omega | (simp only [List.length_set]; omega)) [c2, c4, k1, hl, h0, h10, h11, hL.elems, hL.at hqe, hqe]
          refine ih' (j + 1, n) _ _ _ (by simp only; omega) ⟨by simp only; omega, ?_⟩
          simp (disch := first | omega | (simp only [List.length_set]; omega)) [hl, h0, h3, h10, h11, wrap_id]
          omega
        · simp (disch := first | omega | (simp only [List.length_set]; omega)) [c2, k1, hl, h0, h10, h11, hL.elems, hL.at hqe, hqe]
          refine ih' (j + 1, n) _ _ _ (by simp only; omega) ⟨by simp only; omega, ?_⟩
          simp (disch := first | omega | (simp only [List.length_set]; omega)) [hl, h0, h3, h10, h11, wrap_id]
          omega
  · simp (disch := first | omega | (simp only [List.length_set]; omega)) [hlt, hl, h0, h11]
    rw [List.drop_of_length_le (by omega)] at hN
    simp [tailS] at hN
    exact hK _ _ _ (by simp [hl]) (by simp (disch := first | omega | (simp only [List.length_set]; omega)) [h3]) (by simp (disch := first | omega | (simp only [List.length_set]; omega)) [h10, hN])

theorem fits_scan {K : KC2} {hs : Hints} {l : List Pc} {L : AV} (hL : IsRow L (l.map Pc.enc)) (hll : l.length ≤ 1000000) (i : Nat) {p7 : Pc} (hi : l[i]? = some p7) (h7 : p7.k = 7) (col : Nat) (w : Int) (hb : col + wid l ≤ 140737488355328)
    (hK : ∀ ts loc (τ : Heap) j n, ts.length = 90 → tmp ts 0 = L → tmp ts 3 = .int .i64 w → tmp ts 10 = .int .i64 (n : Nat) → tmp ts 11 = .int .i64 (j : Nat) → j ≤ l.length → n + wid (l.drop (j + 1)) ≤ col + wid l → scan1 (l.drop i) 0 col = some (n, l.drop (j + 1)) → K.k (.exit 0) ts loc τ)
    (hK2 : ∀ ts loc (τ : Heap), ts.length = 90 → tmp ts 8 = .bool false → scan1 (l.drop i) 0 col = none → K.k .ret ts loc τ)
    (ts : List AV) (loc : Go.Proofs.YtoeonamjbohokaaW.Abs.Loc) (τ : Heap) (hl : ts.length = 90) (h0 : tmp ts 0 = L) (h3 : tmp ts 3 = .int .i64 w) (h8 : tmp ts 8 = .bool false) (h9 : tmp ts 9 = .int .i64 0) (h10 : tmp ts 10 = .int .i64 col) (h11 : tmp ts 11 = .int .i64 i) : loop2I Try.prog W0 C hs F34l1 ts loc τ := by
  have hil := (List.getElem?_eq_some_iff.1 hi).1
  have hw0 := wid_take_drop l i
  refine loop2I_ind cok F34l1w (α := Nat × Nat × Nat) (m := fun x => l.length - x.1) (I := fun x ts loc τ => x.1 ≤ l.length ∧ ts.length = 90 ∧ tmp ts 0 = L ∧ tmp ts 3 = .int .i64 w ∧ tmp ts 8 = .bool false ∧ tmp ts 9 = .int .i64 x.2.1 ∧ tmp ts 10 = .int .i64 x.2.2 ∧ tmp ts 11 = .int .i64 x.1 ∧
    x.2.2 + wid (l.drop x.1) ≤ col + wid l ∧ x.2.1 ≤ x.1 + 1 ∧ (1 ≤ x.2.1 ∨ (x.2.1 = 0 ∧ x.1 = i)) ∧ scan1 (l.drop x.1) x.2.1 x.2.2 = scan1 (l.drop i) 0 col) ?_ (i, 0, col) ⟨by simp only; omega, hl, h0, h3, h8, by simpa using h9, h10, h11, by simp only; omega, by simp only; omega, .inr ⟨rfl, rfl⟩, rfl⟩
  clear hl h0 h3 h8 h9 h10 h11 ts loc τ
  rintro ⟨j, d, n⟩ ts loc τ ⟨hj, hl, h0, h3, h8, h9, h10, h11, hn, hd1, hd, hS⟩ ih'
  dsimp only at hj h9 h10 h11 hn hd1 hd hS ih'
  simp (disch := first | omega | (simp only [List.length_set]; omega)) [F34l1, hl, h0, h11, hL.len]
  by_cases hlt : j < l.length
  · obtain ⟨q, hq⟩ : ∃ q, l[j]? = some q := ⟨l[j], by simp [hlt]⟩
    have hqe : (l.map Pc.enc)[j]? = some q.enc := by simp [hq]
    rw [drop_at hq] at hn hS
    rw [scan1] at hS
    rw [wid] at hn
    have hd7 : d = 0 → q.k = 7 := fun e => by
      rcases hd with h | ⟨_, h⟩
      · omega
      · subst h; rw [hi] at hq; cases hq; exact h7
    obtain ⟨qk, qs⟩ := q
    dsimp only at hn hS hd7
    have hws := width_le qs
    simp (disch := first | omega | (simp only [List.length_set]; omega)) [hlt, hl, h0, h10, h11, hL.elems, hL.at hqe, hqe]
    by_cases k1 : qk = 1
    · subst k1
      have hd0 : ¬ d = 0 := fun e => by have := hd7 e; omega
      rw [if_neg (by omega)] at hS
      have hs : ¬ stp 1 d = 0 := by simp [stp]; omega
      simp (disch := first | omega | (simp only [List.length_set]; omega)) [hl, h0, h10, h11, hL.elems, hL.at hqe, hqe]
      refine hcallI_pure (rwidth_spec qs (by omega)) (by simp) (fun M hM => ?_)
      simp (disch := first | omega | (simp only [List.length_set]; omega)) [hl, h0, h9, h10, h11, hd0]
      refine ih' (j + 1, d, n + width qs) _ _ _ (by simp only; omega) ⟨by simp only; omega, ?_⟩
      simp (disch := first | omega | (simp only [List.length_set]; omega)) [hl, h0, h3, h8, h9, h10, h11, wrap_id]
      rw [if_neg hs] at hS
      (repeat' apply And.intro) <;> first | omega | (rw [← hS]; simp [stp, fw])
    by_cases k2 : qk = 2
    · subst k2
      have hd0 : ¬ d = 0 := fun e => by have := hd7 e; omega
      rw [if_neg (by omega)] at hS
      have hs : ¬ stp 2 d = 0 := by simp [stp]; omega
      simp (disch := first | omega | (simp only [List.length_set]; omega)) [hl, h0, h9, h10, h11, hd0]
      refine ih' (j + 1, d, n + 1) _ _ _ (by simp only; omega) ⟨by simp only; omega, ?_⟩
      simp (disch := first | omega | (simp only [List.length_set]; omega)) [hl, h0, h3, h8, h9, h10, h11, wrap_id]
      rw [if_neg hs] at hS
      (repeat' apply And.intro) <;> first | omega | (rw [← hS]; simp [stp, fw])
    by_cases k4 : qk = 4
    · subst k4
      rw [if_pos rfl] at hS
      simp (disch := first | omega | (simp only [List.length_set]; omega)) [hl, h0, h9, h10, h11]
      exact hK2 _ _ _ (by simp [hl]) (by simp (disch := first | omega | (simp only [List.length_set]; omega)) []) hS.symm
    rw [if_neg k4] at hS
    by_cases k7 : qk = 7
    · subst k7
      have hs : ¬ stp 7 d = 0 := by simp [stp]
      have hdw : IntKind.i64.wrap ((d : Int) + 1) = (d : Int) + 1 := wrap_id (by omega) (by omega)
      have hd0 : ¬ (d : Int) + 1 = 0 := by omega
      simp (disch := first | omega | (simp only [List.length_set]; omega)) [hl, h0, h9, h10, h11, hdw, hd0]
      refine ih' (j + 1, d + 1, n) _ _ _ (by simp only; omega) ⟨by simp only; omega, ?_⟩
      simp (disch := first | omega | (simp only [List.length_set]; omega)) [hl, h0, h3, h8, h9, h10, h11, wrap_id]
      rw [if_neg hs] at hS
      (repeat' apply And.intro) <;> first | omega | (rw [← hS]; simp [stp, fw])
    by_cases k8 : qk = 8
    · subst k8
      have hd0 : ¬ d = 0 := fun e => by have := hd7 e; omega
      have hdw : IntKind.i64.wrap ((d : Int) - 1) = (d : Int) - 1 := wrap_id (by omega) (by omega)
      by_cases hd2 : d = 1
      · subst hd2
        have hs : stp 8 1 = 0 := by simp [stp]
        rw [if_pos hs] at hS
        simp (disch := first | omega | (simp only [List.length_set]; omega)) [hl, h0, h9, h10, h11]
        exact hK _ _ _ j n (by simp [hl]) (by simp (disch := first | omega | (simp only [List.length_set]; omega)) [h0]) (by simp (disch := first | omega | (simp only [List.length_set]; omega)) [h3]) (by simp (disch := first | omega | (simp only [List.length_set]; omega)) [h10]) (by simp (disch := first | omega | (simp only [List.length_set]; omega)) [h11]) (by omega) (by omega) (by rw [← hS]; simp [fw])
      · have hs : ¬ stp 8 d = 0 := by simp [stp]; omega
        have hd3 : ¬ (d : Int) - 1 = 0 := by omega
        simp (disch := first | omega | (simp only [List.length_set]; omega)) [hl, h0, h9, h10, h11, hdw, hd3]
        refine ih' (j + 1, d - 1, n) _ _ _ (by simp only; omega) ⟨by simp only; omega, ?_⟩
        simp (disch := first | omega | (simp only [List.length_set]; omega)) [hl, h0, h3, h8, h9, h10, h11, wrap_id]
        rw [if_neg hs] at hS
        (repeat' apply And.intro) <;> first | omega | (rw [← hS]; simp [stp, fw])
    · have hd0 : ¬ d = 0 := fun e => by have := hd7 e; omega
      have hs : ¬ stp qk d = 0 := by simp [stp, k7, k8]; omega
      simp (disch := first | omega | (simp only [List.length_set]; omega)) [k1, k2, k4, k7, k8, hl, h0, h9, h10, h11, hd0]
      refine ih' (j + 1, d, n) _ _ _ (by simp only; omega) ⟨by simp only; omega, ?_⟩
      simp (disch := first | omega | (simp only [List.length_set]; omega)) [hl, h0, h3, h8, h9, h10, h11, wrap_id]
      rw [if_neg hs] at hS
      (repeat' apply And.intro) <;> first | omega | (rw [← hS]; simp [stp, fw, k1, k2, k7, k8])
  · have : j = l.length := by omega
    subst this
    rw [List.drop_of_length_le (Nat.le_refl _), scan1] at hS
    rw [List.drop_of_length_le (Nat.le_refl _)] at hn
    simp (disch := first | omega | (simp only [List.length_set]; omega)) [hlt, hl, h0, h11]
    exact hK _ _ _ l.length n (by simp [hl]) (by simp (disch := first | omega | (simp only [List.length_set]; omega)) [h0]) (by simp (disch := first | omega | (simp only [List.length_set]; omega)) [h3]) (by simp (disch := first | omega | (simp only [List.length_set]; omega)) [h10]) (by simp (disch := first | omega | (simp only [List.length_set]; omega)) [h11]) (by omega) (by rw [List.drop_of_length_le (by omega)]; exact hn) (by rw [← hS, List.drop_of_length_le (by omega)])

theorem fits_spec (l : List Pc) {L : AV} (hL : IsRow L (l.map Pc.enc)) (hll : l.length ≤ 1000000) (i : Nat) {p7 : Pc} (hi : l[i]? = some p7) (h7 : p7.k = 7) (col : Nat) (w : Int) (hb : col + wid l ≤ 140737488355328) :
    PCall Try.prog W0 34 [L, .int .i64 i, .int .i64 col, .int .i64 w] (.bool (fitsAt (l.drop i) col w)) := by
  refine pcall2 cok Try.func34 F34d F34e F34c F34w F34r (fun N => ?_)
  refine ev2I_intro ?_
  simp (disch := first | omega | (simp only [List.length_set]; omega)) [F34s]
  refine fits_scan hL hll i hi h7 col w hb (fun ts loc τ j n hl h0 h3 h10 h11 hj hn hS => ?_) (fun ts loc τ hl h8 hS => ?_) _ _ _ (by rfl) (by rfl) (by rfl) (by rfl) (by rfl) (by rfl) (by rfl)
  · simp (disch := first | omega | (simp only [List.length_set]; omega)) [hl, h0, h3, h10, h11, wrap_id]
    refine fits_tail hL hll (w3 := .int .i64 w) (col + wid l) (by omega) (n + tailS (l.drop (j + 1))) (fun ts2 loc2 τ2 k0 k3 k10 => ?_) _ _ _ (by simp [hl]) (by simp (disch := first | omega | (simp only [List.length_set]; omega)) [h0]) (by simp (disch := first | omega | (simp only [List.length_set]; omega)) [h3]) (j + 1) n (by omega) (by simp (disch := first | omega | (simp only [List.length_set]; omega)) [h10]) (by simp (disch := first | omega | (simp only [List.length_set]; omega)) []) hn rfl
    simp (disch := first | omega | (simp only [List.length_set]; omega)) [k0, k3, k10, fitsAt, hS]
  · simp (disch := first | omega | (simp only [List.length_set]; omega)) [hl, h8, fitsAt, hS]
end Go.Proofs.Ytoeonamjbohokaa.Lt

/- The document's answer for a layout: the whole. -/
namespace Go.Proofs.Ytoeonamjbohokaa.Lt
open Go.Proofs.YtoeonamjbohokaaW.Abs Go
set_option maxRecDepth 100000
set_option maxHeartbeats 4000000
set_option linter.unusedSimpArgs false
set_option linter.unusedVariables false
variable {W0 : World}

def gsOf (f b : Nat) : List Bool := List.replicate f true ++ List.replicate (b + 1) false
theorem gs_head (f b : Nat) : (gsOf f b).headD false = decide (0 < f) := by cases f <;> simp [gsOf, List.replicate_succ]
theorem gs_push (f b : Nat) : true :: gsOf f b = gsOf (f + 1) b := by simp [gsOf, List.replicate_succ]
theorem gs_push0 (b : Nat) : false :: gsOf 0 b = gsOf 0 (b + 1) := by simp [gsOf, List.replicate_succ]
theorem gs_pop (f b : Nat) : (gsOf (f + 1) b).tail = gsOf f b := by simp [gsOf, List.replicate_succ]
theorem gs_pop0 (b : Nat) : (gsOf 0 (b + 1)).tail = gsOf 0 b := by simp [gsOf, List.replicate_succ]

theorem tabs_loop {K : KC2} {hs : Hints} {L w7 w8 w10 w11 w12 w13 w1 : AV} (s0 : List UInt8) (n0 : Nat) (hn : n0 ≤ 1000000) (hs0 : s0.length ≤ 100000000000)
    (hK : ∀ ts loc (τ : Heap), ts.length = 107 → tmp ts 0 = L → tmp ts 1 = w1 → tmp ts 6 = .str (s0 ++ List.replicate n0 9) → tmp ts 7 = w7 → tmp ts 8 = w8 → tmp ts 9 = .int .i64 0 → tmp ts 10 = w10 → tmp ts 11 = w11 → tmp ts 12 = w12 → tmp ts 13 = w13 → K.k (.exit 2) ts loc τ)
    (ts : List AV) (loc : Go.Proofs.YtoeonamjbohokaaW.Abs.Loc) (τ : Heap) (hl : ts.length = 107) (h0 : tmp ts 0 = L) (h1 : tmp ts 1 = w1) (h6 : tmp ts 6 = .str s0) (h7 : tmp ts 7 = w7) (h8 : tmp ts 8 = w8) (h9 : tmp ts 9 = .int .i64 n0) (h10 : tmp ts 10 = w10) (h11 : tmp ts 11 = w11) (h12 : tmp ts 12 = w12) (h13 : tmp ts 13 = w13) : loop2I Try.prog W0 C hs F15l0 ts loc τ := by
  refine loop2I_ind cok F15l0w (m := fun n => n) (I := fun n ts loc τ => n ≤ n0 ∧ ts.length = 107 ∧ tmp ts 0 = L ∧ tmp ts 1 = w1 ∧ tmp ts 6 = .str (s0 ++ List.replicate (n0 - n) 9) ∧ tmp ts 7 = w7 ∧ tmp ts 8 = w8 ∧ tmp ts 9 = .int .i64 n ∧ tmp ts 10 = w10 ∧ tmp ts 11 = w11 ∧ tmp ts 12 = w12 ∧ tmp ts 13 = w13) ?_ n0 ⟨Nat.le_refl _, hl, h0, h1, by simpa using h6, h7, h8, h9, h10, h11, h12, h13⟩
  clear hl h0 h1 h6 h7 h8 h9 h10 h11 h12 h13 ts loc τ
  rintro n ts loc τ ⟨hnn, hl, h0, h1, h6, h7, h8, h9, h10, h11, h12, h13⟩ ih'
  simp (disch := first | omega | (simp only [List.length_set]; omega)) [F15l0, hl, h9]
  by_cases hz : 0 < n
  · simp (disch := first | omega | (simp only [List.length_set]; omega)) [hz, hl, h6, h9]
    refine andI_intro (by first | omega | (simp; omega)) ?_
    simp (disch := first | omega | (simp only [List.length_set]; omega)) [hl, h6, h9]
    refine ih' (n - 1) _ _ _ (by omega) ⟨by omega, ?_⟩
    have e1 : ((n : Int) - 1) = ((n - 1 : Nat) : Int) := by omega
    have e2 : n0 - (n - 1) = n0 - n + 1 := by omega
    simp (disch := first | omega | (simp only [List.length_set]; omega)) [hl, h0, h1, h7, h8, h10, h11, h12, h13, wrap_id, e1, e2]
    rw [← List.replicate_succ', List.replicate_succ]
  · have : n = 0 := by omega
    subst this
    simp (disch := first | omega | (simp only [List.length_set]; omega)) [hl, h9]
    exact hK _ _ _ (by simp [hl]) (by simp (disch := first | omega | (simp only [List.length_set]; omega)) [h0]) (by simp (disch := first | omega | (simp only [List.length_set]; omega)) [h1]) (by simp (disch := first | omega | (simp only [List.length_set]; omega)) [h6]) (by simp (disch := first | omega | (simp only [List.length_set]; omega)) [h7]) (by simp (disch := first | omega | (simp only [List.length_set]; omega)) [h8]) (by simp (disch := first | omega | (simp only [List.length_set]; omega)) [h9]) (by simp (disch := first | omega | (simp only [List.length_set]; omega)) [h10]) (by simp (disch := first | omega | (simp only [List.length_set]; omega)) [h11]) (by simp (disch := first | omega | (simp only [List.length_set]; omega)) [h12]) (by simp (disch := first | omega | (simp only [List.length_set]; omega)) [h13])

theorem rof_loop {K : KC2} {hs : Hints} {l : List Pc} {L : AV} (hL : IsRow L (l.map Pc.enc)) (hll : l.length ≤ 2000) (hwl : wid l ≤ 3000000) {w : Int} {R : Pg}
    (hK : ∀ ts loc (τ : Heap), ts.length = 107 → tmp ts 6 = .str R.s → K.k (.exit 0) ts loc τ)
    (ts : List AV) (loc : Go.Proofs.YtoeonamjbohokaaW.Abs.Loc) (τ : Heap) (hl : ts.length = 107) (h0 : tmp ts 0 = L) (h1 : tmp ts 1 = .int .i64 w) (h6 : tmp ts 6 = .str []) (h7 : tmp ts 7 = .int .i64 0) (h8 : tmp ts 8 = .int .i64 0) (h9 : tmp ts 9 = .int .i64 0) (h10 : tmp ts 10 = .int .i64 0) (h11 : tmp ts 11 = .int .i64 0)
    (ok : okd l 0 0) (hR : run w l (gsOf 0 0) pg0 = R) : loop2I Try.prog W0 C hs F15l1 ts loc τ := by
  refine loop2I_ind cok F15l1w (α := Nat × Nat × Nat × Pg) (m := fun x => l.length - x.1) (I := fun x ts loc τ => x.1 ≤ l.length ∧ ts.length = 107 ∧ tmp ts 0 = L ∧ tmp ts 1 = .int .i64 w ∧ tmp ts 6 = .str x.2.2.2.s ∧ tmp ts 7 = .int .i64 x.2.2.2.col ∧ tmp ts 8 = .int .i64 x.2.2.2.nest ∧ tmp ts 9 = .int .i64 x.2.2.2.tabs ∧ tmp ts 10 = .int .i64 x.2.1 ∧ tmp ts 11 = .int .i64 x.1 ∧
    okd (l.drop x.1) (x.2.1 + x.2.2.1) x.2.2.2.nest ∧ run w (l.drop x.1) (gsOf x.2.1 x.2.2.1) x.2.2.2 = R ∧ x.2.1 ≤ x.1 ∧ x.2.2.2.nest ≤ x.1 ∧ x.2.2.2.tabs ≤ 2000 ∧ x.2.2.2.s.length + wid (l.drop x.1) ≤ wid l + x.1 * 2001 ∧ x.2.2.2.col + wid (l.drop x.1) ≤ 10000 + wid l) ?_ (0, 0, 0, pg0)
    ⟨by simp only; omega, hl, h0, h1, h6, h7, h8, h9, h10, h11, by simpa [pg0] using ok, hR, by simp, by simp [pg0], by simp [pg0], by simp [pg0], by simp [pg0]⟩
  clear hl h0 h1 h6 h7 h8 h9 h10 h11 ok hR ts loc τ
  rintro ⟨i, f, b, p⟩ ts loc τ ⟨hi, hl, h0, h1, h6, h7, h8, h9, h10, h11, ok, hR, bf, bn, bt, bs, bc⟩ ih'
  dsimp only at hi hl h0 h1 h6 h7 h8 h9 h10 h11 ok hR bf bn bt bs bc ih'
  simp (disch := first | omega | (simp only [List.length_set]; omega)) [F15l1, hl, h0, h11, hL.len]
  by_cases hlt : i < l.length
  · obtain ⟨q, hq⟩ : ∃ q, l[i]? = some q := ⟨l[i], by simp [hlt]⟩
    have hqe : (l.map Pc.enc)[i]? = some q.enc := by simp [hq]
    have hwd := wid_take_drop l (i + 1)
    have hqw := pc_mem_wid hq
    have hdq := drop_at hq
    rw [hdq] at ok hR bs bc
    have go : ∀ (ts' : List AV) (loc' : Go.Proofs.YtoeonamjbohokaaW.Abs.Loc) (τ' : Heap) (f' b' : Nat) (p' : Pg), ts'.length = 107 → tmp ts' 0 = L → tmp ts' 1 = .int .i64 w → tmp ts' 6 = .str p'.s → tmp ts' 7 = .int .i64 p'.col → tmp ts' 8 = .int .i64 p'.nest → tmp ts' 9 = .int .i64 p'.tabs → tmp ts' 10 = .int .i64 f' → tmp ts' 11 = .int .i64 ((i + 1 : Nat) : Int) →
        okd (l.drop (i + 1)) (f' + b') p'.nest → run w (l.drop (i + 1)) (gsOf f' b') p' = R → f' ≤ i + 1 → p'.nest ≤ i + 1 → p'.tabs ≤ 2000 → p'.s.length + wid (l.drop (i + 1)) ≤ wid l + (i + 1) * 2001 → p'.col + wid (l.drop (i + 1)) ≤ 10000 + wid l → loop2I Try.prog W0 C hs F15l1 ts' loc' τ' := by
      intro ts' loc' τ' f' b' p' g0 ga gb g6 g7 g8 g9 g10 g11 gok gR gf gn gt gs gc
      exact ih' (i + 1, f', b', p') _ _ _ (by simp only; omega) ⟨by simp only; omega, g0, ga, gb, g6, g7, g8, g9, g10, g11, gok, gR, gf, gn, gt, gs, gc⟩
    clear ih' hK
    obtain ⟨qk, qs⟩ := q
    dsimp only [wid] at bs bc hqw
    have hws := width_le qs
    have hrun := hR
    rw [run, gs_head] at hrun
    dsimp only at hrun
    rw [okd] at ok
    dsimp only at ok
    by_cases k1 : qk = 1
    · subst k1
      have hq1 : qs ≠ [] := by rcases ok with h | h | h | h | h | h <;> first | (exfalso; omega) | exact h.2.1
      have hqb : (qs != []) = true := by simp [hq1]
      simp at hrun
      simp (disch := first | omega | (simp only [List.length_set]; omega)) [hlt, hl, h0, h1, h6, h7, h8, h9, h10, h11, hL.elems, hL.at hqe, hqe, hqb]
      refine tabs_loop p.s p.tabs (by omega) (by omega) (fun ts2 loc2 τ2 k0 ka kb k6 k7 k8 k9 k10 k11 k12 k13 => ?_) _ _ _ (by simp [hl]) (by simp (disch := first | omega | (simp only [List.length_set]; omega)) [h0]; rfl) (by simp (disch := first | omega | (simp only [List.length_set]; omega)) [h1]; rfl) (by simp (disch := first | omega | (simp only [List.length_set]; omega)) [h6]) (by simp (disch := first | omega | (simp only [List.length_set]; omega)) [h7]; rfl) (by simp (disch := first | omega | (simp only [List.length_set]; omega)) [h8]; rfl) (by simp (disch := first | omega | (simp only [List.length_set]; omega)) [h9]) (by simp (disch := first | omega | (simp only [List.length_set]; omega)) [h10]; rfl) (by simp (disch := first | omega | (simp only [List.length_set]; omega)) [h11]; rfl) (by simp (disch := first | omega | (simp only [List.length_set]; omega)) []; rfl) (by simp (disch := first | omega | (simp only [List.length_set]; omega)) []; rfl)
      simp (disch := first | omega | (simp only [List.length_set]; omega)) [k0, ka, kb, k6, k7, k8, k9, k10, k11, k12, k13]
      refine andI_intro (by first | omega | (simp; omega)) ?_
      simp (disch := first | omega | (simp only [List.length_set]; omega)) [k0, ka, kb, k6, k7, k8, k9, k10, k11, k12, k13]
      refine hcallI_pure (rwidth_spec qs (by first | omega | (simp; done) | (simp; omega))) (by simp) (fun M hM => ?_)
      simp (disch := first | omega | (simp only [List.length_set]; omega)) [k0, ka, kb, k6, k7, k8, k9, k10, k11, k12, k13]
      refine go _ _ _ f b (p.put qs) ?_ ?_ ?_ ?_ ?_ ?_ ?_ ?_ ?_ ?_ ?_ ?_ ?_ ?_ ?_ ?_
      · simp [k0]
      · simp (disch := first | omega | (simp only [List.length_set]; omega)) [ka, kb, k6, k7, k8, k9, k10, k11, k12, k13]
      · simp (disch := first | omega | (simp only [List.length_set]; omega)) [ka, kb, k6, k7, k8, k9, k10, k11, k12, k13]
      · simp (disch := first | omega | (simp only [List.length_set]; omega)) [ka, kb, k6, k7, k8, k9, k10, k11, k12, k13, Pg.put, Pg.nl, wrap_id]
      · simp (disch := first | omega | (simp only [List.length_set]; omega)) [ka, kb, k6, k7, k8, k9, k10, k11, k12, k13, Pg.put, Pg.nl, wrap_id]
      · simp (disch := first | omega | (simp only [List.length_set]; omega)) [ka, kb, k6, k7, k8, k9, k10, k11, k12, k13, Pg.put, Pg.nl, wrap_id]
      · simp (disch := first | omega | (simp only [List.length_set]; omega)) [ka, kb, k6, k7, k8, k9, k10, k11, k12, k13, Pg.put, Pg.nl, wrap_id]
      · simp (disch := first | omega | (simp only [List.length_set]; omega)) [ka, kb, k6, k7, k8, k9, k10, k11, k12, k13, wrap_id]
      · simp (disch := first | omega | (simp only [List.length_set]; omega)) [ka, kb, k6, k7, k8, k9, k10, k11, k12, k13, wrap_id]
      · rcases ok with h | h | h | h | h | h <;> first | (exfalso; omega) | exact h.2.2 | exact h.2.2.2
      · exact hrun
      · first | omega | (simp [Pg.put, Pg.nl, width, wd1]; omega) | simp [Pg.put, Pg.nl]
      · first | omega | (simp [Pg.put, Pg.nl, width, wd1]; omega) | simp [Pg.put, Pg.nl]
      · first | omega | (simp [Pg.put, Pg.nl, width, wd1]; omega) | simp [Pg.put, Pg.nl]
      · first | omega | (simp [Pg.put, Pg.nl, width, wd1]; omega) | simp [Pg.put, Pg.nl]
      · first | omega | (simp [Pg.put, Pg.nl, width, wd1]; omega) | simp [Pg.put, Pg.nl]
    by_cases k2 : qk = 2
    · subst k2
      simp at hrun
      by_cases hf : 0 < f
      · simp [hf] at hrun
        have w32 : width [32] = 1 := by decide
        have h32 : (([32] : List UInt8) != []) = true := rfl
        simp (disch := first | omega | (simp only [List.length_set]; omega)) [hlt, hl, h0, h1, h6, h7, h8, h9, h10, h11, hL.elems, hL.at hqe, hqe, hf, h32]
        refine tabs_loop p.s p.tabs (by omega) (by omega) (fun ts2 loc2 τ2 k0 ka kb k6 k7 k8 k9 k10 k11 k12 k13 => ?_) _ _ _ (by simp [hl]) (by simp (disch := first | omega | (simp only [List.length_set]; omega)) [h0]; rfl) (by simp (disch := first | omega | (simp only [List.length_set]; omega)) [h1]; rfl) (by simp (disch := first | omega | (simp only [List.length_set]; omega)) [h6]) (by simp (disch := first | omega | (simp only [List.length_set]; omega)) [h7]; rfl) (by simp (disch := first | omega | (simp only [List.length_set]; omega)) [h8]; rfl) (by simp (disch := first | omega | (simp only [List.length_set]; omega)) [h9]) (by simp (disch := first | omega | (simp only [List.length_set]; omega)) [h10]; rfl) (by simp (disch := first | omega | (simp only [List.length_set]; omega)) [h11]; rfl) (by simp (disch := first | omega | (simp only [List.length_set]; omega)) []; rfl) (by simp (disch := first | omega | (simp only [List.length_set]; omega)) []; rfl)
        simp (disch := first | omega | (simp only [List.length_set]; omega)) [k0, ka, kb, k6, k7, k8, k9, k10, k11, k12, k13]
        refine andI_intro (by first | omega | (simp; omega)) ?_
        simp (disch := first | omega | (simp only [List.length_set]; omega)) [k0, ka, kb, k6, k7, k8, k9, k10, k11, k12, k13]
        refine hcallI_pure (rwidth_spec [32] (by first | omega | (simp; done) | (simp; omega))) (by simp) (fun M hM => ?_)
        simp (disch := first | omega | (simp only [List.length_set]; omega)) [k0, ka, kb, k6, k7, k8, k9, k10, k11, k12, k13]
        have hf0 : ¬ f = 0 := by omega
        simp (disch := first | omega | (simp only [List.length_set]; omega)) [k0, ka, kb, k6, k7, k8, k9, k10, k11, k12, k13, hf0]
        refine go _ _ _ f b (p.put [32]) ?_ ?_ ?_ ?_ ?_ ?_ ?_ ?_ ?_ ?_ ?_ ?_ ?_ ?_ ?_ ?_
        · simp [k0]
        · simp (disch := first | omega | (simp only [List.length_set]; omega)) [ka, kb, k6, k7, k8, k9, k10, k11, k12, k13, w32]
        · simp (disch := first | omega | (simp only [List.length_set]; omega)) [ka, kb, k6, k7, k8, k9, k10, k11, k12, k13, w32]
        · simp (disch := first | omega | (simp only [List.length_set]; omega)) [ka, kb, k6, k7, k8, k9, k10, k11, k12, k13, w32, Pg.put, Pg.nl, wrap_id]
        · simp (disch := first | omega | (simp only [List.length_set]; omega)) [ka, kb, k6, k7, k8, k9, k10, k11, k12, k13, w32, Pg.put, Pg.nl, wrap_id]
        · simp (disch := first | omega | (simp only [List.length_set]; omega)) [ka, kb, k6, k7, k8, k9, k10, k11, k12, k13, w32, Pg.put, Pg.nl, wrap_id]
        · simp (disch := first | omega | (simp only [List.length_set]; omega)) [ka, kb, k6, k7, k8, k9, k10, k11, k12, k13, w32, Pg.put, Pg.nl, wrap_id]
        · simp (disch := first | omega | (simp only [List.length_set]; omega)) [ka, kb, k6, k7, k8, k9, k10, k11, k12, k13, w32, wrap_id]
        · simp (disch := first | omega | (simp only [List.length_set]; omega)) [ka, kb, k6, k7, k8, k9, k10, k11, k12, k13, w32, wrap_id]
        · rcases ok with h | h | h | h | h | h <;> first | (exfalso; omega) | exact h.2.2 | exact h.2.2.2
        · exact hrun
        · first | omega | (simp [Pg.put, Pg.nl, width, wd1]; omega) | simp [Pg.put, Pg.nl]
        · first | omega | (simp [Pg.put, Pg.nl, width, wd1]; omega) | simp [Pg.put, Pg.nl]
        · first | omega | (simp [Pg.put, Pg.nl, width, wd1]; omega) | simp [Pg.put, Pg.nl]
        · first | omega | (simp [Pg.put, Pg.nl, width, wd1]; omega) | simp [Pg.put, Pg.nl]
        · first | omega | (simp [Pg.put, Pg.nl, width, wd1]; omega) | simp [Pg.put, Pg.nl]
      · have hf0 : f = 0 := by omega
        simp [hf] at hrun
        simp (disch := first | omega | (simp only [List.length_set]; omega)) [hlt, hl, h0, h1, h6, h7, h8, h9, h10, h11, hL.elems, hL.at hqe, hqe, hf, hf0]
        refine andI_intro (by first | omega | (simp; omega)) ?_
        simp (disch := first | omega | (simp only [List.length_set]; omega)) [hlt, hl, h0, h1, h6, h7, h8, h9, h10, h11, hL.elems, hL.at hqe, hqe, hf, hf0]
        refine go _ _ _ f b p.nl ?_ ?_ ?_ ?_ ?_ ?_ ?_ ?_ ?_ ?_ ?_ ?_ ?_ ?_ ?_ ?_
        · simp [hl]
        · simp (disch := first | omega | (simp only [List.length_set]; omega)) [h0, h1, h6, h7, h8, h9, h10, h11]
        · simp (disch := first | omega | (simp only [List.length_set]; omega)) [h0, h1, h6, h7, h8, h9, h10, h11]
        · simp (disch := first | omega | (simp only [List.length_set]; omega)) [h0, h1, h6, h7, h8, h9, h10, h11, Pg.put, Pg.nl, wrap_id]
        · simp (disch := first | omega | (simp only [List.length_set]; omega)) [h0, h1, h6, h7, h8, h9, h10, h11, Pg.put, Pg.nl, wrap_id]
        · simp (disch := first | omega | (simp only [List.length_set]; omega)) [h0, h1, h6, h7, h8, h9, h10, h11, Pg.put, Pg.nl, wrap_id]
        · simp (disch := first | omega | (simp only [List.length_set]; omega)) [h0, h1, h6, h7, h8, h9, h10, h11, Pg.put, Pg.nl, wrap_id]
        · simp (disch := first | omega | (simp only [List.length_set]; omega)) [h0, h1, h6, h7, h8, h9, h10, h11, wrap_id]
        · simp (disch := first | omega | (simp only [List.length_set]; omega)) [h0, h1, h6, h7, h8, h9, h10, h11, wrap_id]
        · rcases ok with h | h | h | h | h | h <;> first | (exfalso; omega) | exact h.2.2 | exact h.2.2.2
        · exact hrun
        · first | omega | (simp [Pg.put, Pg.nl, width, wd1]; omega) | simp [Pg.put, Pg.nl]
        · first | omega | (simp [Pg.put, Pg.nl, width, wd1]; omega) | simp [Pg.put, Pg.nl]
        · first | omega | (simp [Pg.put, Pg.nl, width, wd1]; omega) | simp [Pg.put, Pg.nl]
        · first | omega | (simp [Pg.put, Pg.nl, width, wd1]; omega) | simp [Pg.put, Pg.nl]
        · first | omega | (simp [Pg.put, Pg.nl, width, wd1]; omega) | simp [Pg.put, Pg.nl]
    by_cases k3 : qk = 3
    · subst k3
      simp at hrun
      by_cases hf : 0 < f
      · have hf0 : ¬ f = 0 := by omega
        simp [hf] at hrun
        simp (disch := first | omega | (simp only [List.length_set]; omega)) [hlt, hl, h0, h1, h6, h7, h8, h9, h10, h11, hL.elems, hL.at hqe, hqe, hf, hf0]
        refine go _ _ _ f b p ?_ ?_ ?_ ?_ ?_ ?_ ?_ ?_ ?_ ?_ ?_ ?_ ?_ ?_ ?_ ?_
        · simp [hl]
        · simp (disch := first | omega | (simp only [List.length_set]; omega)) [h0, h1, h6, h7, h8, h9, h10, h11]
        · simp (disch := first | omega | (simp only [List.length_set]; omega)) [h0, h1, h6, h7, h8, h9, h10, h11]
        · simp (disch := first | omega | (simp only [List.length_set]; omega)) [h0, h1, h6, h7, h8, h9, h10, h11, Pg.put, Pg.nl, wrap_id]
        · simp (disch := first | omega | (simp only [List.length_set]; omega)) [h0, h1, h6, h7, h8, h9, h10, h11, Pg.put, Pg.nl, wrap_id]
        · simp (disch := first | omega | (simp only [List.length_set]; omega)) [h0, h1, h6, h7, h8, h9, h10, h11, Pg.put, Pg.nl, wrap_id]
        · simp (disch := first | omega | (simp only [List.length_set]; omega)) [h0, h1, h6, h7, h8, h9, h10, h11, Pg.put, Pg.nl, wrap_id]
        · simp (disch := first | omega | (simp only [List.length_set]; omega)) [h0, h1, h6, h7, h8, h9, h10, h11, wrap_id]
        · simp (disch := first | omega | (simp only [List.length_set]; omega)) [h0, h1, h6, h7, h8, h9, h10, h11, wrap_id]
        · rcases ok with h | h | h | h | h | h <;> first | (exfalso; omega) | exact h.2.2 | exact h.2.2.2
        · exact hrun
        · first | omega | (simp [Pg.put, Pg.nl, width, wd1]; omega) | simp [Pg.put, Pg.nl]
        · first | omega | (simp [Pg.put, Pg.nl, width, wd1]; omega) | simp [Pg.put, Pg.nl]
        · first | omega | (simp [Pg.put, Pg.nl, width, wd1]; omega) | simp [Pg.put, Pg.nl]
        · first | omega | (simp [Pg.put, Pg.nl, width, wd1]; omega) | simp [Pg.put, Pg.nl]
        · first | omega | (simp [Pg.put, Pg.nl, width, wd1]; omega) | simp [Pg.put, Pg.nl]
      · have hf0 : f = 0 := by omega
        simp [hf] at hrun
        simp (disch := first | omega | (simp only [List.length_set]; omega)) [hlt, hl, h0, h1, h6, h7, h8, h9, h10, h11, hL.elems, hL.at hqe, hqe, hf, hf0]
        refine andI_intro (by first | omega | (simp; omega)) ?_
        simp (disch := first | omega | (simp only [List.length_set]; omega)) [hlt, hl, h0, h1, h6, h7, h8, h9, h10, h11, hL.elems, hL.at hqe, hqe, hf, hf0]
        refine go _ _ _ f b p.nl ?_ ?_ ?_ ?_ ?_ ?_ ?_ ?_ ?_ ?_ ?_ ?_ ?_ ?_ ?_ ?_
        · simp [hl]
        · simp (disch := first | omega | (simp only [List.length_set]; omega)) [h0, h1, h6, h7, h8, h9, h10, h11]
        · simp (disch := first | omega | (simp only [List.length_set]; omega)) [h0, h1, h6, h7, h8, h9, h10, h11]
        · simp (disch := first | omega | (simp only [List.length_set]; omega)) [h0, h1, h6, h7, h8, h9, h10, h11, Pg.put, Pg.nl, wrap_id]
        · simp (disch := first | omega | (simp only [List.length_set]; omega)) [h0, h1, h6, h7, h8, h9, h10, h11, Pg.put, Pg.nl, wrap_id]
        · simp (disch := first | omega | (simp only [List.length_set]; omega)) [h0, h1, h6, h7, h8, h9, h10, h11, Pg.put, Pg.nl, wrap_id]
        · simp (disch := first | omega | (simp only [List.length_set]; omega)) [h0, h1, h6, h7, h8, h9, h10, h11, Pg.put, Pg.nl, wrap_id]
        · simp (disch := first | omega | (simp only [List.length_set]; omega)) [h0, h1, h6, h7, h8, h9, h10, h11, wrap_id]
        · simp (disch := first | omega | (simp only [List.length_set]; omega)) [h0, h1, h6, h7, h8, h9, h10, h11, wrap_id]
        · rcases ok with h | h | h | h | h | h <;> first | (exfalso; omega) | exact h.2.2 | exact h.2.2.2
        · exact hrun
        · first | omega | (simp [Pg.put, Pg.nl, width, wd1]; omega) | simp [Pg.put, Pg.nl]
        · first | omega | (simp [Pg.put, Pg.nl, width, wd1]; omega) | simp [Pg.put, Pg.nl]
        · first | omega | (simp [Pg.put, Pg.nl, width, wd1]; omega) | simp [Pg.put, Pg.nl]
        · first | omega | (simp [Pg.put, Pg.nl, width, wd1]; omega) | simp [Pg.put, Pg.nl]
        · first | omega | (simp [Pg.put, Pg.nl, width, wd1]; omega) | simp [Pg.put, Pg.nl]
    by_cases k4 : qk = 4
    · subst k4
      simp at hrun
      simp (disch := first | omega | (simp only [List.length_set]; omega)) [hlt, hl, h0, h1, h6, h7, h8, h9, h10, h11, hL.elems, hL.at hqe, hqe]
      refine andI_intro (by first | omega | (simp; omega)) ?_
      simp (disch := first | omega | (simp only [List.length_set]; omega)) [hlt, hl, h0, h1, h6, h7, h8, h9, h10, h11, hL.elems, hL.at hqe, hqe]
      refine go _ _ _ f b p.nl ?_ ?_ ?_ ?_ ?_ ?_ ?_ ?_ ?_ ?_ ?_ ?_ ?_ ?_ ?_ ?_
      · simp [hl]
      · simp (disch := first | omega | (simp only [List.length_set]; omega)) [h0, h1, h6, h7, h8, h9, h10, h11]
      · simp (disch := first | omega | (simp only [List.length_set]; omega)) [h0, h1, h6, h7, h8, h9, h10, h11]
      · simp (disch := first | omega | (simp only [List.length_set]; omega)) [h0, h1, h6, h7, h8, h9, h10, h11, Pg.put, Pg.nl, wrap_id]
      · simp (disch := first | omega | (simp only [List.length_set]; omega)) [h0, h1, h6, h7, h8, h9, h10, h11, Pg.put, Pg.nl, wrap_id]
      · simp (disch := first | omega | (simp only [List.length_set]; omega)) [h0, h1, h6, h7, h8, h9, h10, h11, Pg.put, Pg.nl, wrap_id]
      · simp (disch := first | omega | (simp only [List.length_set]; omega)) [h0, h1, h6, h7, h8, h9, h10, h11, Pg.put, Pg.nl, wrap_id]
      · simp (disch := first | omega | (simp only [List.length_set]; omega)) [h0, h1, h6, h7, h8, h9, h10, h11, wrap_id]
      · simp (disch := first | omega | (simp only [List.length_set]; omega)) [h0, h1, h6, h7, h8, h9, h10, h11, wrap_id]
      · rcases ok with h | h | h | h | h | h <;> first | (exfalso; omega) | exact h.2.2 | exact h.2.2.2
      · exact hrun
      · first | omega | (simp [Pg.put, Pg.nl, width, wd1]; omega) | simp [Pg.put, Pg.nl]
      · first | omega | (simp [Pg.put, Pg.nl, width, wd1]; omega) | simp [Pg.put, Pg.nl]
      · first | omega | (simp [Pg.put, Pg.nl, width, wd1]; omega) | simp [Pg.put, Pg.nl]
      · first | omega | (simp [Pg.put, Pg.nl, width, wd1]; omega) | simp [Pg.put, Pg.nl]
      · first | omega | (simp [Pg.put, Pg.nl, width, wd1]; omega) | simp [Pg.put, Pg.nl]
    by_cases k5 : qk = 5
    · subst k5
      simp at hrun
      simp (disch := first | omega | (simp only [List.length_set]; omega)) [hlt, hl, h0, h1, h6, h7, h8, h9, h10, h11, hL.elems, hL.at hqe, hqe]
      refine go _ _ _ f b { p with nest := p.nest + 1 } ?_ ?_ ?_ ?_ ?_ ?_ ?_ ?_ ?_ ?_ ?_ ?_ ?_ ?_ ?_ ?_
      · simp [hl]
      · simp (disch := first | omega | (simp only [List.length_set]; omega)) [h0, h1, h6, h7, h8, h9, h10, h11]
      · simp (disch := first | omega | (simp only [List.length_set]; omega)) [h0, h1, h6, h7, h8, h9, h10, h11]
      · simp (disch := first | omega | (simp only [List.length_set]; omega)) [h0, h1, h6, h7, h8, h9, h10, h11, Pg.put, Pg.nl, wrap_id]
      · simp (disch := first | omega | (simp only [List.length_set]; omega)) [h0, h1, h6, h7, h8, h9, h10, h11, Pg.put, Pg.nl, wrap_id]
      · simp (disch := first | omega | (simp only [List.length_set]; omega)) [h0, h1, h6, h7, h8, h9, h10, h11, Pg.put, Pg.nl, wrap_id]
      · simp (disch := first | omega | (simp only [List.length_set]; omega)) [h0, h1, h6, h7, h8, h9, h10, h11, Pg.put, Pg.nl, wrap_id]
      · simp (disch := first | omega | (simp only [List.length_set]; omega)) [h0, h1, h6, h7, h8, h9, h10, h11, wrap_id]
      · simp (disch := first | omega | (simp only [List.length_set]; omega)) [h0, h1, h6, h7, h8, h9, h10, h11, wrap_id]
      · rcases ok with h | h | h | h | h | h <;> first | (exfalso; omega) | exact h.2.2 | exact h.2.2.2
      · exact hrun
      · first | omega | (simp [Pg.put, Pg.nl, width, wd1]; omega) | simp [Pg.put, Pg.nl]
      · first | omega | (simp [Pg.put, Pg.nl, width, wd1]; omega) | simp [Pg.put, Pg.nl]
      · first | omega | (simp [Pg.put, Pg.nl, width, wd1]; omega) | simp [Pg.put, Pg.nl]
      · first | omega | (simp [Pg.put, Pg.nl, width, wd1]; omega) | simp [Pg.put, Pg.nl]
      · first | omega | (simp [Pg.put, Pg.nl, width, wd1]; omega) | simp [Pg.put, Pg.nl]
    by_cases k6 : qk = 6
    · subst k6
      simp at hrun
      have hn6 : 0 < p.nest := by rcases ok with h | h | h | h | h | h <;> first | (exfalso; omega) | exact h.2.2.1
      have hn7 : ((p.nest : Int) - 1) = ((p.nest - 1 : Nat) : Int) := by omega
      simp (disch := first | omega | (simp only [List.length_set]; omega)) [hlt, hl, h0, h1, h6, h7, h8, h9, h10, h11, hL.elems, hL.at hqe, hqe]
      refine go _ _ _ f b { p with nest := p.nest - 1 } ?_ ?_ ?_ ?_ ?_ ?_ ?_ ?_ ?_ ?_ ?_ ?_ ?_ ?_ ?_ ?_
      · simp [hl]
      · simp (disch := first | omega | (simp only [List.length_set]; omega)) [h0, h1, h6, h7, h8, h9, h10, h11, hn7]
      · simp (disch := first | omega | (simp only [List.length_set]; omega)) [h0, h1, h6, h7, h8, h9, h10, h11, hn7]
      · simp (disch := first | omega | (simp only [List.length_set]; omega)) [h0, h1, h6, h7, h8, h9, h10, h11, hn7, Pg.put, Pg.nl, wrap_id]
      · simp (disch := first | omega | (simp only [List.length_set]; omega)) [h0, h1, h6, h7, h8, h9, h10, h11, hn7, Pg.put, Pg.nl, wrap_id]
      · simp (disch := first | omega | (simp only [List.length_set]; omega)) [h0, h1, h6, h7, h8, h9, h10, h11, hn7, Pg.put, Pg.nl, wrap_id]
      · simp (disch := first | omega | (simp only [List.length_set]; omega)) [h0, h1, h6, h7, h8, h9, h10, h11, hn7, Pg.put, Pg.nl, wrap_id]
      · simp (disch := first | omega | (simp only [List.length_set]; omega)) [h0, h1, h6, h7, h8, h9, h10, h11, hn7, wrap_id]
      · simp (disch := first | omega | (simp only [List.length_set]; omega)) [h0, h1, h6, h7, h8, h9, h10, h11, hn7, wrap_id]
      · rcases ok with h | h | h | h | h | h <;> first | (exfalso; omega) | exact h.2.2 | exact h.2.2.2
      · exact hrun
      · first | omega | (simp [Pg.put, Pg.nl, width, wd1]; omega) | simp [Pg.put, Pg.nl]
      · first | omega | (simp [Pg.put, Pg.nl, width, wd1]; omega) | simp [Pg.put, Pg.nl]
      · first | omega | (simp [Pg.put, Pg.nl, width, wd1]; omega) | simp [Pg.put, Pg.nl]
      · first | omega | (simp [Pg.put, Pg.nl, width, wd1]; omega) | simp [Pg.put, Pg.nl]
      · first | omega | (simp [Pg.put, Pg.nl, width, wd1]; omega) | simp [Pg.put, Pg.nl]
    by_cases k7 : qk = 7
    · subst k7
      simp at hrun
      by_cases hf : 0 < f
      · simp [hf] at hrun
        rw [gs_push] at hrun
        simp (disch := first | omega | (simp only [List.length_set]; omega)) [hlt, hl, h0, h1, h6, h7, h8, h9, h10, h11, hL.elems, hL.at hqe, hqe, hf]
        refine go _ _ _ (f + 1) b p ?_ ?_ ?_ ?_ ?_ ?_ ?_ ?_ ?_ ?_ ?_ ?_ ?_ ?_ ?_ ?_
        · simp [hl]
        · simp (disch := first | omega | (simp only [List.length_set]; omega)) [h0, h1, h6, h7, h8, h9, h10, h11]
        · simp (disch := first | omega | (simp only [List.length_set]; omega)) [h0, h1, h6, h7, h8, h9, h10, h11]
        · simp (disch := first | omega | (simp only [List.length_set]; omega)) [h0, h1, h6, h7, h8, h9, h10, h11, Pg.put, Pg.nl, wrap_id]
        · simp (disch := first | omega | (simp only [List.length_set]; omega)) [h0, h1, h6, h7, h8, h9, h10, h11, Pg.put, Pg.nl, wrap_id]
        · simp (disch := first | omega | (simp only [List.length_set]; omega)) [h0, h1, h6, h7, h8, h9, h10, h11, Pg.put, Pg.nl, wrap_id]
        · simp (disch := first | omega | (simp only [List.length_set]; omega)) [h0, h1, h6, h7, h8, h9, h10, h11, Pg.put, Pg.nl, wrap_id]
        · simp (disch := first | omega | (simp only [List.length_set]; omega)) [h0, h1, h6, h7, h8, h9, h10, h11, wrap_id]
        · simp (disch := first | omega | (simp only [List.length_set]; omega)) [h0, h1, h6, h7, h8, h9, h10, h11, wrap_id]
        · rcases ok with h | h | h | h | h | h <;> first | (exfalso; omega) | (have := h.2.2; rwa [show f + b + 1 = f + 1 + b by omega] at this)
        · exact hrun
        · first | omega | (simp [Pg.put, Pg.nl, width, wd1]; omega) | simp [Pg.put, Pg.nl]
        · first | omega | (simp [Pg.put, Pg.nl, width, wd1]; omega) | simp [Pg.put, Pg.nl]
        · first | omega | (simp [Pg.put, Pg.nl, width, wd1]; omega) | simp [Pg.put, Pg.nl]
        · first | omega | (simp [Pg.put, Pg.nl, width, wd1]; omega) | simp [Pg.put, Pg.nl]
        · first | omega | (simp [Pg.put, Pg.nl, width, wd1]; omega) | simp [Pg.put, Pg.nl]
      · have hf0 : f = 0 := by omega
        subst hf0
        simp at hrun
        simp (disch := first | omega | (simp only [List.length_set]; omega)) [hlt, hl, h0, h1, h6, h7, h8, h9, h10, h11, hL.elems, hL.at hqe, hqe]
        refine hcallI_pure (fits_spec l hL (by omega) i hq rfl p.col w (by omega)) (by simp [bareL, hL.same (by rw [bareLL_map]; exact List.map_congr_left fun p _ => Pc.bare_enc p)]) (fun M hM => ?_)
        rw [← hdq] at hrun
        by_cases hfi : fitsAt (l.drop i) p.col w = true
        · rw [hfi, gs_push] at hrun
          simp (disch := first | omega | (simp only [List.length_set]; omega)) [hl, h0, h1, h6, h7, h8, h9, h10, h11, hfi]
          refine go _ _ _ 1 b p ?_ ?_ ?_ ?_ ?_ ?_ ?_ ?_ ?_ ?_ ?_ ?_ ?_ ?_ ?_ ?_
          · simp [hl]
          · simp (disch := first | omega | (simp only [List.length_set]; omega)) [h0, h1, h6, h7, h8, h9, h10, h11]
          · simp (disch := first | omega | (simp only [List.length_set]; omega)) [h0, h1, h6, h7, h8, h9, h10, h11]
          · simp (disch := first | omega | (simp only [List.length_set]; omega)) [h0, h1, h6, h7, h8, h9, h10, h11, Pg.put, Pg.nl, wrap_id]
          · simp (disch := first | omega | (simp only [List.length_set]; omega)) [h0, h1, h6, h7, h8, h9, h10, h11, Pg.put, Pg.nl, wrap_id]
          · simp (disch := first | omega | (simp only [List.length_set]; omega)) [h0, h1, h6, h7, h8, h9, h10, h11, Pg.put, Pg.nl, wrap_id]
          · simp (disch := first | omega | (simp only [List.length_set]; omega)) [h0, h1, h6, h7, h8, h9, h10, h11, Pg.put, Pg.nl, wrap_id]
          · simp (disch := first | omega | (simp only [List.length_set]; omega)) [h0, h1, h6, h7, h8, h9, h10, h11, wrap_id]
          · simp (disch := first | omega | (simp only [List.length_set]; omega)) [h0, h1, h6, h7, h8, h9, h10, h11, wrap_id]
          · rcases ok with h | h | h | h | h | h <;> first | (exfalso; omega) | (have := h.2.2; rwa [show 0 + b + 1 = 1 + b by omega] at this)
          · exact hrun
          · first | omega | (simp [Pg.put, Pg.nl, width, wd1]; omega) | simp [Pg.put, Pg.nl]
          · first | omega | (simp [Pg.put, Pg.nl, width, wd1]; omega) | simp [Pg.put, Pg.nl]
          · first | omega | (simp [Pg.put, Pg.nl, width, wd1]; omega) | simp [Pg.put, Pg.nl]
          · first | omega | (simp [Pg.put, Pg.nl, width, wd1]; omega) | simp [Pg.put, Pg.nl]
          · first | omega | (simp [Pg.put, Pg.nl, width, wd1]; omega) | simp [Pg.put, Pg.nl]
        · have hfi' : fitsAt (l.drop i) p.col w = false := by simpa using hfi
          rw [hfi', gs_push0] at hrun
          simp (disch := first | omega | (simp only [List.length_set]; omega)) [hl, h0, h1, h6, h7, h8, h9, h10, h11, hfi']
          refine go _ _ _ 0 (b + 1) p ?_ ?_ ?_ ?_ ?_ ?_ ?_ ?_ ?_ ?_ ?_ ?_ ?_ ?_ ?_ ?_
          · simp [hl]
          · simp (disch := first | omega | (simp only [List.length_set]; omega)) [h0, h1, h6, h7, h8, h9, h10, h11]
          · simp (disch := first | omega | (simp only [List.length_set]; omega)) [h0, h1, h6, h7, h8, h9, h10, h11]
          · simp (disch := first | omega | (simp only [List.length_set]; omega)) [h0, h1, h6, h7, h8, h9, h10, h11, Pg.put, Pg.nl, wrap_id]
          · simp (disch := first | omega | (simp only [List.length_set]; omega)) [h0, h1, h6, h7, h8, h9, h10, h11, Pg.put, Pg.nl, wrap_id]
          · simp (disch := first | omega | (simp only [List.length_set]; omega)) [h0, h1, h6, h7, h8, h9, h10, h11, Pg.put, Pg.nl, wrap_id]
          · simp (disch := first | omega | (simp only [List.length_set]; omega)) [h0, h1, h6, h7, h8, h9, h10, h11, Pg.put, Pg.nl, wrap_id]
          · simp (disch := first | omega | (simp only [List.length_set]; omega)) [h0, h1, h6, h7, h8, h9, h10, h11, wrap_id]
          · simp (disch := first | omega | (simp only [List.length_set]; omega)) [h0, h1, h6, h7, h8, h9, h10, h11, wrap_id]
          · rcases ok with h | h | h | h | h | h <;> first | (exfalso; omega) | (have := h.2.2; rwa [show 0 + b + 1 = 0 + (b + 1) by omega] at this)
          · exact hrun
          · first | omega | (simp [Pg.put, Pg.nl, width, wd1]; omega) | simp [Pg.put, Pg.nl]
          · first | omega | (simp [Pg.put, Pg.nl, width, wd1]; omega) | simp [Pg.put, Pg.nl]
          · first | omega | (simp [Pg.put, Pg.nl, width, wd1]; omega) | simp [Pg.put, Pg.nl]
          · first | omega | (simp [Pg.put, Pg.nl, width, wd1]; omega) | simp [Pg.put, Pg.nl]
          · first | omega | (simp [Pg.put, Pg.nl, width, wd1]; omega) | simp [Pg.put, Pg.nl]
    by_cases k8 : qk = 8
    · subst k8
      simp at hrun
      have hg : 0 < f + b := by rcases ok with h | h | h | h | h | h <;> first | (exfalso; omega) | exact h.2.2.1
      by_cases hf : 0 < f
      · obtain ⟨f', rfl⟩ : ∃ f', f = f' + 1 := ⟨f - 1, by omega⟩
        rw [gs_pop] at hrun
        simp (disch := first | omega | (simp only [List.length_set]; omega)) [hlt, hl, h0, h1, h6, h7, h8, h9, h10, h11, hL.elems, hL.at hqe, hqe]
        refine go _ _ _ f' b p ?_ ?_ ?_ ?_ ?_ ?_ ?_ ?_ ?_ ?_ ?_ ?_ ?_ ?_ ?_ ?_
        · simp [hl]
        · simp (disch := first | omega | (simp only [List.length_set]; omega)) [h0, h1, h6, h7, h8, h9, h10, h11]
        · simp (disch := first | omega | (simp only [List.length_set]; omega)) [h0, h1, h6, h7, h8, h9, h10, h11]
        · simp (disch := first | omega | (simp only [List.length_set]; omega)) [h0, h1, h6, h7, h8, h9, h10, h11, Pg.put, Pg.nl, wrap_id]
        · simp (disch := first | omega | (simp only [List.length_set]; omega)) [h0, h1, h6, h7, h8, h9, h10, h11, Pg.put, Pg.nl, wrap_id]
        · simp (disch := first | omega | (simp only [List.length_set]; omega)) [h0, h1, h6, h7, h8, h9, h10, h11, Pg.put, Pg.nl, wrap_id]
        · simp (disch := first | omega | (simp only [List.length_set]; omega)) [h0, h1, h6, h7, h8, h9, h10, h11, Pg.put, Pg.nl, wrap_id]
        · simp (disch := first | omega | (simp only [List.length_set]; omega)) [h0, h1, h6, h7, h8, h9, h10, h11, wrap_id]
        · simp (disch := first | omega | (simp only [List.length_set]; omega)) [h0, h1, h6, h7, h8, h9, h10, h11, wrap_id]
        · rcases ok with h | h | h | h | h | h <;> first | (exfalso; omega) | (have := h.2.2.2; rwa [show f' + 1 + b - 1 = f' + b by omega] at this)
        · exact hrun
        · first | omega | (simp [Pg.put, Pg.nl, width, wd1]; omega) | simp [Pg.put, Pg.nl]
        · first | omega | (simp [Pg.put, Pg.nl, width, wd1]; omega) | simp [Pg.put, Pg.nl]
        · first | omega | (simp [Pg.put, Pg.nl, width, wd1]; omega) | simp [Pg.put, Pg.nl]
        · first | omega | (simp [Pg.put, Pg.nl, width, wd1]; omega) | simp [Pg.put, Pg.nl]
        · first | omega | (simp [Pg.put, Pg.nl, width, wd1]; omega) | simp [Pg.put, Pg.nl]
      · have hf0 : f = 0 := by omega
        subst hf0
        obtain ⟨b', rfl⟩ : ∃ b', b = b' + 1 := ⟨b - 1, by omega⟩
        rw [gs_pop0] at hrun
        simp (disch := first | omega | (simp only [List.length_set]; omega)) [hlt, hl, h0, h1, h6, h7, h8, h9, h10, h11, hL.elems, hL.at hqe, hqe]
        refine go _ _ _ 0 b' p ?_ ?_ ?_ ?_ ?_ ?_ ?_ ?_ ?_ ?_ ?_ ?_ ?_ ?_ ?_ ?_
        · simp [hl]
        · simp (disch := first | omega | (simp only [List.length_set]; omega)) [h0, h1, h6, h7, h8, h9, h10, h11]
        · simp (disch := first | omega | (simp only [List.length_set]; omega)) [h0, h1, h6, h7, h8, h9, h10, h11]
        · simp (disch := first | omega | (simp only [List.length_set]; omega)) [h0, h1, h6, h7, h8, h9, h10, h11, Pg.put, Pg.nl, wrap_id]
        · simp (disch := first | omega | (simp only [List.length_set]; omega)) [h0, h1, h6, h7, h8, h9, h10, h11, Pg.put, Pg.nl, wrap_id]
        · simp (disch := first | omega | (simp only [List.length_set]; omega)) [h0, h1, h6, h7, h8, h9, h10, h11, Pg.put, Pg.nl, wrap_id]
        · simp (disch := first | omega | (simp only [List.length_set]; omega)) [h0, h1, h6, h7, h8, h9, h10, h11, Pg.put, Pg.nl, wrap_id]
        · simp (disch := first | omega | (simp only [List.length_set]; omega)) [h0, h1, h6, h7, h8, h9, h10, h11, wrap_id]
        · simp (disch := first | omega | (simp only [List.length_set]; omega)) [h0, h1, h6, h7, h8, h9, h10, h11, wrap_id]
        · rcases ok with h | h | h | h | h | h <;> first | (exfalso; omega) | (have := h.2.2.2; rwa [show 0 + (b' + 1) - 1 = 0 + b' by omega] at this)
        · exact hrun
        · first | omega | (simp [Pg.put, Pg.nl, width, wd1]; omega) | simp [Pg.put, Pg.nl]
        · first | omega | (simp [Pg.put, Pg.nl, width, wd1]; omega) | simp [Pg.put, Pg.nl]
        · first | omega | (simp [Pg.put, Pg.nl, width, wd1]; omega) | simp [Pg.put, Pg.nl]
        · first | omega | (simp [Pg.put, Pg.nl, width, wd1]; omega) | simp [Pg.put, Pg.nl]
        · first | omega | (simp [Pg.put, Pg.nl, width, wd1]; omega) | simp [Pg.put, Pg.nl]
    · omega
  · have : i = l.length := by omega
    subst this
    simp (disch := first | omega | (simp only [List.length_set]; omega)) [hlt, hl, h0, h11]
    rw [List.drop_of_length_le (Nat.le_refl _), run] at hR
    subst hR
    exact hK _ _ _ (by simp [hl]) (by simp (disch := first | omega | (simp only [List.length_set]; omega)) [h6])
end Go.Proofs.Ytoeonamjbohokaa.Lt

/- The document's answer; the chapter's example; the law of pages. -/
namespace Go.Proofs.Ytoeonamjbohokaa.Lt
open Go.Proofs.YtoeonamjbohokaaW.Abs Go
set_option maxRecDepth 100000
set_option maxHeartbeats 4000000
set_option linter.unusedSimpArgs false
set_option linter.unusedVariables false
variable {W0 : World}

theorem rOf_spec (l : List Pc) {L : AV} (hL : IsRow L (l.map Pc.enc)) (hll : l.length ≤ 2000) (hwl : wid l ≤ 3000000) (hk : okd l 0 0) (w : Int) : PCall Try.prog W0 15 [L, .int .i64 w] (layR w l) := by
  refine pcall2 cok Try.func15 F15d F15e F15c F15w F15r (fun N => ?_)
  refine ev2I_intro ?_
  simp (disch := first | omega | (simp only [List.length_set]; omega)) [F15s]
  by_cases c1 : w < 1
  · simp (disch := first | omega | (simp only [List.length_set]; omega)) [c1, layR]
  by_cases c2 : 65535 < w
  · simp (disch := first | omega | (simp only [List.length_set]; omega)) [c1, c2, layR]
  simp (disch := first | omega | (simp only [List.length_set]; omega)) [c1, c2]
  refine rof_loop hL hll hwl (w := w) (R := run w l [false] pg0) (fun ts loc τ g0 g6 => ?_) _ _ _ (by rfl) (by rfl) (by rfl) (by rfl) (by rfl) (by rfl) (by rfl) (by rfl) (by rfl) hk rfl
  simp (disch := first | omega | (simp only [List.length_set]; omega)) [g0, g6, layR, c1, c2]

/-! what the plans' pieces are -/
mutual
theorem full_okd : ∀ (t : T) (r : List Pc) (g n : Nat), okd r g n → okd (fullP t ++ r) g n
  | .mk k s nil kids, r, g, n, h => by
    simp only [fullP]
    split
    · rename_i h1
      split
      · simpa using h
      · rename_i hs
        simp only [List.cons_append, List.nil_append, okd]
        exact .inl ⟨by trivial, by simpa using hs, h⟩
    split
    · rename_i h1 h2
      simp only [List.cons_append, List.nil_append, okd]
      exact .inr (.inl ⟨by omega, trivial, h⟩)
    split
    · rename_i h1 h2 h3
      simp only [List.cons_append, List.append_assoc, List.nil_append]
      rcases (show k = 5 ∨ k = 7 by omega) with rfl | rfl
      · rw [okd]
        refine .inr (.inr (.inl ⟨rfl, rfl, ?_⟩))
        refine full_okdL kids _ _ _ ?_
        rw [okd]
        exact .inr (.inr (.inr (.inl ⟨by simp [w6], rfl, by omega, by simpa using h⟩)))
      · rw [okd]
        refine .inr (.inr (.inr (.inr (.inl ⟨rfl, rfl, ?_⟩))))
        refine full_okdL kids _ _ _ ?_
        rw [okd]
        exact .inr (.inr (.inr (.inr (.inr ⟨by simp [w8], rfl, by omega, by simpa using h⟩))))
    · exact full_okdL kids r g n h
theorem full_okdL : ∀ (l : List T) (r : List Pc) (g n : Nat), okd r g n → okd (fullL l ++ r) g n
  | [], r, g, n, h => by simpa [fullL] using h
  | t :: ts, r, g, n, h => by
    simp only [fullL, List.append_assoc]
    exact full_okd t _ g n (full_okdL ts r g n h)
end
theorem built_okd (t : T) : okd (plain (built t)) 0 0 := by
  rw [plain_built]
  have := full_okd t [] 0 0 ⟨rfl, rfl⟩
  simpa using this
end Go.Proofs.Ytoeonamjbohokaa.Lt

/- The chapter's example; the laws of pages and widths. -/
namespace Go.Proofs.Ytoeonamjbohokaa.Lt
open Go.Proofs.YtoeonamjbohokaaW.Abs Go
set_option maxRecDepth 100000
set_option maxHeartbeats 4000000
set_option linter.unusedSimpArgs false
set_option linter.unusedVariables false
variable {W0 : World}

def exIn8 : T := row false [piece1 3, text [97, 97, 97, 44], piece1 2, text [98, 98, 98]]
def exRow8 : T := row false [text [102, 40], nest exIn8, text [41]]
def exDoc8 : T := group exRow8
theorem exDoc8_plain : plain exDoc8 = [⟨7, []⟩, ⟨1, [102, 40]⟩, ⟨5, []⟩, ⟨3, []⟩, ⟨1, [97, 97, 97, 44]⟩, ⟨2, []⟩, ⟨1, [98, 98, 98]⟩, ⟨6, []⟩, ⟨1, [41]⟩, ⟨8, []⟩] := by
  have w6 : IntKind.i64.wrap 6 = 6 := by decide
  have w8 : IntKind.i64.wrap 8 = 8 := by decide
  simp [exDoc8, exRow8, exIn8, row, text, nest, group, piece1, plain, plainL, w6, w8]
theorem exDoc8_ok : exDoc8.ok := by
  refine group_ok (row_ok (by simp) (fun x hx => ?_))
  simp at hx
  rcases hx with rfl | rfl | rfl
  · exact text_ok (by simp)
  · refine nest_ok (row_ok (by simp) (fun x hx => ?_))
    simp at hx
    rcases hx with rfl | rfl | rfl | rfl
    · exact piece1_ok _
    · exact text_ok (by simp)
    · exact piece1_ok _
    · exact text_ok (by simp)
  · exact text_ok (by simp)
theorem ex_okd : okd (plain exDoc8) 0 0 := by
  rw [exDoc8_plain]
  refine .inr (.inr (.inr (.inr (.inl ⟨rfl, rfl, ?_⟩))))
  refine .inl ⟨rfl, by simp, ?_⟩
  refine .inr (.inr (.inl ⟨rfl, rfl, ?_⟩))
  refine .inr (.inl ⟨by decide, rfl, ?_⟩)
  refine .inl ⟨rfl, by simp, ?_⟩
  refine .inr (.inl ⟨by decide, rfl, ?_⟩)
  refine .inl ⟨rfl, by simp, ?_⟩
  refine .inr (.inr (.inr (.inl ⟨rfl, rfl, by decide, ?_⟩)))
  refine .inl ⟨rfl, by simp, ?_⟩
  exact .inr (.inr (.inr (.inr (.inr ⟨rfl, rfl, by decide, rfl, rfl⟩))))
theorem ex_run11 : (run 11 (plain exDoc8) [false] pg0).s = [102, 40, 97, 97, 97, 44, 32, 98, 98, 98, 41] := by rw [exDoc8_plain]; decide +kernel
theorem ex_run10 : (run 10 (plain exDoc8) [false] pg0).s = [102, 40, 10, 9, 97, 97, 97, 44, 10, 9, 98, 98, 98, 41] := by rw [exDoc8_plain]; decide +kernel
theorem known_spec : PCall Try.prog W0 9 [] (.bool true) := by
  have hl : (plain exDoc8).length ≤ 2000 := by rw [exDoc8_plain]; decide
  have hw : wid (plain exDoc8) ≤ 3000000 := by rw [exDoc8_plain]; decide
  refine pcall2 cok Try.func9 F9d F9e F9c F9w F9r (fun N => ?_)
  refine ev2I_intro ?_
  simp [F9s]
  refine hcallI_pure (text_spec [102, 40]) (by simp) (fun M hM => ?_)
  simp
  refine hcallI_pure soft_spec rfl (fun M hM => ?_)
  simp
  refine hcallI_pure (text_spec [97, 97, 97, 44]) (by simp) (fun M hM => ?_)
  simp
  refine hcallI_pure line_spec rfl (fun M hM => ?_)
  simp
  refine hcallI_pure (text_spec [98, 98, 98]) (by simp) (fun M hM => ?_)
  simp
  refine hcallI_pure (row_spec false [piece1 3, text [97, 97, 97, 44], piece1 2, text [98, 98, 98]] (by simp)) (by simp) (fun M hM => ?_)
  simp
  refine hcallI_pure (nest_spec exIn8) (by simp [exIn8]) (fun M hM => ?_)
  simp
  refine hcallI_pure (text_spec [41]) (by simp) (fun M hM => ?_)
  simp
  refine hcallI_pure (row_spec false [text [102, 40], nest exIn8, text [41]] (by simp)) (by simp) (fun M hM => ?_)
  simp
  refine hcallI_pure (group_spec exRow8) (by simp [exRow8]) (fun M hM => ?_)
  simp
  refine hcallI_pure (layOf_spec exDoc8 exDoc8_ok hl hw ex_okd 11) (by simp [exDoc8]) (fun M hM => ?_)
  simp [layR, ex_run11]
  refine hcallI_pure (layOf_spec exDoc8 exDoc8_ok hl hw ex_okd 10) (by simp [exDoc8]) (fun M hM => ?_)
  simp [layR, ex_run10]

theorem layoutPages_spec (t : T) (hbk : bulk t ≤ 1048576) (w : Int) (_ : (Lit.int .i64 w).wf = true) : PCall Try.prog W0 4 [.agg t.enc, .int .i64 w] (.bool true) := by
  obtain ⟨hot, hbt, hwt, hlt⟩ := built_facts hbk
  refine pcall2 cok Try.func4 F4d F4e F4c F4w F4r (fun N => ?_)
  refine ev2I_intro ?_
  simp [F4s]
  refine hcallI_pure (few_spec t hot) (by simp) (fun M hM => ?_)
  by_cases hft : few t = true
  · obtain ⟨hp, hl⟩ := few_pieces hft
    have hok := built_okd t
    simp [hft]
    refine hcallI_pure (built_spec t hot) (by simp) (fun M hM => ?_)
    simp
    refine hcallI_pure (layOf_spec (built t) hbt (by rw [hp]; omega) (by omega) hok w) (by simp) (fun M hM => ?_)
    by_cases hc : w < 1 ∨ 65535 < w
    · simp [layR, hc]
      refine hcallI_pure (pieces_spec t hot 1000 (by omega) (by omega)) (by simp) (fun M hM => ?_)
      simp
      refine hcallI_pure (rOf_spec (pcs t 1000) (IsRow.rowV _) (by omega) (by rw [← hp]; omega) (by rw [← hp]; exact hok) w) (by simp) (fun M hM => ?_)
      simp [layR, hc, hp]
      refine hcallI_pure known_spec rfl (fun M hM => ?_)
      simp [hp]
    · simp [layR, hc]
      refine hcallI_pure (pieces_spec t hot 1000 (by omega) (by omega)) (by simp) (fun M hM => ?_)
      simp
      refine hcallI_pure (rOf_spec (pcs t 1000) (IsRow.rowV _) (by omega) (by rw [← hp]; omega) (by rw [← hp]; exact hok) w) (by simp) (fun M hM => ?_)
      simp [layR, hc, hp]
      refine hcallI_pure known_spec rfl (fun M hM => ?_)
      simp [hp]
  · simp [hft]
    refine hcallI_pure known_spec rfl (fun M hM => ?_)
    simp

theorem layoutWidths_spec (s : List UInt8) (hs : s.length ≤ 140737488351232) (t : List UInt8) (ht : t.length ≤ 140737488351232) : PCall Try.prog W0 3 [.str s, .str t] (.bool true) := by
  refine pcall2 cok Try.func3 F3d F3e F3c F3w F3r (fun N => ?_)
  refine ev2I_intro ?_
  have h1 : (if 20000 < (s.length : Int) then (20000 : Int) else (s.length : Int)) = ((min s.length 20000 : Nat) : Int) := by split <;> omega
  have h2 : (if 20000 < (t.length : Int) then (20000 : Int) else (t.length : Int)) = ((min t.length 20000 : Nat) : Int) := by split <;> omega
  simp [F3s]
  rw [h1]
  refine andI_intro (by omega) ?_
  simp
  rw [h2]
  refine andI_intro (by omega) ?_
  simp
  intro m hm
  refine hcallI_pure known_spec rfl (fun M hM => ?_)
  simp
  refine hcallI_pure (width_spec (s.take (min s.length 20000)) (by simp; omega)) (by simp) (fun M hM => ?_)
  simp
  refine hcallI_pure (rwidth_spec (s.take (min s.length 20000)) (by simp; omega)) (by simp) (fun M hM => ?_)
  simp
  refine andI_intro (by omega) ?_
  simp
  refine hcallI_pure (width_spec (s.take (min s.length 20000) ++ t.take (min t.length 20000)) (by simp; omega)) (by simp) (fun M hM => ?_)
  simp
  refine hcallI_pure (width_spec (s.take (min s.length 20000)) (by simp; omega)) (by simp) (fun M hM => ?_)
  simp
  refine hcallI_pure (width_spec (t.take (min t.length 20000)) (by simp; omega)) (by simp) (fun M hM => ?_)
  have l1 := width_le (s.take (min s.length 20000))
  have l2 := width_le (t.take (min t.length 20000))
  rw [List.length_take] at l1 l2
  have hw : IntKind.i64.wrap ((width (s.take (min s.length 20000)) : Int) + (width (t.take (min t.length 20000)) : Int)) = (width (s.take (min s.length 20000)) : Int) + (width (t.take (min t.length 20000)) : Int) := wrap_id (by omega) (by omega)
  simp [width_app, hw]
end Go.Proofs.Ytoeonamjbohokaa.Lt
