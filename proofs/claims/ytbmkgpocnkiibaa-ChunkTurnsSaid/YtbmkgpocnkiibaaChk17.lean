/- The law of the chunks that are all of each row. -/
import Derived.Test.YtbmkgpocnkiibaaChk16
namespace Go.Proofs.Ytbmkgpocnkiibaa.Lt
open Go.Proofs.YtbmkgpocnkiibaaW.Abs Go
set_option maxRecDepth 100000
set_option maxHeartbeats 4000000
set_option linter.unusedSimpArgs false
set_option linter.unusedVariables false
variable {W0 : World}

theorem pairsF_good (a b : List Int) : ∀ (l acc : List (Int × Int)), rightR a b none acc = true → rightR a b none (pairsF a b acc l) = true
  | [], acc, h => h
  | p :: r, acc, h => by
    rw [pairsF]
    split
    · rename_i h'; exact pairsF_good a b r _ h'
    · exact pairsF_good a b r _ h
theorem pairsF_len (a b : List Int) : ∀ (l acc : List (Int × Int)), (pairsF a b acc l).length ≤ acc.length + l.length
  | [], acc => by simp [pairsF]
  | p :: r, acc => by
    rw [pairsF]
    split
    · have := pairsF_len a b r (acc ++ [p]); simp at this ⊢; omega
    · have := pairsF_len a b r acc; simp at this ⊢; omega
theorem pairs_good (a b : List Int) (l : List (Int × Int)) : Good a b (pairsF a b [] l) := ⟨by rw [rightM_none]; exact pairsF_good a b l [] (rightR_nil a b none)⟩
theorem pairs_len (a b : List Int) (l : List (Int × Int)) : (pairsF a b [] (l.take 100)).length ≤ 100 := by
  have := pairsF_len a b (l.take 100) []
  simp at this; omega
theorem cks_at {L : List Ck} {n : Nat} {c : Ck} (h : L[n]? = some c) : (L.map Ck.enc)[n]? = some c.enc := by simp [h]

theorem fit_sub {h : Hp} {l : List Int} {i j : Nat} {A : AV} (hA : IsRow A (ints l)) (h1 : i ≤ j) (h2 : j ≤ l.length) : slOk h 1 A (i : Int) (fun _ => (j : Int)) := by
  rw [hA.slOk]; exact ⟨by omega, by omega, by simp; omega, fun e he => ints_one he⟩
theorem sub_row {l : List Int} {i j : Nat} {A : AV} (hA : IsRow A (ints l)) (h2 : j ≤ l.length) : IsRow (subVal i (fun _ => j) A) (ints (cut l i j)) := by
  have := hA.sub i j (by simpa using h2)
  rw [ints_cut] at this; exact this

theorem covers_loop {K : KC2} {b o t : List Int} {B O T LV : AV} (hB : IsRow B (ints b)) (hO : IsRow O (ints o)) (hT : IsRow T (ints t)) {L : List Ck} (hL : IsRow LV (L.map Ck.enc)) (hlb : b.length ≤ 80) (hlo : o.length ≤ 80) (hlt : t.length ≤ 80) (hLn : L.length ≤ 1000000)
    (hK : ∀ ts loc τ, ts.length = 255 → tmp ts 11 = B → tmp ts 12 = O → tmp ts 13 = T → tmp ts 16 = .int .i64 b.length → tmp ts 17 = .int .i64 o.length → tmp ts 18 = .int .i64 t.length → K.k (.exit 0) ts loc τ)
    (ts : List AV) (loc : Go.Proofs.YtbmkgpocnkiibaaW.Abs.Loc) (τ : Heap) (hl : ts.length = 255) (h11 : tmp ts 11 = B) (h12 : tmp ts 12 = O) (h13 : tmp ts 13 = T) (h14 : tmp ts 14 = LV) (h16 : tmp ts 16 = .int .i64 0) (h17 : tmp ts 17 = .int .i64 0) (h18 : tmp ts 18 = .int .i64 0) (h19 : tmp ts 19 = .int .i64 0)
    (hc : Cov b o t none 0 0 0 L) : loop2I Try.prog W0 C [] F3l0 ts loc τ := by
  refine loop2I_ind cok F3l0w (m := fun n => L.length - n) (I := fun n ts loc τ => n ≤ L.length ∧ ts.length = 255 ∧ tmp ts 11 = B ∧ tmp ts 12 = O ∧ tmp ts 13 = T ∧ tmp ts 14 = LV ∧ tmp ts 19 = .int .i64 n ∧ ∃ i j k : Nat, tmp ts 16 = .int .i64 i ∧ tmp ts 17 = .int .i64 j ∧ tmp ts 18 = .int .i64 k ∧
    Cov b o t ((before L n).map Ck.s) i j k (L.drop n)) ?_ 0 ⟨by omega, hl, h11, h12, h13, h14, by simpa using h19, 0, 0, 0, by simpa using h16, by simpa using h17, by simpa using h18, hc⟩
  clear hl h11 h12 h13 h14 h16 h17 h18 h19 hc ts loc τ
  rintro n ts loc τ ⟨hn, hl, h11, h12, h13, h14, h19, i, j, k, h16, h17, h18, hc⟩ ih'
  simp (disch := first | omega | (simp only [List.length_set]; omega)) [F3l0, hl, h14, h19, hL.len]
  by_cases hlt' : n < L.length
  · obtain ⟨c, hcn⟩ : ∃ c, L[n]? = some c := ⟨L[n], by simp [hlt']⟩
    have hce := cks_at hcn
    rw [drop_at hcn] at hc
    obtain ⟨e0, e1, e2, b1, b2, b3, ne, l1, l2, l3, s1, s5, run, alt, hc'⟩ := hc
    obtain ⟨s, x0, x1, y0, y1, z0, z1⟩ := c
    dsimp only at e0 e1 e2 b1 b2 b3 ne l1 l2 l3 s1 s5 run alt hc'
    subst e0; subst e1; subst e2
    have g1 : ¬ (x1 : Int) < x0 := by omega
    have g2 : ¬ (y1 : Int) < y0 := by omega
    have g3 : ¬ (z1 : Int) < z0 := by omega
    have g4 : ¬ (x1 : Int) + y1 + z1 = x0 + y0 + z0 := by omega
    have g5 : ¬ (b.length : Int) < x1 := by omega
    have g6 : ¬ (o.length : Int) < y1 := by omega
    have g7 : ¬ (t.length : Int) < z1 := by omega
    simp (disch := first | omega | (simp only [List.length_set]; omega)) [hlt', hl, h11, h12, h13, h14, h16, h17, h18, h19, hL.elems, hL.at hce, hce, Ck.enc, wrap_id, g1, g2, g3, g4, g5, g6, g7, hB.len, hO.len, hT.len]
    have alt0 : n = 0 ∨ ∃ m d, n = m + 1 ∧ L[m]? = some d ∧ (d.s = 1 ↔ s ≠ 1) := by
      cases n with
      | zero => exact .inl rfl
      | succ m =>
        obtain ⟨d, hd⟩ : ∃ d, L[m]? = some d := ⟨L[m]'(by omega), by simp⟩
        refine .inr ⟨m, d, rfl, hd, alt d.s ?_⟩
        rw [before_succ hd]; rfl
    have go : ∀ (ts' : List AV) (loc : Go.Proofs.YtbmkgpocnkiibaaW.Abs.Loc) (τ : Heap), ts'.length = 255 → tmp ts' 11 = tmp ts 11 → tmp ts' 12 = tmp ts 12 → tmp ts' 13 = tmp ts 13 → tmp ts' 14 = tmp ts 14 → tmp ts' 16 = .int .i64 x1 → tmp ts' 17 = .int .i64 y1 → tmp ts' 18 = .int .i64 z1 → tmp ts' 19 = .int .i64 ((n + 1 : Nat) : Int) →
        loop2I Try.prog W0 C [] F3l0 ts' loc τ := by
      intro ts' loc τ f0 f11 f12 f13 f14 f16 f17 f18 f19
      refine ih' (n + 1) _ _ _ (by omega) ⟨by omega, f0, f11.trans h11, f12.trans h12, f13.trans h13, f14.trans h14, f19, x1, y1, z1, f16, f17, f18, ?_⟩
      rw [before_succ hcn]; exact hc'
    by_cases hs : s = 1
    · subst hs
      obtain ⟨r1, r2⟩ := run rfl
      have sB := sub_row hB (i := x0) l1
      have sO := sub_row hO (i := y0) l2
      have sT := sub_row hT (i := z0) l3
      have c1 := cut_length (i := x0) l1
      simp (disch := first | omega | (simp only [List.length_set]; omega)) [hl, h11, h12, h13, h14, h16, h17, h18, h19, hB.chk, hO.chk, hT.chk, fit_sub hB b1 l1, fit_sub hO b2 l2, fit_sub hT b3 l3]
      refine pcallI_pure' (same_spec _ _ sB sO (by omega)) (by simp [bareL, sB.same (ints_bare _), sO.same (ints_bare _)]) ?_
      simp (disch := first | omega | (simp only [List.length_set]; omega)) [r1, hl, h11, h12, h13, h14, h16, h17, h18, h19, hB.chk, hO.chk, hT.chk, fit_sub hB b1 l1, fit_sub hO b2 l2, fit_sub hT b3 l3]
      refine pcallI_pure' (same_spec _ _ sB sT (by omega)) (by simp [bareL, sB.same (ints_bare _), sT.same (ints_bare _)]) ?_
      simp (disch := first | omega | (simp only [List.length_set]; omega)) [r2, hl, h11, h12, h13, h14, h16, h17, h18, h19]
      rcases alt0 with rfl | ⟨m, d, rfl, hd, ha⟩
      · simp (disch := first | omega | (simp only [List.length_set]; omega)) [hl, h11, h12, h13, h14, h16, h17, h18, h19]
        intro m hm
        refine andI_intro (by omega) ?_
        simp (disch := first | omega | (simp only [List.length_set]; omega)) [hl, h11, h12, h13, h14, h16, h17, h18, h19]
        refine andI_intro (by omega) ?_
        simp (disch := first | omega | (simp only [List.length_set]; omega)) [hl, h11, h12, h13, h14, h16, h17, h18, h19]
        refine andI_intro (by omega) ?_
        simp (disch := first | omega | (simp only [List.length_set]; omega)) [hl, h11, h12, h13, h14, h16, h17, h18, h19]
        intro m2 hm2
        refine go _ _ _ ?_ ?_ ?_ ?_ ?_ ?_ ?_ ?_ ?_
        all_goals simp (disch := first | omega | (simp only [List.length_set]; omega)) [hl, h11, h12, h13, h14, h19, wrap_id]
      · obtain ⟨ds, d1, d2, d3, d4, d5, d6⟩ := d
        have hde := cks_at hd
        dsimp only at ha
        have hds : ¬ ds = 1 := by simpa using ha
        simp (disch := first | omega | (simp only [List.length_set]; omega)) [hl, h11, h12, h13, h14, h16, h17, h18, h19, wrap_id, hL.elems, hL.chk, hL.at hde, hde, Ck.enc, hds]
        intro m hm
        refine andI_intro (by omega) ?_
        simp (disch := first | omega | (simp only [List.length_set]; omega)) [hl, h11, h12, h13, h14, h16, h17, h18, h19]
        refine andI_intro (by omega) ?_
        simp (disch := first | omega | (simp only [List.length_set]; omega)) [hl, h11, h12, h13, h14, h16, h17, h18, h19]
        refine andI_intro (by omega) ?_
        simp (disch := first | omega | (simp only [List.length_set]; omega)) [hl, h11, h12, h13, h14, h16, h17, h18, h19]
        intro m2 hm2
        refine go _ _ _ ?_ ?_ ?_ ?_ ?_ ?_ ?_ ?_ ?_
        all_goals simp (disch := first | omega | (simp only [List.length_set]; omega)) [hl, h11, h12, h13, h14, h19, wrap_id]
    · have s1' : ¬ s < 1 := by omega
      have s5' : ¬ 5 < s := by omega
      simp (disch := first | omega | (simp only [List.length_set]; omega)) [hs, s1', s5', hl, h11, h12, h13, h14, h16, h17, h18, h19]
      rcases alt0 with rfl | ⟨m, d, rfl, hd, ha⟩
      · simp (disch := first | omega | (simp only [List.length_set]; omega)) [hl, h11, h12, h13, h14, h16, h17, h18, h19]
        intro m hm
        refine andI_intro (by omega) ?_
        simp (disch := first | omega | (simp only [List.length_set]; omega)) [hl, h11, h12, h13, h14, h16, h17, h18, h19]
        refine andI_intro (by omega) ?_
        simp (disch := first | omega | (simp only [List.length_set]; omega)) [hl, h11, h12, h13, h14, h16, h17, h18, h19]
        refine andI_intro (by omega) ?_
        simp (disch := first | omega | (simp only [List.length_set]; omega)) [hl, h11, h12, h13, h14, h16, h17, h18, h19]
        intro m2 hm2
        refine go _ _ _ ?_ ?_ ?_ ?_ ?_ ?_ ?_ ?_ ?_
        all_goals simp (disch := first | omega | (simp only [List.length_set]; omega)) [hl, h11, h12, h13, h14, h19, wrap_id]
      · obtain ⟨ds, d1, d2, d3, d4, d5, d6⟩ := d
        have hde := cks_at hd
        dsimp only at ha
        have hds : ds = 1 := by simpa [hs] using ha
        simp (disch := first | omega | (simp only [List.length_set]; omega)) [hs, hl, h11, h12, h13, h14, h16, h17, h18, h19, wrap_id, hL.elems, hL.chk, hL.at hde, hde, Ck.enc, hds]
        intro m hm
        refine andI_intro (by omega) ?_
        simp (disch := first | omega | (simp only [List.length_set]; omega)) [hl, h11, h12, h13, h14, h16, h17, h18, h19]
        refine andI_intro (by omega) ?_
        simp (disch := first | omega | (simp only [List.length_set]; omega)) [hl, h11, h12, h13, h14, h16, h17, h18, h19]
        refine andI_intro (by omega) ?_
        simp (disch := first | omega | (simp only [List.length_set]; omega)) [hl, h11, h12, h13, h14, h16, h17, h18, h19]
        intro m2 hm2
        refine go _ _ _ ?_ ?_ ?_ ?_ ?_ ?_ ?_ ?_ ?_
        all_goals simp (disch := first | omega | (simp only [List.length_set]; omega)) [hl, h11, h12, h13, h14, h19, wrap_id]
  · simp (disch := first | omega | (simp only [List.length_set]; omega)) [hlt', hl, h14, h19]
    rw [List.drop_of_length_le (by omega)] at hc
    obtain ⟨rfl, rfl, rfl⟩ := hc
    exact hK _ _ _ (by simp [hl]) (by simp (disch := first | omega | (simp only [List.length_set]; omega)) [h11]) (by simp (disch := first | omega | (simp only [List.length_set]; omega)) [h12]) (by simp (disch := first | omega | (simp only [List.length_set]; omega)) [h13]) (by simp (disch := first | omega | (simp only [List.length_set]; omega)) [h16]) (by simp (disch := first | omega | (simp only [List.length_set]; omega)) [h17]) (by simp (disch := first | omega | (simp only [List.length_set]; omega)) [h18])
end Go.Proofs.Ytbmkgpocnkiibaa.Lt
