/- How many plans there are in one; a plan's pieces. -/
import Derived.Test.YtgahmpfpnclefaaDoc1
import Derived.Test.YtgahmpfpnclefaaA22
namespace Go.Proofs.Ytgahmpfpnclefaa.Lt
open Go.Proofs.YtgahmpfpnclefaaW.Abs Go
set_option maxRecDepth 100000
set_option maxHeartbeats 2000000
set_option linter.unusedSimpArgs false
set_option linter.unusedVariables false
variable {W0 : World}

mutual
def sz : T → Int → Int
  | .mk _ _ _ kids, m => szL kids m 1
def szL : List T → Int → Int → Int
  | [], _, n => n
  | t :: r, m, n => if n < m then szL r m (n + sz t (m - n)) else n
end
mutual
theorem sz_bd : ∀ (t : T) (m : Int), 1 ≤ m → 1 ≤ sz t m ∧ sz t m ≤ m
  | .mk _ _ _ kids, m, h => by simp only [sz]; exact szL_bd kids m 1 (by omega) (by omega)
theorem szL_bd : ∀ (l : List T) (m n : Int), 1 ≤ n → n ≤ m → 1 ≤ szL l m n ∧ szL l m n ≤ m
  | [], m, n, h1, h2 => by simp only [szL]; omega
  | t :: r, m, n, h1, h2 => by
    simp only [szL]; split
    · have := sz_bd t (m - n) (by omega)
      exact szL_bd r m _ (by omega) (by omega)
    · omega
end

theorem size_spec (t : T) : ∀ (m : Int), 1 ≤ m → m ≤ 1000000 → PCall Try.prog W0 24 [.agg t.enc, .int .i64 m] (.int .i64 (sz t m)) := by
  obtain ⟨k, s, nil, kids⟩ := t
  intro m hm1 hm2
  have ih : ∀ x ∈ kids, ∀ (m : Int), 1 ≤ m → m ≤ 1000000 → PCall Try.prog W0 24 [.agg x.enc, .int .i64 m] (.int .i64 (sz x m)) := fun x hx => size_spec x
  refine pcall2 cok Try.func24 F24d F24e F24c F24w F24r (fun N => ?_)
  refine ev2I_intro ?_
  simp [F24s, T.enc_mk]
  refine loop2I_ind cok F24l0w (m := fun i => kids.length - i) (I := fun i ts loc τ => i ≤ kids.length ∧ ts.length = 31 ∧ tmp ts 1 = .int .i64 m ∧ tmp ts 2 = .bp N 0 0 ∧ (loc 0 = .box N 24 [[.int .i64 k, .str s, kidsV nil kids]]) ∧ ∃ n, tmp ts 5 = .int .i64 n ∧ tmp ts 6 = .int .i64 i ∧ (i : Int) < n ∧ n ≤ m ∧ szL (kids.drop i) m n = sz (.mk k s nil kids) m) ?_ 0 ?_
  · rintro i ts loc τ ⟨hi, hl, h1, h2, h0, n, h5, h6, hn1, hn2, hs⟩ ih'
    simp (disch := first | omega | (simp only [List.length_set]; omega)) [F24l0, h1, h2, h5, h6, hl, h0]
    refine condI_dec (fun hlt => ?_) (fun hlt => ?_)
    · obtain ⟨t, ht⟩ : ∃ t, kids[i]? = some t := ⟨kids[i], by simp [hlt]⟩
      simp (disch := first | omega | (simp only [List.length_set]; omega)) [h1, h2, h5, h6, hl, h0, hlt]
      refine condI_dec (fun hnm => ?_) (fun hnm => ?_)
      · simp (disch := first | omega | (simp only [List.length_set]; omega)) [h1, h2, h5, h6, hl, h0, hlt, ht, kidsV_at ht, wrap_id]
        have hs' := sz_bd t (m - n) (by omega)
        refine hcallI_pure (ih t (List.mem_of_getElem? ht) (m - n) (by omega) (by omega)) (by simp) (fun M hM => ?_)
        simp (disch := first | omega | (simp only [List.length_set]; omega)) [h1, h2, h5, h6, hl, h0, hlt, wrap_id]
        refine ih' (i + 1) _ _ _ (by omega) ⟨by omega, ?_⟩
        simp (disch := first | omega | (simp only [List.length_set]; omega)) [h1, h2, h5, h6, hl, h0]
        refine ⟨by omega, by omega, ?_⟩
        rw [drop_at ht, szL, if_pos hnm] at hs; exact hs
      · simp (disch := first | omega | (simp only [List.length_set]; omega)) [h1, h2, h5, h6, hl, h0, hlt]
        rw [drop_at ht, szL, if_neg hnm] at hs; exact hs
    · simp (disch := first | omega | (simp only [List.length_set]; omega)) [h1, h2, h5, h6, hl, h0, hlt]
      have : i = kids.length := by omega
      subst this
      simpa [szL] using hs
  · simp
    exact ⟨hm1, by simp [sz]⟩
termination_by SizeOf.sizeOf t
decreasing_by
  have := List.sizeOf_lt_of_mem hx
  simp; omega

mutual
def pcs : T → Int → List Pc
  | .mk k s _ kids, m =>
    if k = 1 then (if s = [] then [] else [⟨1, s⟩])
    else if k = 2 ∨ k = 3 ∨ k = 4 then [⟨k, []⟩]
    else if k = 5 ∨ k = 7 then pcsL kids m [⟨k, []⟩] ++ [⟨k + 1, []⟩]
    else pcsL kids m []
def pcsL : List T → Int → List Pc → List Pc
  | [], _, l => l
  | t :: r, m, l => if (l.length : Int) < m then pcsL r m (l ++ pcs t (m - l.length)) else l
end
mutual
theorem pcs_bd : ∀ (t : T) (m : Int), 1 ≤ m → ((pcs t m).length : Int) ≤ 2 * m
  | .mk k s _ kids, m, h => by
    simp only [pcs]
    split
    · split <;> simp <;> omega
    split
    · simp; omega
    split
    · have := pcsL_bd kids m [⟨k, []⟩] 1 (by simp) (by simp; omega)
      simp at this ⊢; omega
    · have := pcsL_bd kids m [] 0 (by simp) (by simp; omega)
      simp at this; omega
theorem pcsL_bd : ∀ (l : List T) (m : Int) (acc : List Pc) (c : Nat), c ≤ acc.length → (acc.length : Int) ≤ 2 * m - c → ((pcsL l m acc).length : Int) ≤ 2 * m - c
  | [], m, acc, c, h, h' => by simp only [pcsL]; omega
  | t :: r, m, acc, c, h, h' => by
    simp only [pcsL]; split
    · have h1 := pcs_bd t (m - acc.length) (by omega)
      exact pcsL_bd r m _ c (by simp; omega) (by simp; omega)
    · omega
end
theorem pc2 {l : List Pc} {e : List AV} (h : e ∈ l.map Pc.enc) : e.length = 2 := by
  obtain ⟨p, _, rfl⟩ := List.mem_map.1 h; rfl

theorem pieces_loop {K : KC2} (N : Nat) (k : Int) (s : List UInt8) (nil : Bool) (kids : List T) (m : Int) (hm1 : 1 ≤ m) (hm2 : m ≤ 1000000) (hk : kids.length * 48 ≤ 140737488355328)
    (ih : ∀ x ∈ kids, ∀ (m : Int), 1 ≤ m → m ≤ 1000000 → PCall Try.prog W0 11 [.agg x.enc, .int .i64 m] (rowV ((pcs x m).map Pc.enc)))
    (R : List Pc)
    (hK : ∀ ts loc (τ : Heap) tok, ts.length = 81 → tmp ts 2 = .bp N 0 0 → (loc 0 = .box N 24 [[.int .i64 k, .str s, kidsV nil kids]]) → tmp ts 5 = accV (R.map Pc.enc) tok → AccL (loc 1) 2 tok (R.map Pc.enc) → K.k (.exit 1) ts loc τ)
    (ts : List AV) (loc : Go.Proofs.YtgahmpfpnclefaaW.Abs.Loc) (τ : Heap) (acc : List Pc) (hl : ts.length = 81) (h1 : tmp ts 1 = .int .i64 m) (h2 : tmp ts 2 = .bp N 0 0) (h0 : loc 0 = .box N 24 [[.int .i64 k, .str s, kidsV nil kids]])
    (h5 : ∃ tok, tmp ts 5 = accV (acc.map Pc.enc) tok ∧ AccL (loc 1) 2 tok (acc.map Pc.enc)) (h6 : tmp ts 6 = .int .i64 0) (hb : (acc.length : Int) ≤ 2 * m) (hR : pcsL kids m acc = R) :
    loop2I Try.prog W0 C [] F11l0 ts loc τ := by
  obtain ⟨tok, h5, ha⟩ := h5
  refine loop2I_ind cok F11l0w (m := fun i => kids.length - i) (I := fun i ts loc τ => i ≤ kids.length ∧ ts.length = 81 ∧ tmp ts 1 = .int .i64 m ∧ tmp ts 2 = .bp N 0 0 ∧ (loc 0 = .box N 24 [[.int .i64 k, .str s, kidsV nil kids]]) ∧ tmp ts 6 = .int .i64 i ∧ ∃ acc tok, tmp ts 5 = accV (acc.map Pc.enc) tok ∧ AccL (loc 1) 2 tok (acc.map Pc.enc) ∧ (acc.length : Int) ≤ 2 * m ∧ pcsL (kids.drop i) m acc = R) ?_ 0
    ⟨by omega, hl, h1, h2, h0, h6, acc, tok, h5, ha, hb, hR⟩
  clear hl h1 h2 h0 h5 h6 ha hb hR acc tok ts loc τ
  rintro i ts loc τ ⟨hi, hl, h1, h2, h0, h6, acc, tok, h5, ha, hb, hR⟩ ih'
  simp (disch := first | omega | (simp only [List.length_set]; omega)) [F11l0, h1, h2, h5, h6, hl, h0]
  by_cases hlt : i < kids.length
  · obtain ⟨t, ht⟩ : ∃ t, kids[i]? = some t := ⟨kids[i], by simp [hlt]⟩
    simp (disch := first | omega | (simp only [List.length_set]; omega)) [hlt, h1, h2, h5, h6, hl, h0]
    refine condI_dec (fun hlm => ?_) (fun hlm => ?_)
    · simp (disch := first | omega | (simp only [List.length_set]; omega)) [h1, h2, h5, h6, hl, h0, ht, kidsV_at ht, wrap_id]
      refine hcallI_pure (ih t (List.mem_of_getElem? ht) (m - acc.length) (by omega) (by omega)) (by simp) (fun M hM => ?_)
      have hq := pcs_bd t (m - acc.length) (by omega)
      simp (disch := first | omega | (simp only [List.length_set]; omega)) [h1, h2, h5, h6, hl, h0, ha.grow, wrap_id]
      refine andI_intro ⟨by omega, by omega⟩ ?_
      simp (disch := first | omega | (simp only [List.length_set]; omega)) [h1, h2, h5, h6, hl, h0, wrap_id]
      refine ih' (i + 1) _ _ _ (by omega) ⟨by omega, ?_⟩
      simp (disch := first | omega | (simp only [List.length_set]; omega)) [h1, h2, h5, h6, hl, h0, wrap_id]
      refine ⟨acc ++ pcs t (m - acc.length), _, by rw [List.map_append], AccL.next' _ _ _ (by simp), by simp; omega, ?_⟩
      rw [drop_at ht, pcsL, if_pos hlm] at hR; exact hR
    · simp (disch := first | omega | (simp only [List.length_set]; omega)) [h1, h2, h5, h6, hl, h0]
      have he : R = acc := by rw [← hR, drop_at ht, pcsL, if_neg hlm]
      subst he
      exact hK _ _ _ tok (by simp [hl]) (by simp (disch := first | omega | (simp only [List.length_set]; omega)) [h2]) h0 (by simp (disch := first | omega | (simp only [List.length_set]; omega)) [h5]) ha
  · simp (disch := first | omega | (simp only [List.length_set]; omega)) [hlt, h1, h2, h5, h6, hl, h0]
    have he : R = acc := by rw [← hR, List.drop_of_length_le (by omega), pcsL]
    subst he
    exact hK _ _ _ tok (by simp [hl]) (by simp (disch := first | omega | (simp only [List.length_set]; omega)) [h2]) h0 (by simp (disch := first | omega | (simp only [List.length_set]; omega)) [h5]) ha

theorem pieces_spec : ∀ (t : T), t.ok → ∀ (m : Int), 1 ≤ m → m ≤ 1000000 → PCall Try.prog W0 11 [.agg t.enc, .int .i64 m] (rowV ((pcs t m).map Pc.enc))
  | .mk k s nil kids, hok => by
    obtain ⟨hs, hk, hkids⟩ := T.ok_mk.1 hok
    intro m hm1 hm2
    have ih : ∀ x ∈ kids, ∀ (m : Int), 1 ≤ m → m ≤ 1000000 → PCall Try.prog W0 11 [.agg x.enc, .int .i64 m] (rowV ((pcs x m).map Pc.enc)) := fun x hx => pieces_spec x (hkids x hx)
    refine pcall2 cok Try.func11 F11d F11e F11c F11w F11r (fun N => ?_)
    refine ev2I_intro ?_
    simp [F11s, T.enc_mk]
    refine condI_dec (fun hk1 => ?_) (fun hk1 => ?_)
    · subst hk1
      simp
      refine condI_split (fun h => ?_) (fun h => ?_)
      · have : s = [] := by simpa using h
        subst this; simp [pcs]
      · have : s ≠ [] := by simpa using h
        simp [pcs, this]
    · by_cases h2 : k = 2
      · subst h2; simp [pcs]
      by_cases h3 : k = 3
      · subst h3; simp [pcs]
      by_cases h4 : k = 4
      · subst h4; simp [pcs]
      by_cases h57 : k = 5 ∨ k = 7
      · have hbd := pcsL_bd kids m [⟨k, []⟩] 1 (by simp) (by simp; omega)
        rcases h57 with rfl | rfl
        · simp
          refine pieces_loop N 5 s nil kids m hm1 hm2 hk ih (pcsL kids m [⟨5, []⟩]) ?_ _ _ _ [⟨5, []⟩] (by simp) (by simp) (by simp) (by simp) ⟨_, rfl, by simp [AccL]⟩ (by simp) (by simp; omega) rfl
          intro ts loc τ tok hl h2' h0' h5' ha
          simp (disch := first | omega | (simp only [List.length_set]; omega)) [h2', h5', hl, h0', wrap_id, ha.grow]
          refine andI_intro (by omega) ?_
          simp (disch := first | omega | (simp only [List.length_set]; omega)) [h2', h5', hl, h0', pcs, wrap_id]
        · simp
          refine pieces_loop N 7 s nil kids m hm1 hm2 hk ih (pcsL kids m [⟨7, []⟩]) ?_ _ _ _ [⟨7, []⟩] (by simp) (by simp) (by simp) (by simp) ⟨_, rfl, by simp [AccL]⟩ (by simp) (by simp; omega) rfl
          intro ts loc τ tok hl h2' h0' h5' ha
          simp (disch := first | omega | (simp only [List.length_set]; omega)) [h2', h5', hl, h0', wrap_id, ha.grow]
          refine andI_intro (by omega) ?_
          simp (disch := first | omega | (simp only [List.length_set]; omega)) [h2', h5', hl, h0', pcs, wrap_id]
      · have h5 : k ≠ 5 := fun e => h57 (.inl e)
        have h7 : k ≠ 7 := fun e => h57 (.inr e)
        simp [h2, h3, h4, h5, h7]
        refine pieces_loop N k s nil kids m hm1 hm2 hk ih (pcsL kids m []) ?_ _ _ _ [] (by simp) (by simp) (by simp) (by simp) ⟨0, by simp, by simp⟩ (by simp) (by simp; omega) rfl
        intro ts loc τ tok hl h2' h0' h5' ha
        simp (disch := first | omega | (simp only [List.length_set]; omega)) [h2', h5', hl, h0', pcs, h5, h7, hk1, h2, h3, h4]
termination_by t => SizeOf.sizeOf t
decreasing_by
  have := List.sizeOf_lt_of_mem hx
  simp; omega
end Go.Proofs.Ytgahmpfpnclefaa.Lt
