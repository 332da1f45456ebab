import Derived.Test.YtoeonamjbohokaaLf
/- The law of a layout's words: its walk. -/
namespace Go.Proofs.Ytoeonamjbohokaa.Lt
open Go.Proofs.YtoeonamjbohokaaW.Abs Go
set_option maxRecDepth 100000
set_option maxHeartbeats 4000000
set_option linter.unusedSimpArgs false
set_option linter.unusedVariables false
variable {W0 : World}

def isW (b : UInt8) : Bool := decide (b ≠ 32) && decide (b ≠ 9) && decide (b ≠ 10)
theorem nbl_eq (l : List UInt8) : nbl l = l.filter isW := rfl
theorem u8eq (b c : UInt8) : ((b.toNat : Int) = (c.toNat : Int)) ↔ b = c := by
  constructor
  · intro h; exact UInt8.toNat_inj.1 (by omega)
  · rintro rfl; rfl
theorem plain8_loop {K : KC2} {hs0 : Hints} (s : List UInt8) (hs : s.length ≤ 140737488355327)
    (hK : ∀ ts loc (τ : Heap) tok, ts.length = 35 → tmp ts 3 = accV (ind (nbl s)) tok → K.k (.exit 0) ts loc τ)
    (ts : List AV) (loc : Go.Proofs.YtoeonamjbohokaaW.Abs.Loc) (τ : Heap) (hl : ts.length = 35) (h0 : tmp ts 0 = .str s) (h3 : tmp ts 3 = .nils) (h4 : tmp ts 4 = .int .i64 0) : loop2I Try.prog W0 C hs0 F19l0 ts loc τ := by
  refine loop2I_ind cok F19l0w (m := fun i => s.length - i) (I := fun i ts loc τ => i ≤ s.length ∧ ts.length = 35 ∧ tmp ts 0 = .str s ∧ tmp ts 4 = .int .i64 i ∧ ∃ acc tok, tmp ts 3 = accV (ind acc) tok ∧ AccL (loc 0) 1 tok (ind acc) ∧ acc.length ≤ i ∧ acc ++ nbl (s.drop i) = nbl s) ?_ 0
    ⟨by omega, hl, h0, by simpa using h4, [], 0, by simpa [ind] using h3, by simp [ind], by simp, by simp⟩
  clear hl h0 h3 h4 ts loc τ
  rintro i ts loc τ ⟨hi, hl, h0, h4, acc, tok, h3, ha, hn, hR⟩ ih'
  simp (disch := first | omega | (simp only [List.length_set]; omega)) [F19l0, hl, h0, h4]
  by_cases hlt : i < s.length
  · obtain ⟨b, hb⟩ : ∃ b, s[i]? = some b := ⟨s[i], by simp [hlt]⟩
    have hbx : s[i] = b := (List.getElem?_eq_some_iff.1 hb).2
    rw [drop_at hb, nbl_eq, List.filter_cons] at hR
    have skip : isW b = false → ∀ (ts' : List AV) (loc' : Go.Proofs.YtoeonamjbohokaaW.Abs.Loc) (τ' : Heap), ts'.length = 35 → tmp ts' 0 = .str s → tmp ts' 4 = .int .i64 ((i + 1 : Nat) : Int) → tmp ts' 3 = tmp ts 3 → loc' 0 = loc 0 → loop2I Try.prog W0 C hs0 F19l0 ts' loc' τ' := by
      intro hw ts' loc' τ' g0 g1 g4 g3 gc
      rw [if_neg (by simp [hw])] at hR
      exact ih' (i + 1) _ _ _ (by omega) ⟨by omega, g0, g1, g4, acc, tok, by rw [g3, h3], by rw [gc]; exact ha, by omega, hR⟩
    have e32 : ((b.toNat : Int) = 32) ↔ b = 32 := u8eq b 32
    have e9 : ((b.toNat : Int) = 9) ↔ b = 9 := u8eq b 9
    have e10 : ((b.toNat : Int) = 10) ↔ b = 10 := u8eq b 10
    by_cases f32 : (b.toNat : Int) = 32
    · simp (disch := first | omega | (simp only [List.length_set]; omega)) [hlt, hl, h0, h4, hb, hbx, f32]
      refine skip (by simp [isW, e32.1 f32]) _ _ _ ?_ ?_ ?_ ?_ ?_
      all_goals simp (disch := first | omega | (simp only [List.length_set]; omega)) [hl, h0, h3, h4, wrap_id]
    by_cases f9 : (b.toNat : Int) = 9
    · simp (disch := first | omega | (simp only [List.length_set]; omega)) [hlt, hl, h0, h4, hb, hbx, f9, f32]
      refine skip (by simp [isW, e9.1 f9]) _ _ _ ?_ ?_ ?_ ?_ ?_
      all_goals simp (disch := first | omega | (simp only [List.length_set]; omega)) [hl, h0, h3, h4, wrap_id]
    by_cases f10 : (b.toNat : Int) = 10
    · simp (disch := first | omega | (simp only [List.length_set]; omega)) [hlt, hl, h0, h4, hb, hbx, f10, f9, f32]
      refine skip (by simp [isW, e10.1 f10]) _ _ _ ?_ ?_ ?_ ?_ ?_
      all_goals simp (disch := first | omega | (simp only [List.length_set]; omega)) [hl, h0, h3, h4, wrap_id]
    rw [if_pos (by simp [isW, mt e32.2 f32, mt e9.2 f9, mt e10.2 f10])] at hR
    simp (disch := first | omega | (simp only [List.length_set]; omega)) [hlt, hl, h0, h3, h4, hb, hbx, f32, f9, f10, ha.grow]
    refine andI_intro (by omega) ?_
    simp (disch := first | omega | (simp only [List.length_set]; omega)) [hlt, hl, h0, h3, h4, hb, hbx, f32, f9, f10, ha.grow]
    refine ih' (i + 1) _ _ _ (by omega) ⟨by omega, ?_⟩
    simp (disch := first | omega | (simp only [List.length_set]; omega)) [hl, h0, h3, h4, wrap_id]
    exact ⟨acc ++ [b], _, by rw [ind_app]; rfl, AccL.next' _ _ _ (by rw [ind_app]; rfl), by simp; omega, by simpa [nbl_eq] using hR⟩
  · simp (disch := first | omega | (simp only [List.length_set]; omega)) [hlt, hl, h0, h3, h4]
    rw [List.drop_of_length_le (by omega)] at hR
    have hR' : acc = nbl s := by simpa [nbl] using hR
    exact hK _ _ _ tok (by simp [hl]) (by simp (disch := first | omega | (simp only [List.length_set]; omega)) [h3, hR'])
theorem plain8_spec (s : List UInt8) (hs : s.length ≤ 140737488355327) : PCall Try.prog W0 19 [.str s] (.str (nbl s)) := by
  refine pcall2 cok Try.func19 F19d F19e F19c F19w F19r (fun N => ?_)
  refine ev2I_intro ?_
  simp [F19s]
  refine plain8_loop s hs ?_ _ _ _ (by simp) rfl rfl rfl
  intro ts loc τ tok gl g3
  simp (disch := first | omega | (simp only [List.length_set]; omega)) [gl, g3]
  refine andI_intro (by simp [Go.Proofs.YtoeonamjbohokaaW.Abs.bytesOf_ind]) ?_
  simp (disch := first | omega | (simp only [List.length_set]; omega)) [gl, g3, Go.Proofs.YtoeonamjbohokaaW.Abs.bytesOf_ind]

def isTn (b : UInt8) : Bool := decide ((b.toNat : Int) = 9) || decide ((b.toNat : Int) = 10)
theorem isTn_false {b : UInt8} (h : isTn b = false) : b ≠ 9 ∧ b ≠ 10 := by
  simp [isTn] at h
  exact ⟨fun e => by subst e; exact absurd rfl h.1, fun e => by subst e; exact absurd rfl h.2⟩
def txtT (l : List Pc) : Bool := l.any fun x => decide (x.k = 1) && x.s.any isTn
theorem okd_text : ∀ (l : List Pc) (g n : Nat), okd l g n → ∀ x ∈ l, x.k ≠ 1 → x.s = []
  | [], _, _, _, x, hx, _ => by simp at hx
  | p :: r, g, n, h, x, hx, h1 => by
    rw [okd] at h
    have ex : ∃ g n, okd r g n := by
      rcases h with ⟨_, _, h⟩ | ⟨_, _, h⟩ | ⟨_, _, h⟩ | ⟨_, _, _, h⟩ | ⟨_, _, h⟩ | ⟨_, _, _, h⟩ <;> exact ⟨_, _, h⟩
    obtain ⟨g', n', h'⟩ := ex
    rcases List.mem_cons.1 hx with e | hx
    · subst e
      rcases h with ⟨h2, _, _⟩ | ⟨_, h2, _⟩ | ⟨_, h2, _⟩ | ⟨_, h2, _, _⟩ | ⟨_, h2, _⟩ | ⟨_, h2, _, _⟩
      · exact absurd h2 h1
      all_goals exact h2
    · exact okd_text r g' n' h' x hx h1
theorem txtT_false {l : List Pc} (hk : okd l 0 0) (h : txtT l = false) : ∀ x ∈ l, ∀ b ∈ x.s, b ≠ 9 ∧ b ≠ 10 := by
  intro x hx b hb
  by_cases h1 : x.k = 1
  · refine isTn_false ?_
    cases hT : isTn b with
    | false => rfl
    | true =>
      have : txtT l = true := List.any_eq_true.2 ⟨x, hx, by simp [h1]; exact ⟨b, hb, hT⟩⟩
      rw [this] at h; cases h
  · rw [okd_text l 0 0 hk x hx h1] at hb; simp at hb
theorem allT_len : ∀ l : List Pc, (allT l).length ≤ wid l
  | [] => by simp [allT, wid]
  | x :: r => by
    have := allT_len r
    simp only [allT, wid, List.length_append]
    split <;> simp <;> omega

theorem words_l1 {K : KC2} {hs : Hints} {l : List Pc} {L w8 w9 w10 w11 w12 : AV} (hL : IsRow L (l.map Pc.enc)) (hll : l.length ≤ 1000000) {i : Nat} {x : Pc} (hq : l[i]? = some x) (hx : x.s.length ≤ 140737488355328) (b0 : Bool)
    (hK : ∀ ts loc (τ : Heap), ts.length = 141 → tmp ts 8 = w8 → tmp ts 9 = w9 → tmp ts 10 = w10 → tmp ts 11 = w11 → tmp ts 12 = w12 → tmp ts 13 = L → tmp ts 15 = .int .i64 i → tmp ts 14 = .bool (b0 || x.s.any isTn) → K.k (.exit 2) ts loc τ)
    (ts : List AV) (loc : Go.Proofs.YtoeonamjbohokaaW.Abs.Loc) (τ : Heap) (hl : ts.length = 141) (h8 : tmp ts 8 = w8) (h9 : tmp ts 9 = w9) (h10 : tmp ts 10 = w10) (h11 : tmp ts 11 = w11) (h12 : tmp ts 12 = w12) (h13 : tmp ts 13 = L) (h14 : tmp ts 14 = .bool b0) (h15 : tmp ts 15 = .int .i64 i) (h16 : tmp ts 16 = .int .i64 0) : loop2I Try.prog W0 C hs F5l1 ts loc τ := by
  refine loop2I_ind cok F5l1w (m := fun k => x.s.length - k) (I := fun k ts loc τ => k ≤ x.s.length ∧ ts.length = 141 ∧ tmp ts 8 = w8 ∧ tmp ts 9 = w9 ∧ tmp ts 10 = w10 ∧ tmp ts 11 = w11 ∧ tmp ts 12 = w12 ∧ tmp ts 13 = L ∧ tmp ts 15 = .int .i64 i ∧ tmp ts 16 = .int .i64 k ∧
    ∃ b, tmp ts 14 = .bool b ∧ (b || (x.s.drop k).any isTn) = (b0 || x.s.any isTn)) ?_ 0 ⟨by omega, hl, h8, h9, h10, h11, h12, h13, h15, by simpa using h16, b0, h14, by simp⟩
  clear hl h8 h9 h10 h11 h12 h13 h14 h15 h16 ts loc τ
  have hil := (List.getElem?_eq_some_iff.1 hq).1
  have hqe : (l.map Pc.enc)[i]? = some x.enc := by simp [hq]
  obtain ⟨xk, xs⟩ := x
  dsimp only at hx hK
  rintro k ts loc τ ⟨hk, hl, h8, h9, h10, h11, h12, h13, h15, h16, b, h14, hb⟩ ih'
  dsimp only at hk hb ih'
  simp (disch := first | omega | (simp only [List.length_set]; omega)) [F5l1, hl, h13, h15, h16, hL.len, hL.elems, hL.at hqe, hqe]
  by_cases hlt : k < xs.length
  · obtain ⟨c, hc⟩ : ∃ c, xs[k]? = some c := ⟨xs[k], by simp [hlt]⟩
    have hcx : xs[k] = c := (List.getElem?_eq_some_iff.1 hc).2
    rw [drop_at hc, List.any_cons] at hb
    have hcn : isTn c = (decide ((c.toNat : Int) = 9) || decide ((c.toNat : Int) = 10)) := rfl
    rw [hcn] at hb
    cases b with
    | true =>
      simp (disch := first | omega | (simp only [List.length_set]; omega)) [hlt, hl, h13, h14, h15, h16, hL.elems, hL.at hqe, hqe, hc, hcx]
      refine ih' (k + 1) _ _ _ (by omega) ⟨by omega, ?_⟩
      simp (disch := first | omega | (simp only [List.length_set]; omega)) [hl, h8, h9, h10, h11, h12, h13, h14, h15, h16, wrap_id]
      simpa using hb
    | false =>
      by_cases c9 : (c.toNat : Int) = 9
      · simp (disch := first | omega | (simp only [List.length_set]; omega)) [hlt, hl, h13, h14, h15, h16, hL.elems, hL.at hqe, hqe, hc, hcx, c9]
        refine ih' (k + 1) _ _ _ (by omega) ⟨by omega, ?_⟩
        simp (disch := first | omega | (simp only [List.length_set]; omega)) [hl, h8, h9, h10, h11, h12, h13, h14, h15, h16, wrap_id, c9]
        simpa [c9] using hb
      · simp (disch := first | omega | (simp only [List.length_set]; omega)) [hlt, hl, h13, h14, h15, h16, hL.elems, hL.at hqe, hqe, hc, hcx, c9]
        refine ih' (k + 1) _ _ _ (by omega) ⟨by omega, ?_⟩
        simp (disch := first | omega | (simp only [List.length_set]; omega)) [hl, h8, h9, h10, h11, h12, h13, h14, h15, h16, wrap_id, c9]
        simpa [c9] using hb
  · simp (disch := first | omega | (simp only [List.length_set]; omega)) [hlt, hl, h13, h15, h16]
    rw [List.drop_of_length_le (by omega)] at hb
    simp at hb
    exact hK _ _ _ (by simp [hl]) (by simp (disch := first | omega | (simp only [List.length_set]; omega)) [h8]) (by simp (disch := first | omega | (simp only [List.length_set]; omega)) [h9]) (by simp (disch := first | omega | (simp only [List.length_set]; omega)) [h10]) (by simp (disch := first | omega | (simp only [List.length_set]; omega)) [h11]) (by simp (disch := first | omega | (simp only [List.length_set]; omega)) [h12]) (by simp (disch := first | omega | (simp only [List.length_set]; omega)) [h13]) (by simp (disch := first | omega | (simp only [List.length_set]; omega)) [h15]) (by simp (disch := first | omega | (simp only [List.length_set]; omega)) [h14, hb])
theorem words_l2 {K : KC2} {hs : Hints} {l : List Pc} {L w8 w9 w10 w11 : AV} (hL : IsRow L (l.map Pc.enc)) (hll : l.length ≤ 1000000) (hwl : wid l ≤ 140737488355328)
    (hK : ∀ ts loc (τ : Heap), ts.length = 141 → tmp ts 8 = w8 → tmp ts 9 = w9 → tmp ts 10 = w10 → tmp ts 11 = w11 → tmp ts 12 = .str (allT l) → tmp ts 14 = .bool (txtT l) → K.k (.exit 0) ts loc τ)
    (ts : List AV) (loc : Go.Proofs.YtoeonamjbohokaaW.Abs.Loc) (τ : Heap) (hl : ts.length = 141) (h8 : tmp ts 8 = w8) (h9 : tmp ts 9 = w9) (h10 : tmp ts 10 = w10) (h11 : tmp ts 11 = w11) (h12 : tmp ts 12 = .str []) (h13 : tmp ts 13 = L) (h14 : tmp ts 14 = .bool false) (h15 : tmp ts 15 = .int .i64 0) : loop2I Try.prog W0 C hs F5l2 ts loc τ := by
  have hal := allT_len l
  refine loop2I_ind cok F5l2w (m := fun i => l.length - i) (I := fun i ts loc τ => i ≤ l.length ∧ ts.length = 141 ∧ tmp ts 8 = w8 ∧ tmp ts 9 = w9 ∧ tmp ts 10 = w10 ∧ tmp ts 11 = w11 ∧ tmp ts 13 = L ∧ tmp ts 15 = .int .i64 i ∧
    ∃ (b : Bool) (acc : List UInt8), tmp ts 14 = .bool b ∧ tmp ts 12 = .str acc ∧ (b || txtT (l.drop i)) = txtT l ∧ acc ++ allT (l.drop i) = allT l) ?_ 0
    ⟨by omega, hl, h8, h9, h10, h11, h13, by simpa using h15, false, [], h14, h12, by simp, by simp⟩
  clear hl h8 h9 h10 h11 h12 h13 h14 h15 ts loc τ
  rintro i ts loc τ ⟨hi, hl, h8, h9, h10, h11, h13, h15, b, acc, h14, h12, ht, ha⟩ ih'
  simp (disch := first | omega | (simp only [List.length_set]; omega)) [F5l2, hl, h13, h15, hL.len]
  by_cases hlt : i < l.length
  · obtain ⟨x, hq⟩ : ∃ x, l[i]? = some x := ⟨l[i], by simp [hlt]⟩
    have hqe : (l.map Pc.enc)[i]? = some x.enc := by simp [hq]
    have hwx := pc_mem_wid hq
    rw [drop_at hq] at ht ha
    rw [txtT, List.any_cons] at ht
    rw [allT] at ha
    have go : ∀ (acc' : List UInt8) (b' : Bool) (ts' : List AV) (loc' : Go.Proofs.YtoeonamjbohokaaW.Abs.Loc) (τ' : Heap), acc' ++ allT (l.drop (i + 1)) = allT l → (b' || txtT (l.drop (i + 1))) = txtT l → ts'.length = 141 → tmp ts' 8 = w8 → tmp ts' 9 = w9 → tmp ts' 10 = w10 → tmp ts' 11 = w11 → tmp ts' 12 = .str acc' → tmp ts' 13 = L → tmp ts' 15 = .int .i64 ((i + 1 : Nat) : Int) → tmp ts' 14 = .bool b' → loop2I Try.prog W0 C hs F5l2 ts' loc' τ' := by
      intro acc' b' ts' loc' τ' e1 e2 g0 g8 g9 g10 g11 g12 g13 g15 g14
      exact ih' (i + 1) _ _ _ (by omega) ⟨by omega, g0, g8, g9, g10, g11, g13, g15, b', acc', g14, g12, e2, e1⟩
    clear ih' hK
    obtain ⟨xk, xs⟩ := x
    dsimp only at hwx ht ha
    by_cases c1 : xk = 1
    · subst c1
      simp only [if_true] at ha
      have hlen := congrArg List.length ha
      simp only [List.length_append] at hlen
      simp (disch := first | omega | (simp only [List.length_set]; omega)) [hlt, hl, h12, h13, h15, hL.elems, hL.at hqe, hqe]
      refine andI_intro (by omega) ?_
      simp (disch := first | omega | (simp only [List.length_set]; omega)) [hlt, hl, h12, h13, h15, hL.elems, hL.at hqe, hqe]
      refine words_l1 hL hll hq (by dsimp only; omega) b ?_ _ _ _ (by simp [hl]) (by simp (disch := first | omega | (simp only [List.length_set]; omega)) [h8]; exact rfl) (by simp (disch := first | omega | (simp only [List.length_set]; omega)) [h9]; exact rfl) (by simp (disch := first | omega | (simp only [List.length_set]; omega)) [h10]; exact rfl) (by simp (disch := first | omega | (simp only [List.length_set]; omega)) [h11]; exact rfl) (w12 := .str (acc ++ xs)) (by simp (disch := first | omega | (simp only [List.length_set]; omega)) [h12]) (by simp (disch := first | omega | (simp only [List.length_set]; omega)) [h13]) (by simp (disch := first | omega | (simp only [List.length_set]; omega)) [h14]) (by simp (disch := first | omega | (simp only [List.length_set]; omega)) [h15]) (by simp (disch := first | omega | (simp only [List.length_set]; omega)) [])
      intro ts loc τ gl g8 g9 g10 g11 g12 g13 g15 g14
      simp (disch := first | omega | (simp only [List.length_set]; omega)) [gl, g15]
      refine go (acc ++ xs) (b || xs.any isTn) _ _ _ (by rw [List.append_assoc]; exact ha) (by rw [← ht, Bool.or_assoc]; simp [txtT]) (by simp [gl]) ?_ ?_ ?_ ?_ ?_ ?_ ?_ ?_
      all_goals simp (disch := first | omega | (simp only [List.length_set]; omega)) [gl, g8, g9, g10, g11, g12, g13, g14, g15, wrap_id]
    · simp (disch := first | omega | (simp only [List.length_set]; omega)) [hlt, hl, h12, h13, h15, hL.elems, hL.at hqe, hqe, c1]
      rw [if_neg c1] at ha
      refine go acc b _ _ _ (by simpa using ha) (by simpa [c1, txtT] using ht) (by simp [hl]) ?_ ?_ ?_ ?_ ?_ ?_ ?_ ?_
      all_goals simp (disch := first | omega | (simp only [List.length_set]; omega)) [hl, h8, h9, h10, h11, h12, h13, h14, h15, wrap_id]
  · simp (disch := first | omega | (simp only [List.length_set]; omega)) [hlt, hl, h13, h15]
    rw [List.drop_of_length_le (by omega)] at ht ha
    simp [txtT, allT] at ht ha
    exact hK _ _ _ (by simp [hl]) (by simp (disch := first | omega | (simp only [List.length_set]; omega)) [h8]) (by simp (disch := first | omega | (simp only [List.length_set]; omega)) [h9]) (by simp (disch := first | omega | (simp only [List.length_set]; omega)) [h10]) (by simp (disch := first | omega | (simp only [List.length_set]; omega)) [h11]) (by simp (disch := first | omega | (simp only [List.length_set]; omega)) [h12, ha]) (by simp (disch := first | omega | (simp only [List.length_set]; omega)) [h14, ht]; rfl)
theorem words_l0 {K : KC2} {hs : Hints} {S : List UInt8} {w9 w10 w11 w12 : AV} (hS : S.length ≤ 140737488355327) (tb : Bool) (hg : tb = false → gd S)
    (hK : ∀ ts loc (τ : Heap), ts.length = 141 → tmp ts 8 = .str S → tmp ts 9 = w9 → tmp ts 10 = w10 → tmp ts 11 = w11 → tmp ts 12 = w12 → K.k (.exit 4) ts loc τ)
    (ts : List AV) (loc : Go.Proofs.YtoeonamjbohokaaW.Abs.Loc) (τ : Heap) (hl : ts.length = 141) (h8 : tmp ts 8 = .str S) (h9 : tmp ts 9 = w9) (h10 : tmp ts 10 = w10) (h11 : tmp ts 11 = w11) (h12 : tmp ts 12 = w12) (h14 : tmp ts 14 = .bool tb) (h17 : tmp ts 17 = .int .i64 0) : loop2I Try.prog W0 C hs F5l0 ts loc τ := by
  refine loop2I_ind cok F5l0w (m := fun k => S.length - k) (I := fun k ts loc τ => k ≤ S.length ∧ ts.length = 141 ∧ tmp ts 8 = .str S ∧ tmp ts 9 = w9 ∧ tmp ts 10 = w10 ∧ tmp ts 11 = w11 ∧ tmp ts 12 = w12 ∧ tmp ts 14 = .bool tb ∧ tmp ts 17 = .int .i64 k) ?_ 0 ⟨by omega, hl, h8, h9, h10, h11, h12, h14, by simpa using h17⟩
  clear hl h8 h9 h10 h11 h12 h14 h17 ts loc τ
  rintro k ts loc τ ⟨hk, hl, h8, h9, h10, h11, h12, h14, h17⟩ ih'
  cases tb with
  | true =>
    simp (disch := first | omega | (simp only [List.length_set]; omega)) [F5l0, hl, h8, h14, h17]
    exact hK _ _ _ (by simp [hl]) (by simp (disch := first | omega | (simp only [List.length_set]; omega)) [h8]) (by simp (disch := first | omega | (simp only [List.length_set]; omega)) [h9]) (by simp (disch := first | omega | (simp only [List.length_set]; omega)) [h10]) (by simp (disch := first | omega | (simp only [List.length_set]; omega)) [h11]) (by simp (disch := first | omega | (simp only [List.length_set]; omega)) [h12])
  | false =>
    simp (disch := first | omega | (simp only [List.length_set]; omega)) [F5l0, hl, h8, h14, h17]
    by_cases hlt : k < S.length
    · obtain ⟨c, hc⟩ : ∃ c, S[k]? = some c := ⟨S[k], by simp [hlt]⟩
      have hcx : S[k] = c := (List.getElem?_eq_some_iff.1 hc).2
      by_cases c9 : (c.toNat : Int) = 9
      · have e9 : c = 9 := (u8eq c 9).1 c9
        rw [e9] at hc
        obtain ⟨d, hd, hd10⟩ := hg rfl k hc
        have hkl := (List.getElem?_eq_some_iff.1 hd).1
        have hdx : S[k + 1] = d := (List.getElem?_eq_some_iff.1 hd).2
        have d10 : ¬ (d.toNat : Int) = 10 := fun h => hd10 ((u8eq d 10).1 h)
        have hne : ¬ (k : Int) + 1 = S.length := by omega
        have hwr : IntKind.i64.wrap ((k : Int) + 1) = ((k + 1 : Nat) : Int) := by rw [wrap_id (by omega) (by omega)]; simp
        simp (disch := first | omega | (simp only [List.length_set]; omega)) [hlt, hl, h8, h14, h17, hc, hcx, e9, hne, hwr, hkl, hd, hdx, d10]
        refine andI_intro (by omega) ?_
        simp (disch := first | omega | (simp only [List.length_set]; omega)) [hlt, hl, h8, h14, h17, hc, hcx, e9, hne, hwr, hkl, hd, hdx, d10]
        refine ih' (k + 1) _ _ _ (by omega) ⟨by omega, ?_⟩
        simp (disch := first | omega | (simp only [List.length_set]; omega)) [hl, h8, h9, h10, h11, h12, h14, h17, wrap_id]
      · simp (disch := first | omega | (simp only [List.length_set]; omega)) [hlt, hl, h8, h14, h17, hc, hcx, c9]
        refine ih' (k + 1) _ _ _ (by omega) ⟨by omega, ?_⟩
        simp (disch := first | omega | (simp only [List.length_set]; omega)) [hl, h8, h9, h10, h11, h12, h14, h17, wrap_id]
    · simp (disch := first | omega | (simp only [List.length_set]; omega)) [hlt, hl, h8, h17]
      exact hK _ _ _ (by simp [hl]) (by simp (disch := first | omega | (simp only [List.length_set]; omega)) [h8]) (by simp (disch := first | omega | (simp only [List.length_set]; omega)) [h9]) (by simp (disch := first | omega | (simp only [List.length_set]; omega)) [h10]) (by simp (disch := first | omega | (simp only [List.length_set]; omega)) [h11]) (by simp (disch := first | omega | (simp only [List.length_set]; omega)) [h12])

theorem layoutWords_spec (t : T) (hbk : bulk t ≤ 1048576) (n : Int) (_ : (Lit.int .i64 n).wf = true) (m : Int) (_ : (Lit.int .i64 m).wf = true) : PCall Try.prog W0 5 [.agg t.enc, .int .i64 n, .int .i64 m] (.bool true) := by
  obtain ⟨hot, hbt, hwt, hlt⟩ := built_facts hbk
  refine pcall2 cok Try.func5 F5d F5e F5c F5w F5r (fun N => ?_)
  refine ev2I_intro ?_
  simp [F5s]
  refine hcallI_pure (few_spec t hot) (by simp) (fun M hM => ?_)
  by_cases hft : few t = true
  · obtain ⟨hp, hl⟩ := few_pieces hft
    rw [← hp] at hl
    have hok := built_okd t
    have l1 : (plain (built t)).length ≤ 2000 := by omega
    have w1 : wid (plain (built t)) ≤ 3000000 := by omega
    have rn := run_len0 (w := pageN n) l1 w1
    have rm := run_len0 (w := pageN m) l1 w1
    have wn := run_words (pageN n) (plain (built t)) [false] pg0
    have wm := run_words (pageN m) (plain (built t)) [false] pg0
    have gn : txtT (plain (built t)) = false → gd (run (pageN n) (plain (built t)) [false] pg0).s := fun h => run_gd (pageN n) (plain (built t)) [false] pg0 0 0 hok (txtT_false hok h) (fun i hi => by simp [pg0] at hi)
    have n0 : nbl pg0.s = [] := rfl
    rw [n0, List.nil_append] at wn wm
    have al := allT_len (plain (built t))
    simp [hft]
    refine hcallI_pure (built_spec t hot) (by simp) (fun M hM => ?_)
    simp
    refine pcallI_pure' (page_spec n) rfl ?_
    simp
    repeat (refine andI_intro (by dsimp only at *; omega) ?_; simp)
    refine pcallI_pure' (layOf_spec _ hbt l1 w1 hok (pageN n)) (by simp) ?_
    rw [layR_page]
    simp
    intro M4 hM4
    refine pcallI_pure' (page_spec m) rfl ?_
    simp
    repeat (refine andI_intro (by dsimp only at *; omega) ?_; simp)
    refine pcallI_pure' (layOf_spec _ hbt l1 w1 hok (pageN m)) (by simp) ?_
    rw [layR_page]
    simp
    intro M5 hM5
    refine hcallI_pure (plain_spec (built t) hbt (by omega)) (by simp) (fun M hM => ?_)
    simp
    generalize (run (pageN n) (plain (built t)) [false] pg0).s = R at rn wn gn ⊢
    generalize (run (pageN m) (plain (built t)) [false] pg0).s = R2 at rm wm ⊢
    refine words_l2 (l := plain (built t)) (IsRow.rowV _) (by omega) (by omega) ?_ _ _ _ (by simp) rfl rfl rfl rfl rfl rfl rfl rfl
    intro ts loc τ gl g8 g9 g10 g11 g12 g14
    simp at g8 g9 g10 g11
    simp (disch := first | omega | (simp only [List.length_set]; omega)) [gl, g8, g9, g10, g11, g12, g14]
    refine words_l0 (S := R) (by omega) _ gn ?_ _ _ _ (by simp [gl]) (by simp (disch := first | omega | (simp only [List.length_set]; omega)) [g8]) (by simp (disch := first | omega | (simp only [List.length_set]; omega)) [g9]; exact rfl) (by simp (disch := first | omega | (simp only [List.length_set]; omega)) [g10]; exact rfl) (by simp (disch := first | omega | (simp only [List.length_set]; omega)) [g11]; exact rfl) (by simp (disch := first | omega | (simp only [List.length_set]; omega)) [g12]; exact rfl) (by simp (disch := first | omega | (simp only [List.length_set]; omega)) [g14]) (by simp (disch := first | omega | (simp only [List.length_set]; omega)) [])
    intro ts loc τ gl g8 g9 g10 g11 g12
    simp (disch := first | omega | (simp only [List.length_set]; omega)) [gl, g8, g9, g10, g11, g12]
    refine hcallI_pure known_spec rfl (fun M hM => ?_)
    simp (disch := first | omega | (simp only [List.length_set]; omega)) [gl, g8, g9, g10, g11, g12]
    refine hcallI_pure (plain8_spec R (by omega)) (by simp) (fun M hM => ?_)
    simp (disch := first | omega | (simp only [List.length_set]; omega)) [gl, g8, g9, g10, g11, g12]
    refine hcallI_pure (plain8_spec (allT (plain (built t))) (by omega)) (by simp) (fun M hM => ?_)
    simp (disch := first | omega | (simp only [List.length_set]; omega)) [gl, g8, g9, g10, g11, g12, wn]
    refine hcallI_pure (plain8_spec R2 (by omega)) (by simp) (fun M hM => ?_)
    simp (disch := first | omega | (simp only [List.length_set]; omega)) [gl, g8, g9, g10, g11, g12]
    refine hcallI_pure (plain8_spec (allT (plain (built t))) (by omega)) (by simp) (fun M hM => ?_)
    simp (disch := first | omega | (simp only [List.length_set]; omega)) [gl, g8, g9, g10, g11, g12, wm]
  · simp [hft]
    refine hcallI_pure known_spec rfl (fun M hM => ?_)
    simp
end Go.Proofs.Ytoeonamjbohokaa.Lt
