import Derived.Test.YtoeonamjbohokaaLe
/- Laws of flat layouts and of a layout's words, in plain Lean. -/
namespace Go.Proofs.Ytoeonamjbohokaa.Lt
open Go.Proofs.YtoeonamjbohokaaW.Abs Go
set_option maxRecDepth 100000
set_option maxHeartbeats 2000000
set_option linter.unusedSimpArgs false
set_option linter.unusedVariables false

/-- is it a break -/
def brk (x : Pc) : Bool := decide (2 ≤ x.k) && decide (x.k ≤ 4)
def breaksN : List Pc → Nat
  | [] => 0
  | x :: r => (if brk x = true then 1 else 0) + breaksN r
def groupsN : List Pc → Nat
  | [] => 0
  | x :: r => (if x.k = 7 then 1 else 0) + groupsN r
def cnt10 : List UInt8 → Nat
  | [] => 0
  | b :: r => (if b = 10 then 1 else 0) + cnt10 r
theorem cnt10_app : ∀ a b : List UInt8, cnt10 (a ++ b) = cnt10 a + cnt10 b
  | [], b => by simp [cnt10]
  | x :: r, b => by simp [cnt10, cnt10_app r b]; omega
theorem cnt10_tabs : ∀ n : Nat, cnt10 (List.replicate n 9) = 0
  | 0 => rfl
  | n + 1 => by simp [List.replicate_succ, cnt10, cnt10_tabs n]
theorem cnt10_zero : ∀ l : List UInt8, (∀ b ∈ l, b ≠ 10) → cnt10 l = 0
  | [], _ => rfl
  | x :: r, h => by
    have := cnt10_zero r (fun b hb => h b (by simp [hb]))
    have hx := h x (by simp)
    simp [cnt10, this, hx]
theorem flat_hard : ∀ (l : List Pc) (s : List UInt8), (flatOf l s).2 = decide (hardS l = 0)
  | [], s => by simp [flatOf, hardS]
  | p :: r, s => by
    rw [flatOf, hardS]
    by_cases h4 : p.k = 4
    · simp [h4]
    · simp only [h4, if_false, Nat.zero_add]; exact flat_hard r _
theorem flat_width : ∀ (l : List Pc) (s : List UInt8), hardS l = 0 → width (flatOf l s).1 = width s + flatS l
  | [], s, _ => by simp [flatOf, flatS]
  | p :: r, s, h => by
    rw [hardS] at h
    rw [flatOf, flatS]
    by_cases h4 : p.k = 4
    · simp [h4] at h
    · simp only [h4, if_false] at h ⊢
      rw [flat_width r _ (by omega)]
      by_cases h1 : p.k = 1
      · simp only [h1, if_true, width_app, fw]; omega
      · by_cases h2 : p.k = 2
        · simp only [h2, if_true, fw]
          rw [if_neg (by decide), if_neg (by decide), width_app]
          have : width [32] = 1 := by decide
          omega
        · simp only [h1, h2, if_false, fw]; omega
/-- flat: the text is the flat text -/
theorem sta_flat {w : Int} {c : List Pc} {u : List Bool} : ∀ (a : List Pc) (g n : Nat) (p : Pg), okd a g n → hardS a = 0 → p.tabs = 0 → (sta w c a (List.replicate (g + 1) true ++ u) p).2.s = (flatOf a p.s).1
  | [], g, n, p, h, _, _ => by simp [sta, flatOf]
  | x :: a, g, n, p, h, hh, ht => by
    rw [okd] at h
    rw [hardS] at hh
    have hd : (List.replicate (g + 1) true ++ u).headD false = true := by simp [List.replicate_succ]
    have hs : List.replicate (g + 1 + 1) true ++ u = true :: (List.replicate (g + 1) true ++ u) := by simp [List.replicate_succ]
    have htl : 0 < g → (List.replicate (g + 1) true ++ u).tail = List.replicate (g - 1 + 1) true ++ u := fun h => by obtain ⟨g', rfl⟩ : ∃ g', g = g' + 1 := ⟨g - 1, by omega⟩; simp [List.replicate_succ]
    rw [sta, flatOf, hd]
    generalize hG : List.replicate (g + 1) true ++ u = G at hd hs htl
    have IH : ∀ (m : Nat) (q : Pg), okd a g m → hardS a = 0 → q.tabs = 0 → (sta w c a G q).2.s = (flatOf a q.s).1 := fun m q h1 h2 h3 => by rw [← hG]; exact sta_flat a g m q h1 h2 h3
    rcases h with ⟨h1, _, h2⟩ | ⟨h1, _, h2⟩ | ⟨h1, _, h2⟩ | ⟨h1, _, _, h2⟩ | ⟨h1, _, h2⟩ | ⟨h1, _, h3, h2⟩
    · simp [h1] at hh ⊢
      rw [IH n _ h2 hh rfl]
      simp [Pg.put, ht]
    · rcases h1 with h1 | h1 | h1
      · simp [h1] at hh ⊢
        rw [IH n _ h2 hh rfl]
        simp [Pg.put, ht]
      · simp [h1] at hh ⊢
        exact IH n _ h2 hh ht
      · simp [h1] at hh
    · simp [h1] at hh ⊢
      exact IH _ { p with nest := p.nest + 1 } h2 hh ht
    · simp [h1] at hh ⊢
      exact IH _ { p with nest := p.nest - 1 } h2 hh ht
    · simp [h1] at hh ⊢
      rw [← hs]
      exact sta_flat (w := w) (c := c) (u := u) a (g + 1) n p h2 hh ht
    · simp [h1] at hh ⊢
      rw [htl h3]
      exact sta_flat (w := w) (c := c) (u := u) a (g - 1) n p h2 hh ht
/-- lines -/
theorem sta_lines {w : Int} {c : List Pc} : ∀ (a : List Pc) (gs : List Bool) (p : Pg), (∀ x ∈ a, ∀ b ∈ x.s, b ≠ 10) → cnt10 (sta w c a gs p).2.s ≤ cnt10 p.s + breaksN a
  | [], gs, p, h => by simp [sta, breaksN]
  | x :: a, gs, p, h => by
    have ha : ∀ y ∈ a, ∀ b ∈ y.s, b ≠ 10 := fun y hy => h y (by simp [hy])
    have hx := cnt10_zero x.s (h x (by simp))
    have e1 : cnt10 (p.put x.s).s = cnt10 p.s := by simp [Pg.put, cnt10_app, cnt10_tabs, hx]
    have e2 : cnt10 (p.put [32]).s = cnt10 p.s := by simp [Pg.put, cnt10_app, cnt10_tabs, cnt10]
    have e3 : cnt10 p.nl.s = cnt10 p.s + 1 := by simp [Pg.nl, cnt10_app, cnt10]
    have ih := fun gs q => sta_lines (w := w) (c := c) a gs q ha
    rw [sta, breaksN]
    split
    · have := ih gs (p.put x.s); omega
    · split
      · rename_i h2
        have eb : brk x = true := by simp [brk, h2]
        rw [if_pos eb]
        split
        · have := ih gs (p.put [32]); omega
        · have := ih gs p.nl; omega
      · split
        · rename_i h2
          have eb : brk x = true := by simp [brk, h2]
          rw [if_pos eb]
          split
          · have := ih gs p; omega
          · have := ih gs p.nl; omega
        · split
          · rename_i h2
            have eb : brk x = true := by simp [brk, h2]
            rw [if_pos eb]
            have := ih gs p.nl; omega
          · split
            · have := ih gs { p with nest := p.nest + 1 }; dsimp only at this; omega
            · split
              · have := ih gs { p with nest := p.nest - 1 }; dsimp only at this; omega
              · split
                · have := ih ((gs.headD false || fitsAt (x :: (a ++ c)) p.col w) :: gs) p; omega
                · split
                  · have := ih gs.tail p; omega
                  · have := ih gs p; omega
/-- without groups each break is a line -/
theorem sta_broken {w : Int} {c : List Pc} : ∀ (a : List Pc) (u : List Bool) (n : Nat) (p : Pg), okd a 0 n → groupsN a = 0 → (∀ x ∈ a, ∀ b ∈ x.s, b ≠ 10) → cnt10 (sta w c a (false :: u) p).2.s = cnt10 p.s + breaksN a
  | [], u, n, p, h, _, _ => by simp [sta, breaksN]
  | x :: a, u, n, p, h, hg, hx0 => by
    have ha : ∀ y ∈ a, ∀ b ∈ y.s, b ≠ 10 := fun y hy => hx0 y (by simp [hy])
    have hx := cnt10_zero x.s (hx0 x (by simp))
    have e1 : cnt10 (p.put x.s).s = cnt10 p.s := by simp [Pg.put, cnt10_app, cnt10_tabs, hx]
    have e3 : cnt10 p.nl.s = cnt10 p.s + 1 := by simp [Pg.nl, cnt10_app, cnt10]
    rw [groupsN] at hg
    have hg' : groupsN a = 0 := by omega
    rw [okd] at h
    rw [sta, breaksN]
    rcases h with ⟨h1, _, h2⟩ | ⟨h1, _, h2⟩ | ⟨h1, _, h2⟩ | ⟨h1, _, _, h2⟩ | ⟨h1, _, h2⟩ | ⟨h1, _, h3, h2⟩
    · simp [h1, brk]; rw [sta_broken a u n _ h2 hg' ha, e1]
    · rcases h1 with h1 | h1 | h1 <;> simp [h1, brk] <;> rw [sta_broken a u n _ h2 hg' ha, e3] <;> omega
    · simp [h1, brk]; rw [sta_broken a u _ _ h2 hg' ha]
    · simp [h1, brk]; rw [sta_broken a u _ _ h2 hg' ha]
    · simp [h1] at hg
    · omega
theorem group_fits {w : Int} {a : List Pc} (ha : okd a 0 0) : run w (⟨7, []⟩ :: (a ++ [⟨8, []⟩])) [false] pg0 = (sta w [⟨8, []⟩] a [decide (hardS a = 0) && decide ((flatS a : Int) ≤ w), false] pg0).2 := by
  have f1 : fitsAt (⟨7, []⟩ :: (a ++ [⟨8, []⟩])) 0 w = (decide (hardS a = 0) && decide ((flatS a : Int) ≤ w)) := by
    unfold fitsAt
    rw [scan1, if_neg (by decide), if_neg (by decide)]
    have := scan_full a [⟨8, []⟩] 0 0 1 (0 + fw ⟨7, []⟩) ha (Nat.le_refl _)
    rw [show stp (7 : Int) 0 = 1 + 0 by decide, this]
    by_cases hh : hardS a = 0 <;> simp [hh, scan1, stp, fw, tailS]
  have r1 : ∀ (x : Pc) (l : List Pc) (gs : List Bool) (p : Pg), x.k = 7 → run w (x :: l) gs p = run w l ((gs.headD false || fitsAt (x :: l) p.col w) :: gs) p := fun x l gs p h => by rw [run]; simp [h]
  have c0 : pg0.col = 0 := rfl
  have r8 : ∀ (gs : List Bool) (p : Pg), run w [⟨8, []⟩] gs p = p := fun gs p => by simp [run]
  rw [r1 _ _ _ _ rfl, c0, f1, run_app, r8]
  rfl
/-- a group that fits is its flat text -/
theorem flat_law {w : Int} {a : List Pc} (ha : okd a 0 0) (hf : (flatOf a []).2 = true) (hw : (width (flatOf a []).1 : Int) ≤ w) : (run w (⟨7, []⟩ :: (a ++ [⟨8, []⟩])) [false] pg0).s = (flatOf a []).1 := by
  rw [flat_hard] at hf
  have hh : hardS a = 0 := by simpa using hf
  have := flat_width a [] hh
  have h0 : width ([] : List UInt8) = 0 := by decide
  rw [group_fits ha]
  have e : (decide (hardS a = 0) && decide ((flatS a : Int) ≤ w)) = true := by simp [hh]; omega
  rw [e]
  exact sta_flat (u := [false]) a 0 0 pg0 ha hh rfl
theorem lines_law {w : Int} {a : List Pc} (ha : okd a 0 0) (hf : ¬ ((flatOf a []).2 = true ∧ (width (flatOf a []).1 : Int) ≤ w)) (hx : ∀ x ∈ a, ∀ b ∈ x.s, b ≠ 10) :
    cnt10 (run w (⟨7, []⟩ :: (a ++ [⟨8, []⟩])) [false] pg0).s ≤ breaksN a ∧ (groupsN a = 0 → cnt10 (run w (⟨7, []⟩ :: (a ++ [⟨8, []⟩])) [false] pg0).s = breaksN a) := by
  rw [group_fits ha]
  have e : (decide (hardS a = 0) && decide ((flatS a : Int) ≤ w)) = false := by
    rw [flat_hard] at hf
    by_cases hh : hardS a = 0
    · have := flat_width a [] hh
      have h0 : width ([] : List UInt8) = 0 := by decide
      simp [hh] at hf ⊢
      omega
    · simp [hh]
  rw [e]
  constructor
  · have := sta_lines (w := w) (c := [⟨8, []⟩]) a [false, false] pg0 hx
    simpa [pg0, cnt10] using this
  · intro hg
    have := sta_broken (w := w) (c := [⟨8, []⟩]) a [false] 0 pg0 ha hg hx
    simpa [pg0, cnt10] using this

/-- without blanks -/
def nbl (l : List UInt8) : List UInt8 := l.filter fun b => decide (b ≠ 32) && decide (b ≠ 9) && decide (b ≠ 10)
def allT : List Pc → List UInt8
  | [] => []
  | x :: r => (if x.k = 1 then x.s else []) ++ allT r
theorem nbl_app (a b : List UInt8) : nbl (a ++ b) = nbl a ++ nbl b := by simp [nbl]
theorem nbl_tabs (n : Nat) : nbl (List.replicate n 9) = [] := by simp [nbl]
theorem run_words (w : Int) : ∀ (l : List Pc) (gs : List Bool) (p : Pg), nbl (run w l gs p).s = nbl p.s ++ nbl (allT l)
  | [], gs, p => by simp [run, allT, nbl]
  | x :: l, gs, p => by
    have e1 : nbl (p.put x.s).s = nbl p.s ++ nbl x.s := by simp [Pg.put, nbl_app, nbl_tabs]
    have e2 : nbl (p.put [32]).s = nbl p.s := by simp [Pg.put, nbl_app, nbl_tabs]; simp [nbl]
    have e3 : nbl p.nl.s = nbl p.s := by simp [Pg.nl, nbl_app]; simp [nbl]
    have ih := fun gs q => run_words w l gs q
    rw [run, allT]
    split
    · rw [ih, e1, nbl_app, List.append_assoc]
    · simp only [List.nil_append]
      repeat' split
      all_goals first | rw [ih, e2] | rw [ih, e3] | rw [ih]
/-- no tab ends a line -/
def gd (s : List UInt8) : Prop := ∀ i : Nat, s[i]? = some 9 → ∃ b, s[i + 1]? = some b ∧ b ≠ 10
theorem gd_app {s u : List UInt8} (hs : gd s) (hu : gd u) : gd (s ++ u) := by
  intro i h
  by_cases hi : i < s.length
  · rw [List.getElem?_append_left hi] at h
    obtain ⟨b, h1, h2⟩ := hs i h
    exact ⟨b, by rw [List.getElem?_append_left (List.getElem?_eq_some_iff.1 h1).1]; exact h1, h2⟩
  · rw [List.getElem?_append_right (by omega)] at h
    obtain ⟨b, h1, h2⟩ := hu _ h
    exact ⟨b, by rw [List.getElem?_append_right (by omega), show i + 1 - s.length = i - s.length + 1 by omega]; exact h1, h2⟩
theorem gd_no9 {t : List UInt8} (h : ∀ b ∈ t, b ≠ 9) : gd t := fun i hi => absurd rfl (h 9 (List.mem_of_getElem? hi))
theorem gd_tabs {t : List UInt8} (ht : gd t) {c : UInt8} (hc : t[0]? = some c) (h10 : c ≠ 10) : ∀ n : Nat, gd (List.replicate n 9 ++ t) ∧ ∃ d, (List.replicate n 9 ++ t)[0]? = some d ∧ d ≠ 10
  | 0 => ⟨by simpa using ht, c, by simpa using hc, h10⟩
  | n + 1 => by
    obtain ⟨h1, d, h2, h3⟩ := gd_tabs ht hc h10 n
    rw [List.replicate_succ, List.cons_append]
    refine ⟨fun i hi => ?_, 9, rfl, by decide⟩
    cases i with
    | zero => exact ⟨d, by simpa using h2, h3⟩
    | succ i => simpa using h1 i (by simpa using hi)
theorem run_gd (w : Int) : ∀ (l : List Pc) (gs : List Bool) (p : Pg) (g n : Nat), okd l g n → (∀ x ∈ l, ∀ b ∈ x.s, b ≠ 9 ∧ b ≠ 10) → gd p.s → gd (run w l gs p).s
  | [], gs, p, g, n, h, hx, hp => hp
  | x :: l, gs, p, g, n, h, hx, hp => by
    have hl : ∀ y ∈ l, ∀ b ∈ y.s, b ≠ 9 ∧ b ≠ 10 := fun y hy => hx y (by simp [hy])
    have hxs := hx x (by simp)
    have put : ∀ t : List UInt8, t ≠ [] → (∀ b ∈ t, b ≠ 9 ∧ b ≠ 10) → gd (p.put t).s := fun t h0 ht => by
      obtain ⟨c, t', rfl⟩ : ∃ c t', t = c :: t' := by cases t with | nil => exact absurd rfl h0 | cons c t' => exact ⟨c, t', rfl⟩
      have := (gd_tabs (gd_no9 fun b hb => (ht b hb).1) (c := c) rfl (ht c (by simp)).2 p.tabs).1
      have := gd_app hp this
      simpa [Pg.put] using this
    have e2 : gd (p.put [32]).s := put [32] (by simp) (by simp)
    have e3 : gd p.nl.s := gd_app hp (gd_no9 (by simp))
    rw [okd] at h
    rw [run]
    rcases h with ⟨h1, h0, h2⟩ | ⟨h1, _, h2⟩ | ⟨h1, _, h2⟩ | ⟨h1, _, _, h2⟩ | ⟨h1, _, h2⟩ | ⟨h1, _, h3, h2⟩
    · simp only [h1]; exact run_gd w l gs _ g n h2 hl (put x.s h0 hxs)
    · rcases h1 with h1 | h1 | h1
      · simp [h1]; split
        · exact run_gd w l gs _ g n h2 hl e2
        · exact run_gd w l gs _ g n h2 hl e3
      · simp [h1]; split
        · exact run_gd w l gs _ g n h2 hl hp
        · exact run_gd w l gs _ g n h2 hl e3
      · simp [h1]; exact run_gd w l gs _ g n h2 hl e3
    · simp [h1]; exact run_gd w l gs _ g _ h2 hl hp
    · simp [h1]; exact run_gd w l gs _ g _ h2 hl hp
    · simp [h1]; exact run_gd w l _ _ _ n h2 hl hp
    · simp [h1]; exact run_gd w l _ _ _ n h2 hl hp
end Go.Proofs.Ytoeonamjbohokaa.Lt

/- The law of flat layouts: its walk. -/
namespace Go.Proofs.Ytoeonamjbohokaa.Lt
open Go.Proofs.YtoeonamjbohokaaW.Abs Go
set_option maxRecDepth 100000
set_option maxHeartbeats 4000000
set_option linter.unusedSimpArgs false
set_option linter.unusedVariables false
variable {W0 : World}

def isNl (b : UInt8) : Bool := decide ((b.toNat : Int) = 10)
theorem isNl_iff (b : UInt8) : isNl b = true ↔ b = 10 := by
  unfold isNl
  rw [decide_eq_true_eq]
  constructor
  · intro h; exact UInt8.toNat_inj.1 (by simpa using (by omega : b.toNat = 10))
  · rintro rfl; rfl
theorem flat_l1 {K : KC2} {hs : Hints} {l : List Pc} {L w8 w11 w12 w13 : AV} (hL : IsRow L (l.map Pc.enc)) (hll : l.length ≤ 1000000) {i : Nat} {x : Pc} (hq : l[i]? = some x) (hx : x.s.length ≤ 140737488355328) (b0 : Bool)
    (hK : ∀ ts loc (τ : Heap), ts.length = 134 → tmp ts 8 = w8 → tmp ts 10 = L → tmp ts 11 = w11 → tmp ts 12 = w12 → tmp ts 13 = w13 → tmp ts 15 = .int .i64 i → tmp ts 14 = .bool (b0 || x.s.any isNl) → K.k (.exit 2) ts loc τ)
    (ts : List AV) (loc : Go.Proofs.YtoeonamjbohokaaW.Abs.Loc) (τ : Heap) (hl : ts.length = 134) (h8 : tmp ts 8 = w8) (h10 : tmp ts 10 = L) (h11 : tmp ts 11 = w11) (h12 : tmp ts 12 = w12) (h13 : tmp ts 13 = w13) (h14 : tmp ts 14 = .bool b0) (h15 : tmp ts 15 = .int .i64 i) (h16 : tmp ts 16 = .int .i64 0) : loop2I Try.prog W0 C hs F8l1 ts loc τ := by
  refine loop2I_ind cok F8l1w (m := fun k => x.s.length - k) (I := fun k ts loc τ => k ≤ x.s.length ∧ ts.length = 134 ∧ tmp ts 8 = w8 ∧ tmp ts 10 = L ∧ tmp ts 11 = w11 ∧ tmp ts 12 = w12 ∧ tmp ts 13 = w13 ∧ tmp ts 15 = .int .i64 i ∧ tmp ts 16 = .int .i64 k ∧
    ∃ b, tmp ts 14 = .bool b ∧ (b || (x.s.drop k).any isNl) = (b0 || x.s.any isNl)) ?_ 0 ⟨by omega, hl, h8, h10, h11, h12, h13, h15, by simpa using h16, b0, h14, by simp⟩
  clear hl h8 h10 h11 h12 h13 h14 h15 h16 ts loc τ
  have hil := (List.getElem?_eq_some_iff.1 hq).1
  have hqe : (l.map Pc.enc)[i]? = some x.enc := by simp [hq]
  obtain ⟨xk, xs⟩ := x
  dsimp only at hx hK
  rintro k ts loc τ ⟨hk, hl, h8, h10, h11, h12, h13, h15, h16, b, h14, hb⟩ ih'
  dsimp only at hk hb ih'
  simp (disch := first | omega | (simp only [List.length_set]; omega)) [F8l1, hl, h10, h15, h16, hL.len, hL.elems, hL.at hqe, hqe]
  by_cases hlt : k < xs.length
  · obtain ⟨c, hc⟩ : ∃ c, xs[k]? = some c := ⟨xs[k], by simp [hlt]⟩
    have hce := ind_at hc
    rw [drop_at hc, List.any_cons] at hb
    have hcn : isNl c = decide ((xs[k].toNat : Int) = 10) := by rw [(List.getElem?_eq_some_iff.1 hc).2]; rfl
    cases b with
    | true =>
      simp (disch := first | omega | (simp only [List.length_set]; omega)) [hlt, hl, h10, h14, h15, h16, hL.elems, hL.at hqe, hqe, hc]
      refine ih' (k + 1) _ _ _ (by omega) ⟨by omega, ?_⟩
      simp (disch := first | omega | (simp only [List.length_set]; omega)) [hl, h8, h10, h11, h12, h13, h14, h15, h16, wrap_id]
      simpa using hb
    | false =>
      simp (disch := first | omega | (simp only [List.length_set]; omega)) [hlt, hl, h10, h14, h15, h16, hL.elems, hL.at hqe, hqe, hc]
      refine ih' (k + 1) _ _ _ (by omega) ⟨by omega, ?_⟩
      simp (disch := first | omega | (simp only [List.length_set]; omega)) [hl, h8, h10, h11, h12, h13, h14, h15, h16, wrap_id]
      rw [← hb, hcn]; rfl
  · simp (disch := first | omega | (simp only [List.length_set]; omega)) [hlt, hl, h10, h15, h16]
    rw [List.drop_of_length_le (by omega)] at hb
    simp at hb
    exact hK _ _ _ (by simp [hl]) (by simp (disch := first | omega | (simp only [List.length_set]; omega)) [h8]) (by simp (disch := first | omega | (simp only [List.length_set]; omega)) [h10]) (by simp (disch := first | omega | (simp only [List.length_set]; omega)) [h11]) (by simp (disch := first | omega | (simp only [List.length_set]; omega)) [h12]) (by simp (disch := first | omega | (simp only [List.length_set]; omega)) [h13]) (by simp (disch := first | omega | (simp only [List.length_set]; omega)) [h15]) (by simp (disch := first | omega | (simp only [List.length_set]; omega)) [h14, hb])

def txt10 (l : List Pc) : Bool := l.any fun x => x.s.any isNl
theorem flat_l2 {K : KC2} {hs : Hints} {l : List Pc} {L w8 w13 : AV} (hL : IsRow L (l.map Pc.enc)) (hll : l.length ≤ 1000000) (hwl : wid l ≤ 140737488355328)
    (hK : ∀ ts loc (τ : Heap), ts.length = 134 → tmp ts 8 = w8 → tmp ts 11 = .int .i64 (breaksN l : Nat) → tmp ts 12 = .int .i64 (groupsN l : Nat) → tmp ts 13 = w13 → tmp ts 14 = .bool (txt10 l) → K.k (.exit 0) ts loc τ)
    (ts : List AV) (loc : Go.Proofs.YtoeonamjbohokaaW.Abs.Loc) (τ : Heap) (hl : ts.length = 134) (h8 : tmp ts 8 = w8) (h10 : tmp ts 10 = L) (h11 : tmp ts 11 = .int .i64 0) (h12 : tmp ts 12 = .int .i64 0) (h13 : tmp ts 13 = w13) (h14 : tmp ts 14 = .bool false) (h15 : tmp ts 15 = .int .i64 0) : loop2I Try.prog W0 C hs F8l2 ts loc τ := by
  refine loop2I_ind cok F8l2w (m := fun i => l.length - i) (I := fun i ts loc τ => i ≤ l.length ∧ ts.length = 134 ∧ tmp ts 8 = w8 ∧ tmp ts 10 = L ∧ tmp ts 13 = w13 ∧ tmp ts 15 = .int .i64 i ∧
    ∃ (b : Bool) (nb ng : Nat), tmp ts 14 = .bool b ∧ tmp ts 11 = .int .i64 nb ∧ tmp ts 12 = .int .i64 ng ∧ nb ≤ i ∧ ng ≤ i ∧ (b || txt10 (l.drop i)) = txt10 l ∧ nb + breaksN (l.drop i) = breaksN l ∧ ng + groupsN (l.drop i) = groupsN l) ?_ 0
    ⟨by omega, hl, h8, h10, h13, by simpa using h15, false, 0, 0, h14, by simpa using h11, by simpa using h12, by omega, by omega, by simp, by simp, by simp⟩
  clear hl h8 h10 h11 h12 h13 h14 h15 ts loc τ
  rintro i ts loc τ ⟨hi, hl, h8, h10, h13, h15, b, nb, ng, h14, h11, h12, bb, bg, ht, hb, hg⟩ ih'
  simp (disch := first | omega | (simp only [List.length_set]; omega)) [F8l2, hl, h10, h15, hL.len]
  by_cases hlt : i < l.length
  · obtain ⟨x, hq⟩ : ∃ x, l[i]? = some x := ⟨l[i], by simp [hlt]⟩
    have hqe : (l.map Pc.enc)[i]? = some x.enc := by simp [hq]
    have hwx := pc_mem_wid hq
    rw [drop_at hq] at ht hb hg
    rw [txt10, List.any_cons] at ht
    rw [breaksN] at hb
    rw [groupsN] at hg
    have go : ∀ (nb' ng' : Nat) (ts' : List AV) (loc' : Go.Proofs.YtoeonamjbohokaaW.Abs.Loc) (τ' : Heap), nb' + breaksN (l.drop (i + 1)) = breaksN l → ng' + groupsN (l.drop (i + 1)) = groupsN l → nb' ≤ i + 1 → ng' ≤ i + 1 → ts'.length = 134 → tmp ts' 8 = w8 → tmp ts' 10 = L → tmp ts' 11 = .int .i64 nb' → tmp ts' 12 = .int .i64 ng' → tmp ts' 13 = w13 → tmp ts' 15 = .int .i64 ((i + 1 : Nat) : Int) → tmp ts' 14 = .bool (b || x.s.any isNl) → loop2I Try.prog W0 C hs F8l2 ts' loc' τ' := by
      intro nb' ng' ts' loc' τ' e1 e2 e3 e4 g0 g8 g10 g11 g12 g13 g15 g14
      exact ih' (i + 1) _ _ _ (by omega) ⟨by omega, g0, g8, g10, g13, g15, _, nb', ng', g14, g11, g12, e3, e4, by rw [← ht, Bool.or_assoc]; rfl, e1, e2⟩
    clear ih' hK
    have hbk : brk x = (decide (2 ≤ x.k) && decide (x.k ≤ 4)) := rfl
    obtain ⟨xk, xs⟩ := x
    dsimp only at hwx ht hb hg hbk go
    by_cases c2 : 2 ≤ xk
    · by_cases c4 : xk ≤ 4
      · have c7 : ¬ xk = 7 := by omega
        rw [hbk] at hb
        simp [c2, c4] at hb
        simp [c7] at hg
        simp (disch := first | omega | (simp only [List.length_set]; omega)) [c2, c4, c7, hlt, hl, h10, h11, h12, h15, hL.elems, hL.at hqe, hqe]
        refine flat_l1 hL hll hq (by dsimp only; omega) b ?_ _ _ _ (by simp [hl]) (by simp (disch := first | omega | (simp only [List.length_set]; omega)) [h8]; exact rfl) (by simp (disch := first | omega | (simp only [List.length_set]; omega)) [h10]) (w11 := .int .i64 ((nb + 1) : Nat)) (w12 := .int .i64 (ng : Nat)) (by simp (disch := first | omega | (simp only [List.length_set]; omega)) [h11, wrap_id]) (by simp (disch := first | omega | (simp only [List.length_set]; omega)) [h12, wrap_id]) (by simp (disch := first | omega | (simp only [List.length_set]; omega)) [h13]; exact rfl) (by simp (disch := first | omega | (simp only [List.length_set]; omega)) [h14]) (by simp (disch := first | omega | (simp only [List.length_set]; omega)) [h15]) (by simp (disch := first | omega | (simp only [List.length_set]; omega)) [])
        intro ts loc τ gl g8 g10 g11 g12 g13 g15 g14
        simp (disch := first | omega | (simp only [List.length_set]; omega)) [gl, g15]
        refine go (nb + 1) ng _ _ _ (by omega) (by omega) (by omega) (by omega) (by simp [gl]) ?_ ?_ ?_ ?_ ?_ ?_ ?_
        all_goals simp (disch := first | omega | (simp only [List.length_set]; omega)) [gl, g8, g10, g11, g12, g13, g14, g15, wrap_id]
      · rw [hbk] at hb
        simp [c2, c4] at hb
        by_cases c7 : xk = 7
        · simp [c7] at hg
          simp (disch := first | omega | (simp only [List.length_set]; omega)) [c2, c4, c7, hlt, hl, h10, h11, h12, h15, hL.elems, hL.at hqe, hqe]
          refine flat_l1 hL hll hq (by dsimp only; omega) b ?_ _ _ _ (by simp [hl]) (by simp (disch := first | omega | (simp only [List.length_set]; omega)) [h8]; exact rfl) (by simp (disch := first | omega | (simp only [List.length_set]; omega)) [h10]) (w11 := .int .i64 (nb : Nat)) (w12 := .int .i64 ((ng + 1) : Nat)) (by simp (disch := first | omega | (simp only [List.length_set]; omega)) [h11, wrap_id]) (by simp (disch := first | omega | (simp only [List.length_set]; omega)) [h12, wrap_id]) (by simp (disch := first | omega | (simp only [List.length_set]; omega)) [h13]; exact rfl) (by simp (disch := first | omega | (simp only [List.length_set]; omega)) [h14]) (by simp (disch := first | omega | (simp only [List.length_set]; omega)) [h15]) (by simp (disch := first | omega | (simp only [List.length_set]; omega)) [])
          intro ts loc τ gl g8 g10 g11 g12 g13 g15 g14
          simp (disch := first | omega | (simp only [List.length_set]; omega)) [gl, g15]
          refine go nb (ng + 1) _ _ _ (by omega) (by omega) (by omega) (by omega) (by simp [gl]) ?_ ?_ ?_ ?_ ?_ ?_ ?_
          all_goals simp (disch := first | omega | (simp only [List.length_set]; omega)) [gl, g8, g10, g11, g12, g13, g14, g15, wrap_id]
        · simp [c7] at hg
          simp (disch := first | omega | (simp only [List.length_set]; omega)) [c2, c4, c7, hlt, hl, h10, h11, h12, h15, hL.elems, hL.at hqe, hqe]
          refine flat_l1 hL hll hq (by dsimp only; omega) b ?_ _ _ _ (by simp [hl]) (by simp (disch := first | omega | (simp only [List.length_set]; omega)) [h8]; exact rfl) (by simp (disch := first | omega | (simp only [List.length_set]; omega)) [h10]) (w11 := .int .i64 (nb : Nat)) (w12 := .int .i64 (ng : Nat)) (by simp (disch := first | omega | (simp only [List.length_set]; omega)) [h11, wrap_id]) (by simp (disch := first | omega | (simp only [List.length_set]; omega)) [h12, wrap_id]) (by simp (disch := first | omega | (simp only [List.length_set]; omega)) [h13]; exact rfl) (by simp (disch := first | omega | (simp only [List.length_set]; omega)) [h14]) (by simp (disch := first | omega | (simp only [List.length_set]; omega)) [h15]) (by simp (disch := first | omega | (simp only [List.length_set]; omega)) [])
          intro ts loc τ gl g8 g10 g11 g12 g13 g15 g14
          simp (disch := first | omega | (simp only [List.length_set]; omega)) [gl, g15]
          refine go nb ng _ _ _ (by omega) (by omega) (by omega) (by omega) (by simp [gl]) ?_ ?_ ?_ ?_ ?_ ?_ ?_
          all_goals simp (disch := first | omega | (simp only [List.length_set]; omega)) [gl, g8, g10, g11, g12, g13, g14, g15, wrap_id]
    · have c7 : ¬ xk = 7 := by omega
      rw [hbk] at hb
      simp [c2] at hb
      simp [c7] at hg
      simp (disch := first | omega | (simp only [List.length_set]; omega)) [c2, c7, hlt, hl, h10, h11, h12, h15, hL.elems, hL.at hqe, hqe]
      refine flat_l1 hL hll hq (by dsimp only; omega) b ?_ _ _ _ (by simp [hl]) (by simp (disch := first | omega | (simp only [List.length_set]; omega)) [h8]; exact rfl) (by simp (disch := first | omega | (simp only [List.length_set]; omega)) [h10]) (w11 := .int .i64 (nb : Nat)) (w12 := .int .i64 (ng : Nat)) (by simp (disch := first | omega | (simp only [List.length_set]; omega)) [h11, wrap_id]) (by simp (disch := first | omega | (simp only [List.length_set]; omega)) [h12, wrap_id]) (by simp (disch := first | omega | (simp only [List.length_set]; omega)) [h13]; exact rfl) (by simp (disch := first | omega | (simp only [List.length_set]; omega)) [h14]) (by simp (disch := first | omega | (simp only [List.length_set]; omega)) [h15]) (by simp (disch := first | omega | (simp only [List.length_set]; omega)) [])
      intro ts loc τ gl g8 g10 g11 g12 g13 g15 g14
      simp (disch := first | omega | (simp only [List.length_set]; omega)) [gl, g15]
      refine go nb ng _ _ _ (by omega) (by omega) (by omega) (by omega) (by simp [gl]) ?_ ?_ ?_ ?_ ?_ ?_ ?_
      all_goals simp (disch := first | omega | (simp only [List.length_set]; omega)) [gl, g8, g10, g11, g12, g13, g14, g15, wrap_id]
  · simp (disch := first | omega | (simp only [List.length_set]; omega)) [hlt, hl, h10, h15]
    rw [List.drop_of_length_le (by omega)] at ht hb hg
    simp [txt10, breaksN, groupsN] at ht hb hg
    exact hK _ _ _ (by simp [hl]) (by simp (disch := first | omega | (simp only [List.length_set]; omega)) [h8]) (by simp (disch := first | omega | (simp only [List.length_set]; omega)) [h11, hb]) (by simp (disch := first | omega | (simp only [List.length_set]; omega)) [h12, hg]) (by simp (disch := first | omega | (simp only [List.length_set]; omega)) [h13]) (by simp (disch := first | omega | (simp only [List.length_set]; omega)) [h14, ht]; rfl)

theorem flat_l0 {K : KC2} {hs : Hints} {S : List UInt8} {w11 w12 w14 : AV} (hS : S.length ≤ 140737488355328)
    (hK : ∀ ts loc (τ : Heap), ts.length = 134 → tmp ts 11 = w11 → tmp ts 12 = w12 → tmp ts 14 = w14 → tmp ts 13 = .int .i64 (cnt10 S : Nat) → K.k (.exit 4) ts loc τ)
    (ts : List AV) (loc : Go.Proofs.YtoeonamjbohokaaW.Abs.Loc) (τ : Heap) (hl : ts.length = 134) (h8 : tmp ts 8 = .str S) (h11 : tmp ts 11 = w11) (h12 : tmp ts 12 = w12) (h14 : tmp ts 14 = w14) (h13 : tmp ts 13 = .int .i64 0) (h17 : tmp ts 17 = .int .i64 0) : loop2I Try.prog W0 C hs F8l0 ts loc τ := by
  refine loop2I_ind cok F8l0w (m := fun k => S.length - k) (I := fun k ts loc τ => k ≤ S.length ∧ ts.length = 134 ∧ tmp ts 8 = .str S ∧ tmp ts 11 = w11 ∧ tmp ts 12 = w12 ∧ tmp ts 14 = w14 ∧ tmp ts 17 = .int .i64 k ∧
    ∃ n : Nat, tmp ts 13 = .int .i64 n ∧ n ≤ k ∧ n + cnt10 (S.drop k) = cnt10 S) ?_ 0 ⟨by omega, hl, h8, h11, h12, h14, by simpa using h17, 0, by simpa using h13, by omega, by simp⟩
  clear hl h8 h11 h12 h13 h14 h17 ts loc τ
  rintro k ts loc τ ⟨hk, hl, h8, h11, h12, h14, h17, n, h13, hn, hc0⟩ ih'
  simp (disch := first | omega | (simp only [List.length_set]; omega)) [F8l0, hl, h8, h17]
  by_cases hlt : k < S.length
  · obtain ⟨c, hc⟩ : ∃ c, S[k]? = some c := ⟨S[k], by simp [hlt]⟩
    have hcx : S[k] = c := (List.getElem?_eq_some_iff.1 hc).2
    rw [drop_at hc, cnt10] at hc0
    by_cases h10 : (c.toNat : Int) = 10
    · have : c = 10 := (isNl_iff c).1 (by simp [isNl, h10])
      rw [if_pos this] at hc0
      simp (disch := first | omega | (simp only [List.length_set]; omega)) [hlt, hl, h8, h13, h17, hc, hcx, h10]
      refine ih' (k + 1) _ _ _ (by omega) ⟨by omega, ?_⟩
      simp (disch := first | omega | (simp only [List.length_set]; omega)) [hl, h8, h11, h12, h13, h14, h17, wrap_id]
      exact ⟨n + 1, by omega, by omega, by omega⟩
    · have : ¬ c = 10 := fun h => h10 (by rw [h]; rfl)
      rw [if_neg this] at hc0
      simp (disch := first | omega | (simp only [List.length_set]; omega)) [hlt, hl, h8, h13, h17, hc, hcx, h10]
      refine ih' (k + 1) _ _ _ (by omega) ⟨by omega, ?_⟩
      simp (disch := first | omega | (simp only [List.length_set]; omega)) [hl, h8, h11, h12, h13, h14, h17, wrap_id]
      exact ⟨by omega, by omega⟩
  · simp (disch := first | omega | (simp only [List.length_set]; omega)) [hlt, hl, h8, h17]
    rw [List.drop_of_length_le (by omega)] at hc0
    simp [cnt10] at hc0
    exact hK _ _ _ (by simp [hl]) (by simp (disch := first | omega | (simp only [List.length_set]; omega)) [h11]) (by simp (disch := first | omega | (simp only [List.length_set]; omega)) [h12]) (by simp (disch := first | omega | (simp only [List.length_set]; omega)) [h14]) (by simp (disch := first | omega | (simp only [List.length_set]; omega)) [h13, hc0])
theorem txt10_false {l : List Pc} (h : txt10 l = false) : ∀ x ∈ l, ∀ b ∈ x.s, b ≠ 10 := by
  intro x hx b hb he
  have : txt10 l = true := List.any_eq_true.2 ⟨x, hx, List.any_eq_true.2 ⟨b, hb, (isNl_iff b).2 he⟩⟩
  rw [this] at h; cases h

theorem layoutFlat_spec (t : T) (hbk : bulk t ≤ 1048576) (n : Int) (_ : (Lit.int .i64 n).wf = true) : PCall Try.prog W0 8 [.agg t.enc, .int .i64 n] (.bool true) := by
  obtain ⟨hot, hbt, hwt, hlt⟩ := built_facts hbk
  refine pcall2 cok Try.func8 F8d F8e F8c F8w F8r (fun N => ?_)
  refine ev2I_intro ?_
  simp [F8s]
  refine hcallI_pure (few_spec t hot) (by simp) (fun M hM => ?_)
  by_cases hft : few t = true
  · obtain ⟨hp, hl⟩ := few_pieces hft
    rw [← hp] at hl
    have hok := built_okd t
    have hpg := pageN_bd n
    have o1 : okd (plain (group (built t))) 0 0 := by rw [group_plain]; exact okd_group hok
    have l1 : (plain (group (built t))).length ≤ 2000 := by rw [group_plain]; simp; omega
    have w1 : wid (plain (group (built t))) ≤ 3000000 := by rw [group_plain]; simp [wid, wid_app]; omega
    have fl := flat_law (w := pageN n) hok
    have ll := lines_law (w := pageN n) hok
    have rl := run_len0 (w := pageN n) l1 w1
    have fln := flat_len (plain (built t)) []
    rw [group_plain] at rl
    generalize hF : flatOf (plain (built t)) [] = F at fl ll fln
    obtain ⟨Fs, Fo⟩ := F
    dsimp only at fl ll fln
    simp at fln
    simp [hft]
    refine hcallI_pure (built_spec t hot) (by simp) (fun M hM => ?_)
    simp
    refine hcallI_pure (dflat_spec (built t) hbt (by omega) (by omega)) (by simp) (fun M4 hM4 => ?_)
    rw [hF]
    simp
    refine hcallI_pure (group_spec (built t)) (by simp) (fun M hM => ?_)
    simp
    refine hcallI_pure (page_spec n) (by simp) (fun M hM => ?_)
    simp
    refine hcallI_pure (layOf_spec _ (group_ok hbt) l1 w1 o1 (pageN n)) (by simp) (fun M hM => ?_)
    rw [layR_page, group_plain]
    simp
    refine hcallI_pure known_spec rfl (fun M hM => ?_)
    generalize hR : (run (pageN n) (⟨7, []⟩ :: (plain (built t) ++ [⟨8, []⟩])) [false] pg0).s = R at fl ll rl ⊢
    simp
    cases Fo with
    | true =>
      simp
      refine hcallI_pure (width_spec Fs (by omega)) (by simp) (fun M hM => ?_)
      simp
      refine hcallI_pure (page_spec n) (by simp) (fun M hM => ?_)
      simp
      by_cases hw : (width Fs : Int) ≤ pageN n
      · have := fl rfl hw
        subst this
        simp [hw]
      · simp [hw]
        refine hcallI_pure (plain_spec (built t) hbt (by omega)) (by simp) (fun M hM => ?_)
        simp
        refine flat_l2 (l := plain (built t)) (IsRow.rowV _) (by omega) (by omega) ?_ _ _ _ (by simp) rfl rfl rfl rfl rfl rfl rfl
        intro ts loc τ gl g8 g11 g12 g13 g14
        simp at g8 g13
        simp (disch := first | omega | (simp only [List.length_set]; omega)) [gl, g8, g11, g12, g13, g14]
        refine flat_l0 (S := R) (by omega) ?_ _ _ _ (by simp [gl]) (by simp (disch := first | omega | (simp only [List.length_set]; omega)) [g8]) (by simp (disch := first | omega | (simp only [List.length_set]; omega)) [g11]; exact rfl) (by simp (disch := first | omega | (simp only [List.length_set]; omega)) [g12]; exact rfl) (by simp (disch := first | omega | (simp only [List.length_set]; omega)) [g14]; exact rfl) (by simp (disch := first | omega | (simp only [List.length_set]; omega)) [g13]) (by simp (disch := first | omega | (simp only [List.length_set]; omega)) [])
        intro ts loc τ gl g11 g12 g14 g13
        simp (disch := first | omega | (simp only [List.length_set]; omega)) [gl, g11, g12, g13, g14]
        cases htx : txt10 (plain (built t)) with
        | true => simp (disch := first | omega | (simp only [List.length_set]; omega)) [gl, g11, g12, g13, g14, htx]
        | false =>
          obtain ⟨h1, h2⟩ := ll (by simp [hw]) (txt10_false htx)
          have e1 : (cnt10 R : Int) ≤ breaksN (plain (built t)) := by omega
          by_cases hg : 0 < groupsN (plain (built t))
          · simp (disch := first | omega | (simp only [List.length_set]; omega)) [gl, g11, g12, g13, g14, htx, e1, h1, hg]
          · have h3 := h2 (by omega)
            simp (disch := first | omega | (simp only [List.length_set]; omega)) [gl, g11, g12, g13, g14, htx, e1, h1, hg, h3]
    | false =>
      simp
      refine hcallI_pure (plain_spec (built t) hbt (by omega)) (by simp) (fun M hM => ?_)
      simp
      refine flat_l2 (l := plain (built t)) (IsRow.rowV _) (by omega) (by omega) ?_ _ _ _ (by simp) rfl rfl rfl rfl rfl rfl rfl
      intro ts loc τ gl g8 g11 g12 g13 g14
      simp at g8 g13
      simp (disch := first | omega | (simp only [List.length_set]; omega)) [gl, g8, g11, g12, g13, g14]
      refine flat_l0 (S := R) (by omega) ?_ _ _ _ (by simp [gl]) (by simp (disch := first | omega | (simp only [List.length_set]; omega)) [g8]) (by simp (disch := first | omega | (simp only [List.length_set]; omega)) [g11]; exact rfl) (by simp (disch := first | omega | (simp only [List.length_set]; omega)) [g12]; exact rfl) (by simp (disch := first | omega | (simp only [List.length_set]; omega)) [g14]; exact rfl) (by simp (disch := first | omega | (simp only [List.length_set]; omega)) [g13]) (by simp (disch := first | omega | (simp only [List.length_set]; omega)) [])
      intro ts loc τ gl g11 g12 g14 g13
      simp (disch := first | omega | (simp only [List.length_set]; omega)) [gl, g11, g12, g13, g14]
      cases htx : txt10 (plain (built t)) with
      | true => simp (disch := first | omega | (simp only [List.length_set]; omega)) [gl, g11, g12, g13, g14, htx]
      | false =>
        obtain ⟨h1, h2⟩ := ll (by simp) (txt10_false htx)
        have e1 : (cnt10 R : Int) ≤ breaksN (plain (built t)) := by omega
        by_cases hg : 0 < groupsN (plain (built t))
        · simp (disch := first | omega | (simp only [List.length_set]; omega)) [gl, g11, g12, g13, g14, htx, e1, h1, hg]
        · have h3 := h2 (by omega)
          simp (disch := first | omega | (simp only [List.length_set]; omega)) [gl, g11, g12, g13, g14, htx, e1, h1, hg, h3]
  · simp [hft]
    refine hcallI_pure known_spec rfl (fun M hM => ?_)
    simp
end Go.Proofs.Ytoeonamjbohokaa.Lt
