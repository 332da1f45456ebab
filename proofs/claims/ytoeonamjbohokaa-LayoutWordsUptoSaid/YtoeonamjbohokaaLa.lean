import Derived.Test.YtoeonamjbohokaaDd
/- A text's width. -/
namespace Go.Proofs.Ytoeonamjbohokaa.Lt
open Go.Proofs.YtoeonamjbohokaaW.Abs Go
set_option maxRecDepth 100000
set_option maxHeartbeats 2000000
set_option linter.unusedSimpArgs false
set_option linter.unusedVariables false
variable {W0 : World}

def wd1 (b : UInt8) : Nat := if 128 ≤ b.toNat ∧ b.toNat ≤ 191 then 0 else 1
def width : List UInt8 → Nat
  | [] => 0
  | b :: r => wd1 b + width r
theorem width_app : ∀ a b : List UInt8, width (a ++ b) = width a + width b
  | [], b => by simp [width]
  | x :: r, b => by simp [width, width_app r b]; omega
theorem width_le : ∀ a : List UInt8, width a ≤ a.length
  | [] => by simp [width]
  | x :: r => by have := width_le r; simp only [width, wd1, List.length_cons]; split <;> omega
theorem ind_at {l : List UInt8} {i : Nat} {b : UInt8} (h : l[i]? = some b) : (ind l)[i]? = some [.int .u8 b.toNat] := by simp [ind, h]

theorem and192 (b : UInt8) : (IntKind.u8.wrap ((b.toNat % 2 ^ IntKind.u8.bits &&& 192 % 2 ^ IntKind.u8.bits : Nat) : Int) = 128) ↔ (128 ≤ b.toNat ∧ b.toNat ≤ 191) := by
  have h : ∀ n : Fin 256, (IntKind.u8.wrap ((n.1 % 2 ^ IntKind.u8.bits &&& 192 % 2 ^ IntKind.u8.bits : Nat) : Int) = 128) ↔ (128 ≤ n.1 ∧ n.1 ≤ 191) := by decide +kernel
  exact h ⟨b.toNat, b.toNat_lt⟩
theorem width_spec (s : List UInt8) (hs : s.length ≤ 140737488355328) : PCall Try.prog W0 10 [.str s] (.int .i64 (width s)) := by
  refine pcall2 cok Try.func10 F10d F10e F10c F10w F10r (fun N => ?_)
  refine ev2I_intro ?_
  simp [F10s]
  refine loop2I_ind cok F10l0w (m := fun i => s.length - i) (I := fun i ts loc τ => i ≤ s.length ∧ ts.length = 20 ∧ (∃ tok, tmp ts 7 = .row (ind s) tok) ∧ tmp ts 8 = .int .i64 s.length ∧ tmp ts 9 = .int .i64 i ∧ ∃ n : Nat, tmp ts 3 = .int .i64 n ∧ n ≤ i ∧ n + width (s.drop i) = width s) ?_ 0 ?_
  · rintro i ts loc τ ⟨hi, hl, ⟨tok, h7⟩, h8, h9, n, h3, hn, hR⟩ ih'
    simp (disch := first | omega | (simp only [List.length_set]; omega)) [F10l0, hl, h7, h3, h8, h9]
    by_cases hlt : i < s.length
    · obtain ⟨b, hb⟩ : ∃ b, s[i]? = some b := ⟨s[i], by simp [hlt]⟩
      have hbe := ind_at hb
      rw [drop_at hb, width] at hR
      simp (disch := first | omega | (simp only [List.length_set]; omega)) [hlt, hl, h7, h3, h8, h9, hbe]
      by_cases hc : 128 ≤ b.toNat ∧ b.toNat ≤ 191
      · have hc' := (and192 b).2 hc
        simp (disch := first | omega | (simp only [List.length_set]; omega)) [hc', hl, h7, h3, h8, h9]
        refine ih' (i + 1) _ _ _ (by omega) ⟨by omega, ?_⟩
        simp (disch := first | omega | (simp only [List.length_set]; omega)) [hl, h7, h3, h8, h9, wrap_id]
        rw [wd1, if_pos hc] at hR
        exact ⟨by omega, by omega⟩
      · have hc' := mt (and192 b).1 hc
        simp (disch := first | omega | (simp only [List.length_set]; omega)) [hc', hl, h7, h3, h8, h9]
        refine ih' (i + 1) _ _ _ (by omega) ⟨by omega, ?_⟩
        simp (disch := first | omega | (simp only [List.length_set]; omega)) [hl, h7, h3, h8, h9, wrap_id]
        rw [wd1, if_neg hc] at hR
        exact ⟨n + 1, by omega, by omega, by omega⟩
    · simp (disch := first | omega | (simp only [List.length_set]; omega)) [hlt, hl, h7, h3, h8, h9]
      rw [List.drop_of_length_le (by omega)] at hR
      simp [width] at hR
      simp [hR]
  · simp
theorem rwidth_spec (s : List UInt8) (hs : s.length ≤ 140737488355328) : PCall Try.prog W0 11 [.str s] (.int .i64 (width s)) := by
  refine pcall2 cok Try.func11 F11d F11e F11c F11w F11r (fun N => ?_)
  refine ev2I_intro ?_
  simp [F11s]
  refine loop2I_ind cok F11l0w (m := fun i => s.length - i) (I := fun i ts loc τ => i ≤ s.length ∧ ts.length = 24 ∧ tmp ts 0 = .str s ∧ tmp ts 4 = .int .i64 i ∧ ∃ n : Nat, tmp ts 3 = .int .i64 n ∧ n ≤ i ∧ n + width (s.drop i) = width s) ?_ 0 ?_
  · rintro i ts loc τ ⟨hi, hl, h0, h4, n, h3, hn, hR⟩ ih'
    simp (disch := first | omega | (simp only [List.length_set]; omega)) [F11l0, hl, h0, h3, h4]
    by_cases hlt : i < s.length
    · obtain ⟨b, hb⟩ : ∃ b, s[i]? = some b := ⟨s[i], by simp [hlt]⟩
      rw [drop_at hb, width] at hR
      have hb' : s[i] = b := by simpa [hlt] using hb
      simp (disch := first | omega | (simp only [List.length_set]; omega)) [hlt, hl, h0, h3, h4, hb']
      by_cases h1 : b.toNat < 128
      · have h1' : (b.toNat : Int) < 128 := by omega
        simp (disch := first | omega | (simp only [List.length_set]; omega)) [h1', hlt, hl, h0, h3, h4, hb']
        refine ih' (i + 1) _ _ _ (by omega) ⟨by omega, ?_⟩
        simp (disch := first | omega | (simp only [List.length_set]; omega)) [hl, h0, h3, h4, wrap_id]
        rw [wd1, if_neg (by omega)] at hR
        exact ⟨n + 1, by omega, by omega, by omega⟩
      by_cases h2 : 191 < b.toNat
      · have h1' : ¬ (b.toNat : Int) < 128 := by omega
        have h2' : 191 < (b.toNat : Int) := by omega
        simp (disch := first | omega | (simp only [List.length_set]; omega)) [h1', h2', hlt, hl, h0, h3, h4, hb']
        refine ih' (i + 1) _ _ _ (by omega) ⟨by omega, ?_⟩
        simp (disch := first | omega | (simp only [List.length_set]; omega)) [hl, h0, h3, h4, wrap_id]
        rw [wd1, if_neg (by omega)] at hR
        exact ⟨n + 1, by omega, by omega, by omega⟩
      · have h1' : ¬ (b.toNat : Int) < 128 := by omega
        have h2' : ¬ 191 < (b.toNat : Int) := by omega
        simp (disch := first | omega | (simp only [List.length_set]; omega)) [h1', h2', hlt, hl, h0, h3, h4, hb']
        refine ih' (i + 1) _ _ _ (by omega) ⟨by omega, ?_⟩
        simp (disch := first | omega | (simp only [List.length_set]; omega)) [hl, h0, h3, h4, wrap_id]
        rw [wd1, if_pos (by omega)] at hR
        exact ⟨n, by omega, by omega, by omega⟩
    · simp (disch := first | omega | (simp only [List.length_set]; omega)) [hlt, hl, h0, h3, h4]
      rw [List.drop_of_length_le (by omega)] at hR
      simp [width] at hR
      simp [hR]
  · simp
end Go.Proofs.Ytoeonamjbohokaa.Lt

/- A document's widths. -/
namespace Go.Proofs.Ytoeonamjbohokaa.Lt
open Go.Proofs.YtoeonamjbohokaaW.Abs Go
set_option maxRecDepth 100000
set_option maxHeartbeats 4000000
set_option linter.unusedSimpArgs false
set_option linter.unusedVariables false
variable {W0 : World}

def fw (p : Pc) : Nat := if p.k = 1 then width p.s else if p.k = 2 then 1 else 0
def flatS : List Pc → Nat
  | [] => 0
  | p :: r => fw p + flatS r
def hardS : List Pc → Nat
  | [] => 0
  | p :: r => (if p.k = 4 then 1 else 0) + hardS r
def tailS : List Pc → Nat
  | [] => 0
  | p :: r => if p.k = 2 ∨ p.k = 3 ∨ p.k = 4 then 0 else (if p.k = 1 then width p.s else 0) + tailS r
theorem flatS_app : ∀ a b : List Pc, flatS (a ++ b) = flatS a + flatS b
  | [], b => by simp [flatS]
  | x :: r, b => by simp [flatS, flatS_app r b]; omega
theorem hardS_app : ∀ a b : List Pc, hardS (a ++ b) = hardS a + hardS b
  | [], b => by simp [hardS]
  | x :: r, b => by simp [hardS, hardS_app r b]; omega
theorem fw_wid (p : Pc) : fw p ≤ p.s.length + 1 := by
  have := width_le p.s
  unfold fw; split
  · omega
  · split <;> omega
theorem flatS_wid : ∀ l : List Pc, flatS l ≤ wid l
  | [] => by simp [flatS]
  | p :: r => by have := flatS_wid r; have := fw_wid p; simp only [flatS, wid]; omega
theorem hardS_len : ∀ l : List Pc, hardS l ≤ l.length
  | [] => by simp [hardS]
  | p :: r => by have := hardS_len r; simp only [hardS, List.length_cons]; split <;> omega
theorem tailS_wid : ∀ l : List Pc, tailS l ≤ wid l
  | [] => by simp [tailS]
  | p :: r => by
    have := tailS_wid r; have := width_le p.s
    simp only [tailS, wid]
    split
    · omega
    · split <;> omega
theorem wid_take_drop (l : List Pc) (i : Nat) : wid (l.take i) + wid (l.drop i) = wid l := by
  rw [← wid_app, List.take_append_drop]
theorem take_snoc2 {α : Type} {l : List α} {i : Nat} {x : α} (h : l[i]? = some x) : l.take (i + 1) = l.take i ++ [x] := by
  rw [List.take_add_one, h]; rfl
theorem pc_mem_wid {l : List Pc} {i : Nat} {p : Pc} (h : l[i]? = some p) : p.s.length + 1 ≤ wid l := by
  have := wid_take_drop l i
  rw [drop_at h, wid] at this; omega

theorem nums_at {l : List Int} {i : Nat} {x : Int} (h : l[i]? = some x) : (ints l)[i]? = some [.int .i64 x] := Go.Proofs.YtoeonamjbohokaaW.Abs.ints_at h
theorem elems_boxed {h : Hp} {id n : Nat} {ty : TypeId} {F : List Int} (e : h id = some (.box ty (ints F))) (hn : F.length = n) : elems h (.sl id 0 n) = some (ints F) := by
  simp only [elems, e]; simp [hn]
  exact List.take_of_length_le (by simp; omega)
theorem elems_upd_self {h : Hp} {id n : Nat} {ty : TypeId} {F : List Int} (hn : F.length = n) : elems (upd h id (some (.box ty (ints F)))) (.sl id 0 n) = some (ints F) := elems_boxed (ty := ty) (by simp) hn
theorem elems_upd_ne {h : Hp} {j id st n : Nat} {x : Option AObj} (hne : id ≠ j) : elems (upd h j x) (.sl id st n) = elems h (.sl id st n) := by
  simp only [elems, upd_ne hne]
theorem upd_upd_same' (h : Hp) (i : Nat) (x y : Option AObj) : upd (upd h i x) i y = upd h i y := by
  funext q; simp only [upd]; split <;> rfl
theorem setAt_ints (l : List Int) (j : Nat) (x : Int) : setAt (ints l) j 0 [.int .i64 x] = ints (l.set j x) := by
  apply List.ext_getElem?
  intro i
  rw [setAt_get]
  simp only [ints, List.getElem?_map, List.getElem?_set]
  by_cases h : j = i
  · subst h
    rw [if_pos rfl, if_pos rfl]
    by_cases h2 : j < l.length
    · simp [h2]
    · simp [h2]
  · rw [if_neg h, if_neg h]

structure Sums (l : List Pc) (F H T : List Int) : Prop where
  fl : F.length = l.length + 1
  hl : H.length = l.length + 1
  tl : T.length = l.length + 1
  f : ∀ k, k ≤ l.length → F[k]? = some (flatS (l.take k) : Int)
  h : ∀ k, k ≤ l.length → H[k]? = some (hardS (l.take k) : Int)
  t : ∀ k, k ≤ l.length → T[k]? = some (tailS (l.drop k) : Int)

theorem set_upto {F : List Int} {g : Nat → Int} {i : Nat} (hF : i + 1 < F.length) (kF : ∀ k, k ≤ i → F[k]? = some (g k)) {v : Int} (hv : v = g (i + 1)) : ∀ k, k ≤ i + 1 → (F.set (i + 1) v)[k]? = some (g k) := by
  intro k hk
  rw [List.getElem?_set]
  by_cases h : i + 1 = k
  · subst h; rw [if_pos rfl, if_pos hF, hv]
  · rw [if_neg h]; exact kF k (by omega)
theorem sums_l1 {K : KC2} {hs : Hints} {l : List Pc} {L : AV} (hL : IsRow L (l.map Pc.enc)) (hll : l.length ≤ 1000000) (hw : wid l ≤ 140737488355328) {i1 i2 i3 : Nat} (h12 : i1 < i2) (h23 : i2 < i3) {v3 : Option AObj}
    (hK : ∀ ts loc (τ : Heap) F H, ts.length = 120 → tmp ts 0 = L → tmp ts 2 = .sl i1 0 (l.length + 1) → tmp ts 3 = .sl i2 0 (l.length + 1) → tmp ts 4 = .sl i3 0 (l.length + 1) → i3 < τ.next → τ.obj i1 = some (.box 3 (ints F)) → τ.obj i2 = some (.box 3 (ints H)) → τ.obj i3 = v3 →
      F.length = l.length + 1 → H.length = l.length + 1 → (∀ k, k ≤ l.length → F[k]? = some (flatS (l.take k) : Int)) → (∀ k, k ≤ l.length → H[k]? = some (hardS (l.take k) : Int)) → K.k (.exit 0) ts loc τ)
    (ts : List AV) (loc : Go.Proofs.YtoeonamjbohokaaW.Abs.Loc) (τ : Heap) (hl : ts.length = 120) (h0 : tmp ts 0 = L) (h2 : tmp ts 2 = .sl i1 0 (l.length + 1)) (h3 : tmp ts 3 = .sl i2 0 (l.length + 1)) (h4 : tmp ts 4 = .sl i3 0 (l.length + 1)) (h20 : tmp ts 20 = L) (h21 : tmp ts 21 = .int .i64 l.length) (h22 : tmp ts 22 = .int .i64 0) (hnx : i3 < τ.next)
    (F H : List Int) (f1 : τ.obj i1 = some (.box 3 (ints F))) (f2 : τ.obj i2 = some (.box 3 (ints H))) (f3 : τ.obj i3 = v3) (hF : F.length = l.length + 1) (hH : H.length = l.length + 1) (F0 : ∀ k, k ≤ 0 → F[k]? = some (flatS (l.take k) : Int)) (H0 : ∀ k, k ≤ 0 → H[k]? = some (hardS (l.take k) : Int)) : loop2I Try.prog W0 C hs F29l1 ts loc τ := by
  refine loop2I_ind cok F29l1w (m := fun i => l.length - i) (I := fun i ts loc τ => i ≤ l.length ∧ ts.length = 120 ∧ tmp ts 0 = L ∧ tmp ts 2 = .sl i1 0 (l.length + 1) ∧ tmp ts 3 = .sl i2 0 (l.length + 1) ∧ tmp ts 4 = .sl i3 0 (l.length + 1) ∧ tmp ts 20 = L ∧ tmp ts 21 = .int .i64 l.length ∧ tmp ts 22 = .int .i64 i ∧ i3 < τ.next ∧
    ∃ F H, τ.obj i1 = some (.box 3 (ints F)) ∧ τ.obj i2 = some (.box 3 (ints H)) ∧ τ.obj i3 = v3 ∧ F.length = l.length + 1 ∧ H.length = l.length + 1 ∧ (∀ k, k ≤ i → F[k]? = some (flatS (l.take k) : Int)) ∧ (∀ k, k ≤ i → H[k]? = some (hardS (l.take k) : Int))) ?_ 0
    ⟨by omega, hl, h0, h2, h3, h4, h20, h21, by simpa using h22, hnx, F, H, f1, f2, f3, hF, hH, F0, H0⟩
  clear hl h0 h2 h3 h4 h20 h21 h22 hnx f1 f2 f3 hF hH F0 H0 F H ts loc τ
  rintro i ts loc τ ⟨hi, hl, h0, h2, h3, h4, h20, h21, h22, hnx, F, H, f1, f2, f3, hF, hH, kF, kH⟩ ih'
  simp (disch := first | omega | (simp only [List.length_set]; omega)) [F29l1, hl, h20, h21, h22]
  by_cases hlt : i < l.length
  · obtain ⟨p, hp⟩ : ∃ p, l[i]? = some p := ⟨l[i], by simp [hlt]⟩
    have hpe : (l.map Pc.enc)[i]? = some p.enc := by simp [hp]
    have e1 := nums_at (kF i (Nat.le_refl _))
    have e2 := nums_at (kH i (Nat.le_refl _))
    have tk := take_snoc2 hp
    have hfw := flatS_wid (l.take (i + 1))
    have hhl := hardS_len (l.take (i + 1))
    have hwt := wid_take_drop l (i + 1)
    have hsw := pc_mem_wid hp
    rw [List.length_take] at hhl
    rw [tk] at hwt
    rw [tk, flatS_app] at hfw
    rw [tk, hardS_app] at hhl
    obtain ⟨pk, ps⟩ := p
    simp only [flatS, hardS, fw] at hfw hhl
    dsimp only at hsw
    have g1 : i < F.length := by omega
    have g2 : i < H.length := by omega
    have el1 := elems_boxed f1 hF
    have el2 := elems_boxed f2 hH
    have c1 : i1 < τ.next + 1 + 6 := by omega
    have c2 : i2 < τ.next + 1 + 6 := by omega
    have c3 : (0 : Int) ≤ (i : Int) + 1 := by omega
    have c4 : ((i : Int) + 1).toNat = i + 1 := by omega
    have s1 : (ints F)[i + 1]? = some [.int .i64 F[i + 1]] := nums_at (List.getElem?_eq_getElem (by omega))
    have s2 : (ints H)[i + 1]? = some [.int .i64 H[i + 1]] := nums_at (List.getElem?_eq_getElem (by omega))
    simp (disch := first | omega | (simp only [List.length_set]; omega)) [hlt, hl, h0, h2, h3, h4, h20, h21, h22, hL.elems, hL.at hpe, hpe, f1, f2, hF, hH, e1, e2, el1, el2, s1, s2, wrap_id, elems_upd_self, elems_upd_ne, upd_ne, setAt_ints, c1, c2, c3, c4]
    intro m hm
    have s3 : (ints (F.set (i + 1) (flatS (l.take i))))[i + 1]? = some [.int .i64 (flatS (l.take i))] := nums_at (List.getElem?_set_self (by omega))
    have s4 : (ints (H.set (i + 1) (hardS (l.take i))))[i + 1]? = some [.int .i64 (hardS (l.take i))] := nums_at (List.getElem?_set_self (by omega))
    have d1 : i1 < m + 2 := by omega
    have d2 : i2 < m + 2 := by omega
    have d3 : i1 < m + 2 + 2 := by omega
    have d4 : τ.next < m := by omega
    have d5 : τ.next + 3 < m + 2 + 2 := by omega
    have next : ∀ (ts' : List AV) (loc' : Go.Proofs.YtoeonamjbohokaaW.Abs.Loc) (τ' : Heap) (F' H' : List Int), ts'.length = 120 → tmp ts' 0 = tmp ts 0 → tmp ts' 2 = tmp ts 2 → tmp ts' 3 = tmp ts 3 → tmp ts' 4 = tmp ts 4 → tmp ts' 20 = tmp ts 20 → tmp ts' 21 = tmp ts 21 → tmp ts' 22 = .int .i64 ((i + 1 : Nat) : Int) → i3 < τ'.next →
        τ'.obj i1 = some (.box 3 (ints F')) → τ'.obj i2 = some (.box 3 (ints H')) → τ'.obj i3 = v3 → F'.length = l.length + 1 → H'.length = l.length + 1 → (∀ k, k ≤ i + 1 → F'[k]? = some (flatS (l.take k) : Int)) → (∀ k, k ≤ i + 1 → H'[k]? = some (hardS (l.take k) : Int)) →
        loop2I Try.prog W0 C hs F29l1 ts' loc' τ' := by
      intro ts' loc' τ' F' H' q0 qa qb qc qd qe qf qg qh q1 q2 q3 q4 q5 q6 q7
      exact ih' (i + 1) _ _ _ (by omega) ⟨by omega, q0, qa.trans h0, qb.trans h2, qc.trans h3, qd.trans h4, qe.trans h20, qf.trans h21, qg, qh, F', H', q1, q2, q3, q4, q5, q6, q7⟩
    have tF : ∀ x : Nat, fw ⟨pk, ps⟩ = x → ((flatS (l.take i) + x : Nat) : Int) = (flatS (l.take (i + 1)) : Int) := fun x hx => by rw [tk, flatS_app]; simp [flatS, hx]
    have tH : ∀ x : Nat, (if pk = 4 then 1 else 0) = x → ((hardS (l.take i) + x : Nat) : Int) = (hardS (l.take (i + 1)) : Int) := fun x hx => by rw [tk, hardS_app]; simp [hardS, hx]
    clear ih' hK
    by_cases k1 : pk = 1
    · subst k1
      simp at hfw
      simp (disch := first | omega | (simp only [List.length_set]; omega)) [hl, h0, h2, h3, h4, h20, h21, h22, f1, f2, wrap_id, elems_upd_self, elems_upd_ne, upd_ne, upd_upd_same', setAt_ints, c3, c4, s3, s4, d1, d2, d3, d4, d5]
      refine pcallI_pure' (width_spec ps (by omega)) (by rfl) ?_
      simp (disch := first | omega | (simp only [List.length_set]; omega)) [hl, h0, h2, h3, h4, h20, h21, h22, f1, f2, wrap_id, elems_upd_self, elems_upd_ne, upd_ne, upd_upd_same', setAt_ints, c3, c4, s3, s4, d1, d2, d3, d4, d5]
      intro m' hm'
      refine next _ _ _ (F.set (i + 1) ((flatS (l.take i) : Int) + width ps)) (H.set (i + 1) (hardS (l.take i) : Int)) ?_ ?_ ?_ ?_ ?_ ?_ ?_ ?_ ?_ ?_ ?_ ?_ ?_ ?_ ?_ ?_
      · simp [hl]
      · simp (disch := first | omega | (simp only [List.length_set]; omega)) []
      · simp (disch := first | omega | (simp only [List.length_set]; omega)) []
      · simp (disch := first | omega | (simp only [List.length_set]; omega)) []
      · simp (disch := first | omega | (simp only [List.length_set]; omega)) []
      · simp (disch := first | omega | (simp only [List.length_set]; omega)) []
      · simp (disch := first | omega | (simp only [List.length_set]; omega)) []
      · simp (disch := first | omega | (simp only [List.length_set]; omega)) [wrap_id]
      · dsimp only; omega
      · simp (disch := first | omega | (simp only [List.length_set]; omega)) [upd_ne]
      · simp (disch := first | omega | (simp only [List.length_set]; omega)) [upd_ne]
      · simp (disch := first | omega | (simp only [List.length_set]; omega)) [upd_ne, f3]
      · simp [hF]
      · simp [hH]
      · exact set_upto (g := fun k => (flatS (l.take k) : Int)) (by omega) kF (by rw [← tF (width ps) (by simp [fw])]; simp)
      · exact set_upto (g := fun k => (hardS (l.take k) : Int)) (by omega) kH (by rw [← tH 0 (by simp)]; simp)
    by_cases k2 : pk = 2
    · subst k2
      simp at hfw
      simp (disch := first | omega | (simp only [List.length_set]; omega)) [hl, h0, h2, h3, h4, h20, h21, h22, f1, f2, wrap_id, elems_upd_self, elems_upd_ne, upd_ne, upd_upd_same', setAt_ints, c3, c4, s3, s4, d1, d2]
      refine next _ _ _ (F.set (i + 1) ((flatS (l.take i) : Int) + 1)) (H.set (i + 1) (hardS (l.take i) : Int)) ?_ ?_ ?_ ?_ ?_ ?_ ?_ ?_ ?_ ?_ ?_ ?_ ?_ ?_ ?_ ?_
      · simp [hl]
      · simp (disch := first | omega | (simp only [List.length_set]; omega)) []
      · simp (disch := first | omega | (simp only [List.length_set]; omega)) []
      · simp (disch := first | omega | (simp only [List.length_set]; omega)) []
      · simp (disch := first | omega | (simp only [List.length_set]; omega)) []
      · simp (disch := first | omega | (simp only [List.length_set]; omega)) []
      · simp (disch := first | omega | (simp only [List.length_set]; omega)) []
      · simp (disch := first | omega | (simp only [List.length_set]; omega)) [wrap_id]
      · dsimp only; omega
      · simp (disch := first | omega | (simp only [List.length_set]; omega)) [upd_ne]
      · simp (disch := first | omega | (simp only [List.length_set]; omega)) [upd_ne]
      · simp (disch := first | omega | (simp only [List.length_set]; omega)) [upd_ne, f3]
      · simp [hF]
      · simp [hH]
      · exact set_upto (g := fun k => (flatS (l.take k) : Int)) (by omega) kF (by rw [← tF 1 (by simp [fw])]; simp)
      · exact set_upto (g := fun k => (hardS (l.take k) : Int)) (by omega) kH (by rw [← tH 0 (by simp)]; simp)
    by_cases k4 : pk = 4
    · subst k4
      simp (disch := first | omega | (simp only [List.length_set]; omega)) [hl, h0, h2, h3, h4, h20, h21, h22, f1, f2, wrap_id, elems_upd_self, elems_upd_ne, upd_ne, upd_upd_same', setAt_ints, c3, c4, s3, s4, d1, d2]
      refine next _ _ _ (F.set (i + 1) (flatS (l.take i) : Int)) (H.set (i + 1) ((hardS (l.take i) : Int) + 1)) ?_ ?_ ?_ ?_ ?_ ?_ ?_ ?_ ?_ ?_ ?_ ?_ ?_ ?_ ?_ ?_
      · simp [hl]
      · simp (disch := first | omega | (simp only [List.length_set]; omega)) []
      · simp (disch := first | omega | (simp only [List.length_set]; omega)) []
      · simp (disch := first | omega | (simp only [List.length_set]; omega)) []
      · simp (disch := first | omega | (simp only [List.length_set]; omega)) []
      · simp (disch := first | omega | (simp only [List.length_set]; omega)) []
      · simp (disch := first | omega | (simp only [List.length_set]; omega)) []
      · simp (disch := first | omega | (simp only [List.length_set]; omega)) [wrap_id]
      · dsimp only; omega
      · simp (disch := first | omega | (simp only [List.length_set]; omega)) [upd_ne]
      · simp (disch := first | omega | (simp only [List.length_set]; omega)) [upd_ne]
      · simp (disch := first | omega | (simp only [List.length_set]; omega)) [upd_ne, f3]
      · simp [hF]
      · simp [hH]
      · exact set_upto (g := fun k => (flatS (l.take k) : Int)) (by omega) kF (by rw [← tF 0 (by simp [fw])]; simp)
      · exact set_upto (g := fun k => (hardS (l.take k) : Int)) (by omega) kH (by rw [← tH 1 (by simp)]; simp)
    · simp (disch := first | omega | (simp only [List.length_set]; omega)) [k1, k2, k4, hl, h0, h2, h3, h4, h20, h21, h22, f1, f2, wrap_id, elems_upd_self, elems_upd_ne, upd_ne, upd_upd_same', setAt_ints, c3, c4, s3, s4, d1, d2]
      refine next _ _ _ (F.set (i + 1) (flatS (l.take i) : Int)) (H.set (i + 1) (hardS (l.take i) : Int)) ?_ ?_ ?_ ?_ ?_ ?_ ?_ ?_ ?_ ?_ ?_ ?_ ?_ ?_ ?_ ?_
      · simp [hl]
      · simp (disch := first | omega | (simp only [List.length_set]; omega)) []
      · simp (disch := first | omega | (simp only [List.length_set]; omega)) []
      · simp (disch := first | omega | (simp only [List.length_set]; omega)) []
      · simp (disch := first | omega | (simp only [List.length_set]; omega)) []
      · simp (disch := first | omega | (simp only [List.length_set]; omega)) []
      · simp (disch := first | omega | (simp only [List.length_set]; omega)) []
      · simp (disch := first | omega | (simp only [List.length_set]; omega)) [wrap_id]
      · dsimp only; omega
      · simp (disch := first | omega | (simp only [List.length_set]; omega)) [upd_ne]
      · simp (disch := first | omega | (simp only [List.length_set]; omega)) [upd_ne]
      · simp (disch := first | omega | (simp only [List.length_set]; omega)) [upd_ne, f3]
      · simp [hF]
      · simp [hH]
      · exact set_upto (g := fun k => (flatS (l.take k) : Int)) (by omega) kF (by rw [← tF 0 (by simp [fw, k1, k2])]; simp)
      · exact set_upto (g := fun k => (hardS (l.take k) : Int)) (by omega) kH (by rw [← tH 0 (by simp [k4])]; simp)
  · have hi' : i = l.length := by omega
    subst hi'
    simp (disch := first | omega | (simp only [List.length_set]; omega)) [hlt, hl, h20, h21, h22]
    exact hK _ _ _ F H (by simp [hl]) (by simp (disch := first | omega | (simp only [List.length_set]; omega)) [h0]) (by simp (disch := first | omega | (simp only [List.length_set]; omega)) [h2]) (by simp (disch := first | omega | (simp only [List.length_set]; omega)) [h3]) (by simp (disch := first | omega | (simp only [List.length_set]; omega)) [h4]) (by dsimp only; omega) f1 f2 f3 hF hH kF kH

theorem sums_l0 {K : KC2} {hs : Hints} {l : List Pc} {L : AV} (hL : IsRow L (l.map Pc.enc)) (hll : l.length ≤ 1000000) (hw : wid l ≤ 140737488355328) {i1 i2 i3 : Nat} (h12 : i1 < i2) (h23 : i2 < i3) {v1 v2 : Option AObj}
    (hK : ∀ ts loc (τ : Heap) T, ts.length = 120 → tmp ts 2 = .sl i1 0 (l.length + 1) → tmp ts 3 = .sl i2 0 (l.length + 1) → tmp ts 4 = .sl i3 0 (l.length + 1) → i3 < τ.next → τ.obj i1 = v1 → τ.obj i2 = v2 → τ.obj i3 = some (.box 3 (ints T)) →
      T.length = l.length + 1 → (∀ k, k ≤ l.length → T[k]? = some (tailS (l.drop k) : Int)) → K.k (.exit 3) ts loc τ)
    (ts : List AV) (loc : Go.Proofs.YtoeonamjbohokaaW.Abs.Loc) (τ : Heap) (hl : ts.length = 120) (h0 : tmp ts 0 = L) (h2 : tmp ts 2 = .sl i1 0 (l.length + 1)) (h3 : tmp ts 3 = .sl i2 0 (l.length + 1)) (h4 : tmp ts 4 = .sl i3 0 (l.length + 1)) (h7 : tmp ts 7 = .int .i64 ((l.length : Int) - 1)) (hnx : i3 < τ.next)
    (T : List Int) (f1 : τ.obj i1 = v1) (f2 : τ.obj i2 = v2) (f3 : τ.obj i3 = some (.box 3 (ints T))) (hT : T.length = l.length + 1) (T0 : ∀ k, k ≤ l.length → T[k]? = some 0) : loop2I Try.prog W0 C hs F29l0 ts loc τ := by
  refine loop2I_ind cok F29l0w (m := fun j => j) (I := fun j ts loc τ => j ≤ l.length ∧ ts.length = 120 ∧ tmp ts 0 = L ∧ tmp ts 2 = .sl i1 0 (l.length + 1) ∧ tmp ts 3 = .sl i2 0 (l.length + 1) ∧ tmp ts 4 = .sl i3 0 (l.length + 1) ∧ tmp ts 7 = .int .i64 ((j : Int) - 1) ∧ i3 < τ.next ∧ τ.obj i1 = v1 ∧ τ.obj i2 = v2 ∧
    ∃ T, τ.obj i3 = some (.box 3 (ints T)) ∧ T.length = l.length + 1 ∧ (∀ k, k < j → T[k]? = some 0) ∧ (∀ k, j ≤ k → k ≤ l.length → T[k]? = some (tailS (l.drop k) : Int))) ?_ l.length
    ⟨Nat.le_refl _, hl, h0, h2, h3, h4, h7, hnx, f1, f2, T, f3, hT, fun k hk => T0 k (by omega), fun k hk hk' => by rw [T0 k hk', show k = l.length by omega]; simp [tailS]⟩
  clear hl h0 h2 h3 h4 h7 hnx f1 f2 f3 hT T0 T ts loc τ
  rintro j ts loc τ ⟨hj, hl, h0, h2, h3, h4, h7, hnx, f1, f2, T, f3, hT, z0, z1⟩ ih'
  by_cases hpos : 0 < j
  · obtain ⟨i, rfl⟩ : ∃ i, j = i + 1 := ⟨j - 1, by omega⟩
    have h7' : tmp ts 7 = .int .i64 i := by rw [h7]; congr 1; omega
    obtain ⟨p, hp⟩ : ∃ p, l[i]? = some p := ⟨l[i], by simp [show i < l.length by omega]⟩
    have hpe : (l.map Pc.enc)[i]? = some p.enc := by simp [hp]
    have e1 := nums_at (z1 (i + 1) (Nat.le_refl _) (by omega))
    have e0 := nums_at (z0 i (by omega))
    have hdr := drop_at hp
    have hsw := pc_mem_wid hp
    have htw := tailS_wid (l.drop (i + 1))
    have hwt := wid_take_drop l i
    rw [hdr] at hwt
    have el3 := elems_boxed f3 hT
    have c3 : (0 : Int) ≤ (i : Int) + 1 := by omega
    have c4 : ((i : Int) + 1).toNat = i + 1 := by omega
    have hwl := width_le p.s
    obtain ⟨pk, ps⟩ := p
    dsimp only [wid] at hsw hwt hwl
    have next : ∀ (ts' : List AV) (loc' : Go.Proofs.YtoeonamjbohokaaW.Abs.Loc) (τ' : Heap) (T' : List Int), ts'.length = 120 → tmp ts' 0 = tmp ts 0 → tmp ts' 2 = tmp ts 2 → tmp ts' 3 = tmp ts 3 → tmp ts' 4 = tmp ts 4 → tmp ts' 7 = .int .i64 ((i : Int) - 1) → i3 < τ'.next →
        τ'.obj i1 = τ.obj i1 → τ'.obj i2 = τ.obj i2 → τ'.obj i3 = some (.box 3 (ints T')) → T'.length = l.length + 1 → (∀ k, k ≠ i → T'[k]? = T[k]?) → T'[i]? = some (tailS (l.drop i) : Int) →
        loop2I Try.prog W0 C hs F29l0 ts' loc' τ' := by
      intro ts' loc' τ' T' q0 qa qb qc qd qe qh q1 q2 q3 q4 q5 q6
      refine ih' i _ _ _ (by omega) ⟨by omega, q0, qa.trans h0, qb.trans h2, qc.trans h3, qd.trans h4, qe, qh, q1.trans f1, q2.trans f2, T', q3, q4, fun k hk => by rw [q5 k (by omega)]; exact z0 k (by omega), fun k hk hk' => ?_⟩
      by_cases hki : k = i
      · subst hki; exact q6
      · rw [q5 k hki]; exact z1 k (by omega) hk'
    clear ih' hK
    have tS : (tailS (l.drop i) : Int) = if pk = 2 ∨ pk = 3 ∨ pk = 4 then 0 else (if pk = 1 then (width ps : Int) else 0) + (tailS (l.drop (i + 1)) : Int) := by
      rw [hdr, tailS]; dsimp only; split
      · simp
      · split <;> simp
    have c5 : (0 : Int) ≤ (i : Int) := by omega
    simp (disch := first | omega | (simp only [List.length_set]; omega)) [F29l0, hl, h0, h2, h3, h4, h7', hL.elems, hL.at hpe, hpe, c5]
    by_cases k2 : pk = 2
    · subst k2
      simp (disch := first | omega | (simp only [List.length_set]; omega)) [hl, h0, h2, h3, h4, h7']
      refine next _ _ _ T ?_ ?_ ?_ ?_ ?_ ?_ ?_ ?_ ?_ ?_ ?_ ?_ ?_
      · simp [hl]
      · simp (disch := first | omega | (simp only [List.length_set]; omega)) []
      · simp (disch := first | omega | (simp only [List.length_set]; omega)) []
      · simp (disch := first | omega | (simp only [List.length_set]; omega)) []
      · simp (disch := first | omega | (simp only [List.length_set]; omega)) []
      · simp (disch := first | omega | (simp only [List.length_set]; omega)) [wrap_id]
      · dsimp only; omega
      · rfl
      · rfl
      · exact f3
      · exact hT
      · intro k hk; rfl
      · rw [tS]; simpa using z0 i (by omega)
    by_cases k3 : pk = 3
    · subst k3
      simp (disch := first | omega | (simp only [List.length_set]; omega)) [hl, h0, h2, h3, h4, h7']
      refine next _ _ _ T ?_ ?_ ?_ ?_ ?_ ?_ ?_ ?_ ?_ ?_ ?_ ?_ ?_
      · simp [hl]
      · simp (disch := first | omega | (simp only [List.length_set]; omega)) []
      · simp (disch := first | omega | (simp only [List.length_set]; omega)) []
      · simp (disch := first | omega | (simp only [List.length_set]; omega)) []
      · simp (disch := first | omega | (simp only [List.length_set]; omega)) []
      · simp (disch := first | omega | (simp only [List.length_set]; omega)) [wrap_id]
      · dsimp only; omega
      · rfl
      · rfl
      · exact f3
      · exact hT
      · intro k hk; rfl
      · rw [tS]; simpa using z0 i (by omega)
    by_cases k4 : pk = 4
    · subst k4
      simp (disch := first | omega | (simp only [List.length_set]; omega)) [hl, h0, h2, h3, h4, h7']
      refine next _ _ _ T ?_ ?_ ?_ ?_ ?_ ?_ ?_ ?_ ?_ ?_ ?_ ?_ ?_
      · simp [hl]
      · simp (disch := first | omega | (simp only [List.length_set]; omega)) []
      · simp (disch := first | omega | (simp only [List.length_set]; omega)) []
      · simp (disch := first | omega | (simp only [List.length_set]; omega)) []
      · simp (disch := first | omega | (simp only [List.length_set]; omega)) []
      · simp (disch := first | omega | (simp only [List.length_set]; omega)) [wrap_id]
      · dsimp only; omega
      · rfl
      · rfl
      · exact f3
      · exact hT
      · intro k hk; rfl
      · rw [tS]; simpa using z0 i (by omega)
    by_cases k1 : pk = 1
    · subst k1
      have g3 : i3 < τ.next + 2 + 5 + 2 + 2 + 2 + 2 := by omega
      have g4 : i3 < τ.next + 2 + 5 + 2 + 2 := by omega
      have g5 : i3 < τ.next + 2 + 5 := by omega
      simp (disch := first | omega | (simp only [List.length_set]; omega)) [hl, h0, h2, h3, h4, h7', hL.elems, hL.chk, hL.at hpe, hpe, f3, e1, e0, el3, c3, c4, wrap_id, setAt_ints, g3, g4, g5]
      refine pcallI_pure' (width_spec ps (by omega)) (by simp) ?_
      simp (disch := first | omega | (simp only [List.length_set]; omega)) [hl, h0, h2, h3, h4, h7', hL.elems, hL.chk, hL.at hpe, hpe, f3, e1, e0, el3, c3, c4, wrap_id, setAt_ints, g3, g4, g5]
      intro m hm
      refine next _ _ _ (T.set i ((tailS (l.drop (i + 1)) : Int) + width ps)) ?_ ?_ ?_ ?_ ?_ ?_ ?_ ?_ ?_ ?_ ?_ ?_ ?_
      · simp [hl]
      · simp (disch := first | omega | (simp only [List.length_set]; omega)) []
      · simp (disch := first | omega | (simp only [List.length_set]; omega)) []
      · simp (disch := first | omega | (simp only [List.length_set]; omega)) []
      · simp (disch := first | omega | (simp only [List.length_set]; omega)) []
      · simp (disch := first | omega | (simp only [List.length_set]; omega)) [wrap_id]
      · dsimp only; omega
      · simp (disch := first | omega | (simp only [List.length_set]; omega)) [upd_ne]
      · simp (disch := first | omega | (simp only [List.length_set]; omega)) [upd_ne]
      · simp (disch := first | omega | (simp only [List.length_set]; omega)) []
      · simp [hT]
      · intro k hk; rw [List.getElem?_set_ne (by omega)]
      · rw [tS, List.getElem?_set_self (by omega)]; simp; omega
    · simp (disch := first | omega | (simp only [List.length_set]; omega)) [k1, k2, k3, k4, hl, h0, h2, h3, h4, h7', hL.elems, hL.at hpe, hpe, f3, e1, e0, el3, c3, c4, wrap_id, setAt_ints]
      refine next _ _ _ (T.set i (tailS (l.drop (i + 1)) : Int)) ?_ ?_ ?_ ?_ ?_ ?_ ?_ ?_ ?_ ?_ ?_ ?_ ?_
      · simp [hl]
      · simp (disch := first | omega | (simp only [List.length_set]; omega)) []
      · simp (disch := first | omega | (simp only [List.length_set]; omega)) []
      · simp (disch := first | omega | (simp only [List.length_set]; omega)) []
      · simp (disch := first | omega | (simp only [List.length_set]; omega)) []
      · simp (disch := first | omega | (simp only [List.length_set]; omega)) [wrap_id]
      · dsimp only; omega
      · simp (disch := first | omega | (simp only [List.length_set]; omega)) [upd_ne]
      · simp (disch := first | omega | (simp only [List.length_set]; omega)) [upd_ne]
      · simp (disch := first | omega | (simp only [List.length_set]; omega)) []
      · simp [hT]
      · intro k hk; rw [List.getElem?_set_ne (by omega)]
      · rw [tS, List.getElem?_set_self (by omega)]; simp [k1, k2, k3, k4]
  · have : j = 0 := by omega
    subst this
    simp (disch := first | omega | (simp only [List.length_set]; omega)) [F29l0, hl, h7]
    exact hK _ _ _ T (by simp [hl]) (by simp (disch := first | omega | (simp only [List.length_set]; omega)) [h2]) (by simp (disch := first | omega | (simp only [List.length_set]; omega)) [h3]) (by simp (disch := first | omega | (simp only [List.length_set]; omega)) [h4]) (by dsimp only; omega) f1 f2 f3 hT (fun k hk => z1 k (by omega) hk)

theorem sums_spec (l : List Pc) {L : AV} (hL : IsRow L (l.map Pc.enc)) (hll : l.length ≤ 1000000) (hw : wid l ≤ 140737488355328) (n : Nat) :
    HCalls Try.prog W0 29 [L] ⟨n, fun _ => none⟩ (fun o τ' => ∃ i1 i2 i3 F H T, o = .ret (.tup [.sl i1 0 (l.length + 1), .sl i2 0 (l.length + 1), .sl i3 0 (l.length + 1)]) ∧ n ≤ i1 ∧ i1 < i2 ∧ i2 < i3 ∧ i3 < τ'.next ∧
      τ'.obj i1 = some (.box 3 (ints F)) ∧ τ'.obj i2 = some (.box 3 (ints H)) ∧ τ'.obj i3 = some (.box 3 (ints T)) ∧ Sums l F H T) := by
  refine hcalls cok Try.func29 F29d F29e F29c F29w F29r ?_
  refine ev2I_intro ?_
  simp (disch := first | omega | (simp only [List.length_set]; omega)) [F29s, hL.len, wrap_id]
  refine andI_intro (by omega) ?_
  simp (disch := first | omega | (simp only [List.length_set]; omega)) [hL.len, wrap_id]
  refine andI_intro (by omega) ?_
  simp (disch := first | omega | (simp only [List.length_set]; omega)) [hL.len, wrap_id]
  refine andI_intro (by omega) ?_
  simp (disch := first | omega | (simp only [List.length_set]; omega)) [hL.len, wrap_id]
  intro m hm
  have hrep : ([AV.int .i64 0] :: List.replicate l.length [AV.int .i64 0]) = ints (List.replicate (l.length + 1) 0) := by simp [ints, List.replicate_succ]
  rw [hrep]
  refine sums_l1 hL hll hw (i1 := n + 3 + 3) (i2 := n + 3 + 7) (i3 := n + 3 + 11) (by omega) (by omega) (fun ts loc τ F H g0 ga g2 g3 g4 gn f1 f2 f3 hF hH kF kH => ?_) _ _ _ (by rfl) (by rfl) (by rfl) (by rfl) (by rfl) (by rfl) (by rfl) (by rfl) (by dsimp only; omega) (List.replicate (l.length + 1) 0) (List.replicate (l.length + 1) 0) (by simp (disch := first | omega | (simp only [List.length_set]; omega)) [upd_ne]) (by simp (disch := first | omega | (simp only [List.length_set]; omega)) [upd_ne]) (by simp (disch := first | omega | (simp only [List.length_set]; omega)) [upd_ne]; rfl) (by simp) (by simp) ?_ ?_
  · simp (disch := first | omega | (simp only [List.length_set]; omega)) [g0, ga, g2, g3, g4, hL.len, wrap_id]
    refine sums_l0 hL hll hw (i1 := n + 3 + 3) (i2 := n + 3 + 7) (i3 := n + 3 + 11) (by omega) (by omega) (v1 := some (.box 3 (ints F))) (v2 := some (.box 3 (ints H))) (fun ts2 loc2 τ2 T k0 k2 k3 k4 kn q1 q2 q3 hT kT => ?_) _ _ _ (by simp [g0]) (by simp (disch := first | omega | (simp only [List.length_set]; omega)) [ga]) (by simp (disch := first | omega | (simp only [List.length_set]; omega)) [g2]) (by simp (disch := first | omega | (simp only [List.length_set]; omega)) [g3]) (by simp (disch := first | omega | (simp only [List.length_set]; omega)) [g4]) (by simp (disch := first | omega | (simp only [List.length_set]; omega)) [wrap_id]) (by dsimp only; omega) (List.replicate (l.length + 1) 0) f1 f2 f3 (by simp) ?_
    · simp (disch := first | omega | (simp only [List.length_set]; omega)) [k0, k2, k3, k4]
      exact ⟨n + 3 + 3, n + 3 + 7, n + 3 + 11, ⟨rfl, rfl, rfl⟩, by omega, by omega, by omega, by omega, F, q1, H, q2, T, q3, ⟨hF, hH, hT, kF, kH, kT⟩⟩
    · intro k hk; rw [List.getElem?_replicate, if_pos (by omega)]
  · intro k hk; have : k = 0 := by omega
    subst this; simp [flatS]
  · intro k hk; have : k = 0 := by omega
    subst this; simp [hardS]
end Go.Proofs.Ytoeonamjbohokaa.Lt

/- Where each group ends. -/
namespace Go.Proofs.Ytoeonamjbohokaa.Lt
open Go.Proofs.YtoeonamjbohokaaW.Abs Go
set_option maxRecDepth 100000
set_option maxHeartbeats 4000000
set_option linter.unusedSimpArgs false
set_option linter.unusedVariables false
variable {W0 : World}

/-- a group's end: how far on -/
def stp (k : Int) (d : Nat) : Nat := if k = 7 then d + 1 else if k = 8 then d - 1 else d
def mend : List Pc → Nat → Option Nat
  | [], _ => none
  | p :: r, d => if stp p.k d = 0 then some 0 else (mend r (stp p.k d)).map (· + 1)
/-- well nested pieces: g groups and n nests are open -/
def okd : List Pc → Nat → Nat → Prop
  | [], g, n => g = 0 ∧ n = 0
  | p :: r, g, n => (p.k = 1 ∧ p.s ≠ [] ∧ okd r g n) ∨ ((p.k = 2 ∨ p.k = 3 ∨ p.k = 4) ∧ p.s = [] ∧ okd r g n) ∨ (p.k = 5 ∧ p.s = [] ∧ okd r g (n + 1)) ∨ (p.k = 6 ∧ p.s = [] ∧ 0 < n ∧ okd r g (n - 1)) ∨ (p.k = 7 ∧ p.s = [] ∧ okd r (g + 1) n) ∨ (p.k = 8 ∧ p.s = [] ∧ 0 < g ∧ okd r (g - 1) n)
theorem okd_g {p : Pc} {r : List Pc} {g n : Nat} (h : okd (p :: r) g n) : (p.k = 8 → 0 < g) ∧ ∃ n', okd r (stp p.k g) n' := by
  rw [okd] at h
  rcases h with ⟨h1, _, h2⟩ | ⟨h1, _, h2⟩ | ⟨h1, _, h2⟩ | ⟨h1, _, _, h2⟩ | ⟨h1, _, h2⟩ | ⟨h1, _, h3, h2⟩
  · exact ⟨by omega, n, by simpa [stp, h1] using h2⟩
  · exact ⟨by omega, n, by rw [stp, if_neg (by omega), if_neg (by omega)]; exact h2⟩
  · exact ⟨by omega, n + 1, by simpa [stp, h1] using h2⟩
  · exact ⟨by omega, n - 1, by simpa [stp, h1] using h2⟩
  · exact ⟨by omega, n, by simpa [stp, h1] using h2⟩
  · exact ⟨fun _ => h3, n, by simpa [stp, h1] using h2⟩

def natI (l : List Nat) : List Int := l.map fun x : Nat => (x : Int)
@[simp] theorem natI_app (a b : List Nat) : natI (a ++ b) = natI a ++ natI b := by simp [natI]
@[simp] theorem natI_one (a : Nat) : natI [a] = [(a : Int)] := rfl
theorem natI_at {l : List Nat} {i x : Nat} (h : l[i]? = some x) : (natI l)[i]? = some (x : Int) := by simp [natI, h]
@[simp] theorem natI_len (l : List Nat) : (natI l).length = l.length := by simp [natI]

structure EInv (l : List Pc) (j : Nat) (st : List Nat) (E : List Int) : Prop where
  ok : ∃ n, okd (l.drop j) st.length n
  el : E.length = l.length
  op : ∀ k o, st[k]? = some o → o < j ∧ mend (l.drop o) 0 = (mend (l.drop j) (st.length - k)).map (· + (j - o))
  cl : ∀ o p, o < j → l[o]? = some p → p.k = 7 → o ∈ st ∨ ∃ m, mend (l.drop o) 0 = some m ∧ E[o]? = some ((o + m : Nat) : Int) ∧ o + m < l.length

theorem map_add {o : Option Nat} {a b : Nat} : (o.map (· + a)).map (· + b) = o.map (· + (a + b)) := by
  cases o <;> simp; omega

theorem EInv.step {l : List Pc} {j : Nat} {st : List Nat} {E : List Int} (H : EInv l j st E) {p : Pc} (hp : l[j]? = some p) (h7 : p.k ≠ 7) (h8 : p.k ≠ 8) : EInv l (j + 1) st E := by
  obtain ⟨n, hok⟩ := H.ok
  rw [drop_at hp] at hok
  obtain ⟨_, n', h2⟩ := okd_g hok
  have hs : stp p.k st.length = st.length := by rw [stp, if_neg h7, if_neg h8]
  rw [hs] at h2
  refine ⟨⟨n', h2⟩, H.el, fun k o hk => ?_, fun o q ho hq hq7 => ?_⟩
  · obtain ⟨h3, h4⟩ := H.op k o hk
    have hkl := (List.getElem?_eq_some_iff.1 hk).1
    refine ⟨by omega, ?_⟩
    rw [h4, drop_at hp, mend, stp, if_neg h7, if_neg h8, if_neg (by omega), map_add]
    congr 1; funext x; omega
  · by_cases e : o = j
    · subst e; rw [hp] at hq; cases hq; exact absurd hq7 h7
    · exact H.cl o q (by omega) hq hq7
theorem EInv.push {l : List Pc} {j : Nat} {st : List Nat} {E : List Int} (H : EInv l j st E) {p : Pc} (hp : l[j]? = some p) (h7 : p.k = 7) : EInv l (j + 1) (st ++ [j]) E := by
  obtain ⟨n, hok⟩ := H.ok
  rw [drop_at hp] at hok
  obtain ⟨_, n', h2⟩ := okd_g hok
  have hs : stp p.k st.length = st.length + 1 := by rw [stp, if_pos h7]
  rw [hs] at h2
  refine ⟨⟨n', by simpa using h2⟩, H.el, fun k o hk => ?_, fun o q ho hq hq7 => ?_⟩
  · by_cases hkl : k < st.length
    · rw [List.getElem?_append_left hkl] at hk
      obtain ⟨h3, h4⟩ := H.op k o hk
      refine ⟨by omega, ?_⟩
      rw [h4, drop_at hp, mend, stp, if_pos h7, if_neg (by omega), map_add, show (st ++ [j]).length - k = st.length - k + 1 by simp; omega]
      congr 1; funext x; omega
    · rw [List.getElem?_append_right (by omega)] at hk
      have hk0 : k - st.length = 0 := by
        rcases Nat.eq_zero_or_pos (k - st.length) with h0 | h0
        · exact h0
        · rw [List.getElem?_eq_none (by simp; omega)] at hk; cases hk
      rw [hk0] at hk; simp at hk; subst hk
      refine ⟨by omega, ?_⟩
      rw [drop_at hp, mend, stp, if_pos h7, if_neg (by omega), show (st ++ [j]).length - k = 1 by simp; omega]
      congr 1; funext x; omega
  · by_cases e : o = j
    · subst e; exact .inl (by simp)
    · rcases H.cl o q (by omega) hq hq7 with h | h
      · exact .inl (by simp [h])
      · exact .inr h
theorem EInv.pop {l : List Pc} {j : Nat} {st : List Nat} {E : List Int} {o : Nat} (H : EInv l j (st ++ [o]) E) {p : Pc} (hp : l[j]? = some p) (h8 : p.k = 8) : EInv l (j + 1) st (E.set o j) := by
  obtain ⟨n, hok⟩ := H.ok
  rw [drop_at hp] at hok
  obtain ⟨_, n', h2⟩ := okd_g hok
  have hs : stp p.k (st ++ [o]).length = st.length := by rw [stp, if_neg (by omega), if_pos h8]; simp
  rw [hs] at h2
  have hjl := (List.getElem?_eq_some_iff.1 hp).1
  have hlen : (st ++ [o]).length = st.length + 1 := by simp
  have h7 : ¬ p.k = 7 := by omega
  obtain ⟨ho, htop⟩ := H.op st.length o (by simp)
  have htop' : mend (l.drop o) 0 = some (j - o) := by
    rw [htop, drop_at hp, mend, stp, if_neg h7, if_pos h8, if_pos (by omega)]; simp
  refine ⟨⟨n', h2⟩, by simp [H.el], fun k o' hk => ?_, fun o' q ho' hq hq7 => ?_⟩
  · have hkl := (List.getElem?_eq_some_iff.1 hk).1
    obtain ⟨h3, h4⟩ := H.op k o' (by rw [List.getElem?_append_left hkl]; exact hk)
    refine ⟨by omega, ?_⟩
    rw [h4, drop_at hp, mend, stp, if_neg h7, if_pos h8, show (st ++ [o]).length - k - 1 = st.length - k by omega, if_neg (by omega), map_add]
    congr 1; funext x; omega
  · by_cases eo : o' = o
    · subst eo
      refine .inr ⟨j - o', htop', ?_, by omega⟩
      rw [List.getElem?_set_self (by rw [H.el]; omega)]; congr 2; omega
    · by_cases e : o' = j
      · subst e; rw [hp] at hq; cases hq; omega
      · rcases H.cl o' q (by omega) hq hq7 with h | ⟨m, h1, h2, h3⟩
        · simp [eo] at h; exact .inl h
        · exact .inr ⟨m, h1, by rw [List.getElem?_set_ne (by omega)]; exact h2, h3⟩

theorem ends_spec (l : List Pc) {L : AV} (hL : IsRow L (l.map Pc.enc)) (hll : l.length ≤ 1000000) (hok : okd l 0 0) (n : Nat) :
    HCalls Try.prog W0 30 [L] ⟨n, fun _ => none⟩ (fun o τ' => ∃ i1 E, o = .ret (.sl i1 0 l.length) ∧ n ≤ i1 ∧ i1 < τ'.next ∧ τ'.obj i1 = some (.box 3 (ints E)) ∧ EInv l l.length [] E) := by
  refine hcalls cok Try.func30 F30d F30e F30c F30w F30r ?_
  refine ev2I_intro ?_
  simp (disch := first | omega | (simp only [List.length_set]; omega)) [F30s, hL.len, wrap_id]
  refine andI_intro (by omega) ?_
  simp (disch := first | omega | (simp only [List.length_set]; omega)) [hL.len, wrap_id]
  have hrep : List.replicate l.length [AV.int .i64 0] = ints (List.replicate l.length 0) := by simp [ints]
  rw [hrep]
  refine loop2I_ind cok F30l0w (m := fun j => l.length - j) (I := fun j ts loc τ => j ≤ l.length ∧ ts.length = 43 ∧ tmp ts 3 = .sl (n + 1 + 2) 0 l.length ∧ tmp ts 10 = L ∧ tmp ts 11 = .int .i64 l.length ∧ tmp ts 12 = .int .i64 j ∧ n + 1 + 2 < τ.next ∧
    ∃ st E, τ.obj (n + 1 + 2) = some (.box 3 (ints E)) ∧ StkL (loc 1) 3 1 (tmp ts 4) (ints (natI st)) ∧ st.length ≤ j ∧ EInv l j st E) ?_ 0 ?_
  · rintro j ts loc τ ⟨hj, hl, h3, h10, h11, h12, hnx, st, E, f1, hst, hsl, H⟩ ih'
    simp (disch := first | omega | (simp only [List.length_set]; omega)) [F30l0, hl, h3, h10, h11, h12]
    by_cases hlt : j < l.length
    · obtain ⟨p, hp⟩ : ∃ p, l[j]? = some p := ⟨l[j], by simp [hlt]⟩
      have hpe : (l.map Pc.enc)[j]? = some p.enc := by simp [hp]
      obtain ⟨nn, hokj⟩ := H.ok
      rw [drop_at hp] at hokj
      have hg8 := (okd_g hokj).1
      obtain ⟨pk, ps⟩ := p
      dsimp only at hg8
      simp (disch := first | omega | (simp only [List.length_set]; omega)) [hlt, hl, h3, h10, h11, h12, hL.elems, hL.at hpe, hpe]
      by_cases k7 : pk = 7
      · subst k7
        simp (disch := first | omega | (simp only [List.length_set]; omega)) [hl, h3, h10, h11, h12, hst.grow]
        refine andI_intro (by omega) ?_
        simp (disch := first | omega | (simp only [List.length_set]; omega)) [hl, h3, h10, h11, h12, hst.grow]
        refine ih' (j + 1) _ _ _ (by omega) ⟨by omega, ?_⟩
        simp (disch := first | omega | (simp only [List.length_set]; omega)) [hl, h3, h10, h11, h12, wrap_id, setL_ne]
        refine ⟨by omega, st ++ [j], E, f1, ?_, by simp; omega, H.push hp rfl⟩
        have := hst.next (τ.next + 1 + 6 + 2 + 2 + 3) (ns := [[.int .i64 j]]) (by simp) (by simp)
        rw [natI_app, ints_app]; exact this
      by_cases k8 : pk = 8
      · subst k8
        obtain ⟨st0, o, rfl⟩ : ∃ st0 o, st = st0 ++ [o] := by
          have hn : st ≠ [] := fun e => by have := hg8 rfl; simp [e] at this
          exact ⟨st.dropLast, st.getLast hn, (List.dropLast_concat_getLast hn).symm⟩
        have hne : ints (natI (st0 ++ [o])) ≠ [] := by simp [ints, natI]
        have hat : (ints (natI (st0 ++ [o])))[st0.length]? = some [.int .i64 o] := by simp [ints, natI]
        obtain ⟨sid, ses, hs1, hs2⟩ := hst.at hat
        have ho := (H.op st0.length o (by simp)).1
        have heo : (ints E)[o]? = some [.int .i64 E[o]!] := by
          have : E[o]? = some E[o]! := by rw [List.getElem!_eq_getElem?_getD, List.getElem?_eq_getElem (by rw [H.el]; omega)]; rfl
          exact nums_at this
        have hat2 : (ints (natI st0) ++ ints [(o : Int)])[st0.length]? = some [.int .i64 o] := by rw [← ints_app]; simpa using hat
        have c1 : IntKind.i64.wrap (st0.length : Int) = st0.length := wrap_id (by omega) (by simp at hsl; omega)
        simp at hsl
        have el1 := elems_boxed f1 H.el
        simp (disch := first | omega | (simp only [List.length_set]; omega)) [hl, h3, h10, h11, h12, hst.len, hst.el hne, c1, hat2, hs1, hs2, heo, el1, f1, setAt_ints]
        refine andI_intro ⟨by omega, fun e he => by rcases he with he | he <;> exact ints_one he⟩ ?_
        simp (disch := first | omega | (simp only [List.length_set]; omega)) [hl, h3, h10, h11, h12, hst.len, hst.el hne, c1, hat2, hs1, hs2, heo, el1, f1, setAt_ints]
        refine ih' (j + 1) _ _ _ (by omega) ⟨by omega, ?_⟩
        simp (disch := first | omega | (simp only [List.length_set]; omega)) [hl, h3, h10, h11, h12, wrap_id, setL_ne]
        refine ⟨by omega, st0, E.set o j, rfl, ?_, by omega, H.pop hp rfl⟩
        have := hst.cut (n := st0.length) (by simp) hne
        simpa using this
      · simp (disch := first | omega | (simp only [List.length_set]; omega)) [k7, k8, hl, h3, h10, h11, h12]
        refine ih' (j + 1) _ _ _ (by omega) ⟨by omega, ?_⟩
        simp (disch := first | omega | (simp only [List.length_set]; omega)) [hl, h3, h10, h11, h12, wrap_id, setL_ne]
        exact ⟨by omega, st, E, f1, hst, by omega, H.step hp k7 k8⟩
    · have : j = l.length := by omega
      subst this
      simp (disch := first | omega | (simp only [List.length_set]; omega)) [hlt, hl, h3, h10, h11, h12]
      have hs0 : st = [] := by
        obtain ⟨nn, hk⟩ := H.ok
        rw [List.drop_of_length_le (Nat.le_refl _)] at hk
        exact List.eq_nil_of_length_eq_zero hk.1
      subst hs0
      exact ⟨by omega, by omega, E, f1, H⟩
  · simp
    refine ⟨[], List.replicate l.length 0, rfl, ⟨.inl ⟨rfl, rfl⟩⟩, rfl, ⟨0, by simpa using hok⟩, by simp, fun k o hk => by simp at hk, fun o p ho => by omega⟩
end Go.Proofs.Ytoeonamjbohokaa.Lt
