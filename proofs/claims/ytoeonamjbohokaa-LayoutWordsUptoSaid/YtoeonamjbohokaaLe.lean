import Derived.Test.YtoeonamjbohokaaLd
/- Laws of layouts, in plain Lean: behind a hard all begins anew, a group of a group. -/
namespace Go.Proofs.Ytoeonamjbohokaa.Lt
open Go.Proofs.YtoeonamjbohokaaW.Abs Go
set_option maxRecDepth 100000
set_option maxHeartbeats 2000000
set_option linter.unusedSimpArgs false
set_option linter.unusedVariables false

/-- behind some pieces, when r follows -/
def sta (w : Int) (r : List Pc) : List Pc → List Bool → Pg → List Bool × Pg
  | [], gs, p => (gs, p)
  | x :: a, gs, p =>
    if x.k = 1 then sta w r a gs (p.put x.s)
    else if x.k = 2 then sta w r a gs (if gs.headD false = true then p.put [32] else p.nl)
    else if x.k = 3 then sta w r a gs (if gs.headD false = true then p else p.nl)
    else if x.k = 4 then sta w r a gs p.nl
    else if x.k = 5 then sta w r a gs { p with nest := p.nest + 1 }
    else if x.k = 6 then sta w r a gs { p with nest := p.nest - 1 }
    else if x.k = 7 then sta w r a ((gs.headD false || fitsAt (x :: (a ++ r)) p.col w) :: gs) p
    else if x.k = 8 then sta w r a gs.tail p
    else sta w r a gs p
theorem run_app (w : Int) (r : List Pc) : ∀ (a : List Pc) (gs : List Bool) (p : Pg), run w (a ++ r) gs p = run w r (sta w r a gs p).1 (sta w r a gs p).2
  | [], gs, p => rfl
  | x :: a, gs, p => by
    rw [List.cons_append, run, sta]
    repeat' split
    all_goals exact run_app w r a _ _
theorem scan_app : ∀ (b c : List Pc) (g m d n : Nat), okd b g m → 1 ≤ d → d ≤ g → scan1 (b ++ c) d n = (scan1 b d n).map fun x => (x.1, x.2 ++ c)
  | [], c, g, m, d, n, h, h1, h2 => by have := h.1; omega
  | p :: b, c, g, m, d, n, h, h1, h2 => by
    obtain ⟨_, m', hk⟩ := okd_g h
    rw [List.cons_append, scan1, scan1]
    split
    · rfl
    · split
      · rfl
      · rename_i hs
        exact scan_app b c _ m' (stp p.k d) _ hk (by omega) (by unfold stp; split; (· omega); split <;> omega)
/-- what follows looks the same to a tail -/
def Tl (c c' : List Pc) : Prop := ∀ x : List Pc, tailS (x ++ c) = tailS (x ++ c')
theorem tl_of {c c' : List Pc} (h : tailS c = tailS c') : Tl c c' := by
  intro x
  induction x with
  | nil => exact h
  | cons p x ih => simp only [List.cons_append, tailS, ih]
theorem fits_tl {w : Int} {c c' : List Pc} (ht : Tl c c') {x : Pc} {a : List Pc} {g m col : Nat} (h7 : x.k = 7) (hk : okd a (g + 1) m) : fitsAt (x :: (a ++ c)) col w = fitsAt (x :: (a ++ c')) col w := by
  have e : ∀ c : List Pc, scan1 (x :: (a ++ c)) 0 col = (scan1 a 1 (col + fw x)).map fun y => (y.1, y.2 ++ c) := fun c => by
    rw [scan1, if_neg (by omega), if_neg (by simp [stp, h7]), show stp x.k 0 = 1 by simp [stp, h7]]
    exact scan_app a c (g + 1) m 1 _ hk (Nat.le_refl _) (by omega)
  unfold fitsAt
  rw [e c, e c']
  cases scan1 a 1 (col + fw x) with
  | none => rfl
  | some y => simp only [Option.map_some]; rw [ht y.2]
/-- only the nearest open group counts -/
theorem sta_cong {w : Int} {c c' : List Pc} (ht : Tl c c') (t : Bool) (u u' : List Bool) : ∀ (a : List Pc) (gs : List Bool) (n : Nat) (p : Pg), okd a gs.length n →
    (sta w c a (gs ++ t :: u) p).2 = (sta w c' a (gs ++ t :: u') p).2 ∧ (sta w c a (gs ++ t :: u) p).1 = t :: u
  | [], gs, n, p, h => by
    have : gs = [] := List.eq_nil_of_length_eq_zero h.1
    subst this; exact ⟨rfl, rfl⟩
  | x :: a, gs, n, p, h => by
    have hh : ∀ u : List Bool, (gs ++ t :: u).headD false = (gs ++ [t]).headD false := fun u => by cases gs <;> rfl
    rw [okd] at h
    rw [sta, sta, hh u, hh u']
    rcases h with ⟨h1, _, h2⟩ | ⟨h1, _, h2⟩ | ⟨h1, _, h2⟩ | ⟨h1, _, _, h2⟩ | ⟨h1, _, h2⟩ | ⟨h1, _, h3, h2⟩
    · simp only [h1]; exact sta_cong ht t u u' a gs n _ h2
    · rcases h1 with h1 | h1 | h1 <;> simp [h1] <;> exact sta_cong ht t u u' a gs n _ h2
    · simp [h1]; exact sta_cong ht t u u' a gs _ _ h2
    · simp [h1]; exact sta_cong ht t u u' a gs _ _ h2
    · simp [h1]
      rw [fits_tl ht h1 h2]
      exact sta_cong ht t u u' a (_ :: gs) n _ (by simpa using h2)
    · simp [h1]
      obtain ⟨b, gs', rfl⟩ : ∃ b gs', gs = b :: gs' := by cases gs with | nil => simp at h3 | cons b r => exact ⟨b, r, rfl⟩
      exact sta_cong ht t u u' a gs' n _ (by simpa using h2)
theorem sta_nest {w : Int} {c : List Pc} : ∀ (a : List Pc) (gs : List Bool) (g n m : Nat) (p : Pg), okd a g n → p.nest = n + m → (sta w c a gs p).2.nest = m
  | [], gs, g, n, m, p, h, hp => by have := h.2; simp only [sta]; omega
  | x :: a, gs, g, n, m, p, h, hp => by
    rw [okd] at h
    rw [sta]
    rcases h with ⟨h1, _, h2⟩ | ⟨h1, _, h2⟩ | ⟨h1, _, h2⟩ | ⟨h1, _, h3, h2⟩ | ⟨h1, _, h2⟩ | ⟨h1, _, h3, h2⟩
    · simp only [h1]; exact sta_nest a gs g n m _ h2 hp
    · rcases h1 with h1 | h1 | h1
      · simp [h1]; exact sta_nest a gs g n m _ h2 (by split <;> exact hp)
      · simp [h1]; exact sta_nest a gs g n m _ h2 (by split <;> exact hp)
      · simp [h1]; exact sta_nest a gs g n m _ h2 hp
    · simp [h1]; exact sta_nest a gs g (n + 1) m _ h2 (by simp only; omega)
    · simp [h1]; exact sta_nest a gs g (n - 1) m _ h2 (by simp only; omega)
    · simp [h1]; exact sta_nest a _ (g + 1) n m _ h2 hp
    · simp [h1]; exact sta_nest a _ (g - 1) n m _ h2 hp
def Pg.pre (s : List UInt8) (p : Pg) : Pg := ⟨s ++ p.s, p.col, p.nest, p.tabs⟩
theorem run_pre (w : Int) (s : List UInt8) : ∀ (l : List Pc) (gs : List Bool) (p : Pg), run w l gs (p.pre s) = (run w l gs p).pre s
  | [], gs, p => rfl
  | x :: l, gs, p => by
    have e1 : ∀ t, (p.pre s).put t = (p.put t).pre s := fun t => by simp [Pg.put, Pg.pre]
    have e2 : (p.pre s).nl = p.nl.pre s := by simp [Pg.nl, Pg.pre]
    have e3 : ({ (p.pre s) with nest := (p.pre s).nest + 1 } : Pg) = Pg.pre s { p with nest := p.nest + 1 } := rfl
    have e4 : ({ (p.pre s) with nest := (p.pre s).nest - 1 } : Pg) = Pg.pre s { p with nest := p.nest - 1 } := rfl
    have e5 : (p.pre s).col = p.col := rfl
    rw [run, run, e1, e1, e2, e3, e4, e5]
    by_cases hg : gs.headD false = true
    · simp only [hg, if_true]; repeat' split
      all_goals exact run_pre w s l _ _
    · simp only [hg]; repeat' split
      all_goals exact run_pre w s l _ _
/-- behind a hard all begins anew -/
theorem joins_law {w : Int} {a y : List Pc} (ha : okd a 0 0) : (run w (a ++ ⟨4, []⟩ :: y) [false] pg0).s = (run w (a ++ [⟨4, []⟩]) [false] pg0).s ++ (run w y [false] pg0).s := by
  have ht : Tl (⟨4, []⟩ :: y) [⟨4, []⟩] := tl_of (by simp [tailS])
  obtain ⟨c1, c2⟩ := sta_cong (w := w) ht false [] [] a [] 0 pg0 ha
  have c3 := (sta_cong (w := w) (c := [⟨4, []⟩]) (c' := [⟨4, []⟩]) (fun _ => rfl) false [] [] a [] 0 pg0 ha).2
  have c4 := sta_nest (w := w) (c := [⟨4, []⟩]) a [false] 0 0 0 pg0 ha rfl
  simp only [List.nil_append] at c1 c2 c3
  rw [run_app, run_app, c1, c2, c3]
  generalize (sta w [⟨4, []⟩] a [false] pg0).2 = p at c4 ⊢
  have e1 : ∀ z : List Pc, run w (⟨4, []⟩ :: z) [false] p = run w z [false] p.nl := fun z => by rw [run]; simp
  rw [e1, e1]
  have e2 : p.nl = Pg.pre (p.s ++ [10]) pg0 := by simp [Pg.nl, Pg.pre, pg0, c4]
  rw [e2, run_pre, run_pre]
  simp [run, Pg.pre, pg0]
theorem scan_full : ∀ (a c : List Pc) (g m d n : Nat), okd a g m → 1 ≤ d → scan1 (a ++ c) (d + g) n = if hardS a = 0 then scan1 c d (n + flatS a) else none
  | [], c, g, m, d, n, h, h1 => by have := h.1; subst this; simp [hardS, flatS]
  | p :: a, c, g, m, d, n, h, h1 => by
    obtain ⟨h8, m', hk⟩ := okd_g h
    rw [List.cons_append, scan1]
    by_cases h4 : p.k = 4
    · rw [if_pos h4, if_neg (by simp [hardS, h4])]
    · have eh : hardS (p :: a) = hardS a := by simp [hardS, h4]
      have ef : flatS (p :: a) = fw p + flatS a := rfl
      have e : stp p.k (d + g) = d + stp p.k g := by
        unfold stp; split; (· omega); split
        · have := h8 ‹_›; omega
        · rfl
      rw [if_neg h4, e, if_neg (by omega), scan_full a c _ m' d _ hk h1, eh, ef]
      simp only [Nat.add_assoc]
theorem okd_add : ∀ (a b : List Pc) (g n g' n' : Nat), okd a g n → okd b g' n' → okd (a ++ b) (g + g') (n + n')
  | [], b, g, n, g', n', h, hb => by obtain ⟨rfl, rfl⟩ := h; simpa using hb
  | p :: a, b, g, n, g', n', h, hb => by
    rw [okd] at h
    rw [List.cons_append, okd]
    rcases h with ⟨h1, h0, h2⟩ | ⟨h1, h0, h2⟩ | ⟨h1, h0, h2⟩ | ⟨h1, h0, h3, h2⟩ | ⟨h1, h0, h2⟩ | ⟨h1, h0, h3, h2⟩
    · exact .inl ⟨h1, h0, okd_add a b _ _ _ _ h2 hb⟩
    · exact .inr (.inl ⟨h1, h0, okd_add a b _ _ _ _ h2 hb⟩)
    · refine .inr (.inr (.inl ⟨h1, h0, ?_⟩))
      have := okd_add a b _ _ _ _ h2 hb
      rwa [show n + 1 + n' = n + n' + 1 by omega] at this
    · refine .inr (.inr (.inr (.inl ⟨h1, h0, by omega, ?_⟩)))
      have := okd_add a b _ _ _ _ h2 hb
      rwa [show n - 1 + n' = n + n' - 1 by omega] at this
    · refine .inr (.inr (.inr (.inr (.inl ⟨h1, h0, ?_⟩))))
      have := okd_add a b _ _ _ _ h2 hb
      rwa [show g + 1 + g' = g + g' + 1 by omega] at this
    · refine .inr (.inr (.inr (.inr (.inr ⟨h1, h0, by omega, ?_⟩))))
      have := okd_add a b _ _ _ _ h2 hb
      rwa [show g - 1 + g' = g + g' - 1 by omega] at this
theorem okd8 : okd [⟨8, []⟩] 1 0 := .inr (.inr (.inr (.inr (.inr ⟨rfl, rfl, by decide, rfl, rfl⟩))))
theorem twice_law {w : Int} {a : List Pc} (ha : okd a 0 0) : (run w (⟨7, []⟩ :: (a ++ [⟨8, []⟩])) [false] pg0).s = (run w (⟨7, []⟩ :: ⟨7, []⟩ :: (a ++ [⟨8, []⟩, ⟨8, []⟩])) [false] pg0).s := by
  have f1 : fitsAt (⟨7, []⟩ :: (a ++ [⟨8, []⟩])) 0 w = (decide (hardS a = 0) && decide ((flatS a : Int) ≤ w)) := by
    unfold fitsAt
    rw [scan1, if_neg (by decide), if_neg (by decide)]
    have := scan_full a [⟨8, []⟩] 0 0 1 (0 + fw ⟨7, []⟩) ha (Nat.le_refl _)
    rw [show stp (7 : Int) 0 = 1 + 0 by decide, this]
    by_cases hh : hardS a = 0 <;> simp [hh, scan1, stp, fw, tailS]
  have f2 : fitsAt (⟨7, []⟩ :: ⟨7, []⟩ :: (a ++ [⟨8, []⟩, ⟨8, []⟩])) 0 w = (decide (hardS a = 0) && decide ((flatS a : Int) ≤ w)) := by
    unfold fitsAt
    rw [scan1, if_neg (by decide), if_neg (by decide), scan1, if_neg (by decide), if_neg (by decide)]
    have := scan_full a [⟨8, []⟩, ⟨8, []⟩] 0 0 2 (0 + fw ⟨7, []⟩ + fw ⟨7, []⟩) ha (by decide)
    rw [show stp (7 : Int) (stp (7 : Int) 0) = 2 + 0 by decide, this]
    by_cases hh : hardS a = 0 <;> simp [hh, scan1, stp, fw, tailS]
  have f3 : fitsAt (⟨7, []⟩ :: (a ++ [⟨8, []⟩, ⟨8, []⟩])) 0 w = (decide (hardS a = 0) && decide ((flatS a : Int) ≤ w)) := by
    rw [← f1]
    have hk8 : okd (a ++ [⟨8, []⟩]) 1 0 := by simpa using okd_add a [⟨8, []⟩] 0 0 1 0 ha okd8
    have := fits_tl (w := w) (c := [⟨8, []⟩]) (c' := []) (tl_of (by simp [tailS])) (x := ⟨7, []⟩) (g := 0) (m := 0) (col := 0) rfl hk8
    simpa using this
  have r1 : ∀ (x : Pc) (l : List Pc) (gs : List Bool) (p : Pg), x.k = 7 → run w (x :: l) gs p = run w l ((gs.headD false || fitsAt (x :: l) p.col w) :: gs) p := fun x l gs p h => by rw [run]; simp [h]
  have c0 : pg0.col = 0 := rfl
  rw [r1 _ _ _ _ rfl, r1 _ _ _ _ rfl, r1 _ _ _ _ rfl, c0, f1, f2, f3]
  generalize (decide (hardS a = 0) && decide ((flatS a : Int) ≤ w)) = b
  have hb : ((((([false] : List Bool).headD false || b) :: [false]) : List Bool).headD false || b) = b := by cases b <;> rfl
  have hb0 : (([false] : List Bool).headD false || b) = b := by cases b <;> rfl
  rw [hb, hb0]
  have r8 : ∀ (gs : List Bool) (p : Pg), run w [⟨8, []⟩] gs p = p := fun gs p => by simp [run]
  have r88 : ∀ (gs : List Bool) (p : Pg), run w [⟨8, []⟩, ⟨8, []⟩] gs p = p := fun gs p => by simp [run]
  rw [run_app, run_app, r8, r88]
  have := (sta_cong (w := w) (c := [⟨8, []⟩]) (c' := [⟨8, []⟩, ⟨8, []⟩]) (tl_of (by simp [tailS])) b [false] [b, false] a [] 0 pg0 ha).1
  simp only [List.nil_append] at this
  rw [this]

/-- the same but for the nest -/
def Sm (p q : Pg) : Prop := p.s = q.s ∧ p.col = q.col ∧ p.tabs = q.tabs
/-- where no break is, a nest changes nothing -/
theorem sta_nobreak {w : Int} {c c' : List Pc} (ht : Tl c c') : ∀ (a : List Pc) (gs : List Bool) (g n : Nat) (p q : Pg), okd a g n → (∀ x ∈ a, ¬ (2 ≤ x.k ∧ x.k ≤ 4)) → Sm p q → Sm (sta w c a gs p).2 (sta w c' a gs q).2
  | [], gs, g, n, p, q, h, hb, hs => hs
  | x :: a, gs, g, n, p, q, h, hb, hs => by
    have hbx := hb x (by simp)
    have hba : ∀ y ∈ a, ¬ (2 ≤ y.k ∧ y.k ≤ 4) := fun y hy => hb y (by simp [hy])
    rw [okd] at h
    rw [sta, sta]
    obtain ⟨s1, s2, s3⟩ := hs
    rcases h with ⟨h1, _, h2⟩ | ⟨h1, _, h2⟩ | ⟨h1, _, h2⟩ | ⟨h1, _, _, h2⟩ | ⟨h1, _, h2⟩ | ⟨h1, _, h3, h2⟩
    · simp only [h1]; exact sta_nobreak ht a gs g n _ _ h2 hba ⟨by simp [Pg.put, s1, s3], by simp [Pg.put, s2], rfl⟩
    · exact absurd ⟨by omega, by omega⟩ hbx
    · simp [h1]; exact sta_nobreak ht a gs g _ _ _ h2 hba ⟨s1, s2, s3⟩
    · simp [h1]; exact sta_nobreak ht a gs g _ _ _ h2 hba ⟨s1, s2, s3⟩
    · simp [h1]
      rw [fits_tl ht h1 h2, s2]
      exact sta_nobreak ht a _ _ n _ _ h2 hba ⟨s1, s2, s3⟩
    · simp [h1]; exact sta_nobreak ht a _ _ n _ _ h2 hba ⟨s1, s2, s3⟩
theorem nest_law {w : Int} {a : List Pc} (ha : okd a 0 0) (hb : ∀ x ∈ a, ¬ (2 ≤ x.k ∧ x.k ≤ 4)) : (run w a [false] pg0).s = (run w (⟨5, []⟩ :: (a ++ [⟨6, []⟩])) [false] pg0).s := by
  have r5 : run w (⟨5, []⟩ :: (a ++ [⟨6, []⟩])) [false] pg0 = run w (a ++ [⟨6, []⟩]) [false] { pg0 with nest := 1 } := by rw [run]; simp [pg0]
  have r6 : ∀ (gs : List Bool) (p : Pg), (run w [⟨6, []⟩] gs p).s = p.s := fun gs p => by simp [run]
  rw [r5, run_app, r6]
  have e : run w a [false] pg0 = run w (a ++ []) [false] pg0 := by simp
  rw [e, run_app]
  have := sta_nobreak (w := w) (c := []) (c' := [⟨6, []⟩]) (tl_of (by simp [tailS])) a [false] 0 0 pg0 { pg0 with nest := 1 } ha hb ⟨rfl, rfl, rfl⟩
  rw [← this.1]; rfl
end Go.Proofs.Ytoeonamjbohokaa.Lt

/- The laws of joins and of groups of groups. -/
namespace Go.Proofs.Ytoeonamjbohokaa.Lt
open Go.Proofs.YtoeonamjbohokaaW.Abs Go
set_option maxRecDepth 100000
set_option maxHeartbeats 4000000
set_option linter.unusedSimpArgs false
set_option linter.unusedVariables false
variable {W0 : World}

def pageN (n : Int) : Int := 1 + (n % 18446744073709551616) % 200
theorem pageN_bd (n : Int) : 1 ≤ pageN n ∧ pageN n ≤ 200 := by unfold pageN; omega
theorem page_spec (n : Int) : PCall Try.prog W0 17 [.int .i64 n] (.int .i64 (pageN n)) := by
  refine pcall2 cok Try.func17 F17d F17e F17c F17w F17r (fun N => ?_)
  refine ev2I_intro ?_
  have h1 : IntKind.u64.wrap n = n % 18446744073709551616 := by rw [IntKind.wrap_u64]
  have h2 : (n % 18446744073709551616).tmod 200 = (n % 18446744073709551616) % 200 := Int.tmod_eq_emod_of_nonneg (by omega)
  have h3 : IntKind.i64.wrap ((n % 18446744073709551616) % 200) = (n % 18446744073709551616) % 200 := wrap_id (by omega) (by omega)
  have h4 : IntKind.i64.wrap (1 + (n % 18446744073709551616) % 200) = pageN n := wrap_id (by omega) (by omega)
  simp [F17s, h1, h2, h3, h4]
theorem layR_page (n : Int) (l : List Pc) : layR (pageN n) l = .tup [.str (run (pageN n) l [false] pg0).s, .int .i64 0] := by
  have := pageN_bd n
  unfold layR; rw [if_neg (by omega)]

theorem hard_plain : plain (piece1 4) = [⟨4, []⟩] := piece1_plain (by decide) (by decide)
theorem okd_hard {a : List Pc} (ha : okd a 0 0) : okd (a ++ [⟨4, []⟩]) 0 0 := okd_add a [⟨4, []⟩] 0 0 0 0 ha (.inr (.inl ⟨by decide, rfl, rfl, rfl⟩))
theorem okd_group {a : List Pc} (ha : okd a 0 0) : okd (⟨7, []⟩ :: (a ++ [⟨8, []⟩])) 0 0 := .inr (.inr (.inr (.inr (.inl ⟨rfl, rfl, by simpa using okd_add a [⟨8, []⟩] 0 0 1 0 ha okd8⟩))))
theorem okd_nest {a : List Pc} (ha : okd a 0 0) : okd (⟨5, []⟩ :: (a ++ [⟨6, []⟩])) 0 0 :=
  .inr (.inr (.inl ⟨rfl, rfl, by simpa using okd_add a [⟨6, []⟩] 0 0 0 1 ha (.inr (.inr (.inr (.inl ⟨rfl, rfl, by decide, rfl, rfl⟩))))⟩))

/-- how long a layout may be -/
theorem run_len (w : Int) (N : Nat) : ∀ (l : List Pc) (gs : List Bool) (p : Pg), p.tabs ≤ N → p.nest + l.length ≤ N → (run w l gs p).s.length ≤ p.s.length + wid l + (N + 1) * l.length
  | [], gs, p, _, _ => by simp [run, wid]
  | x :: l, gs, p, ht, hn => by
    simp only [List.length_cons] at hn
    have ih : ∀ gs (q : Pg) (k : Nat), q.s.length ≤ p.s.length + k → k ≤ x.s.length + 1 + N → q.tabs ≤ N → q.nest ≤ p.nest + 1 → (run w l gs q).s.length ≤ p.s.length + wid (x :: l) + (N + 1) * (x :: l).length := fun gs q k h1 h2 h3 h4 => by
      have := run_len w N l gs q h3 (by omega)
      have e : (N + 1) * (x :: l).length = (N + 1) * l.length + (N + 1) := by rw [List.length_cons, Nat.mul_add, Nat.mul_one]
      rw [e]; simp only [wid]; omega
    have e1 : ∀ t : List UInt8, (p.put t).s.length = p.s.length + (p.tabs + t.length) := fun t => by simp [Pg.put]
    have e2 : p.nl.s.length = p.s.length + 1 := by simp [Pg.nl]
    rw [run]
    have hp1 : (p.put x.s).tabs = 0 ∧ (p.put x.s).nest = p.nest := ⟨rfl, rfl⟩
    have hp2 : (p.put [32]).tabs = 0 ∧ (p.put [32]).nest = p.nest := ⟨rfl, rfl⟩
    have hp3 : p.nl.tabs = p.nest ∧ p.nl.nest = p.nest := ⟨rfl, rfl⟩
    have e3 : ([32] : List UInt8).length = 1 := rfl
    repeat' split
    all_goals first
      | exact ih _ _ (p.tabs + x.s.length) (by rw [e1]; exact Nat.le_refl _) (by omega) (by omega) (by omega)
      | exact ih _ _ (p.tabs + 1) (by rw [e1, e3]; exact Nat.le_refl _) (by omega) (by omega) (by omega)
      | exact ih _ _ 1 (by rw [e2]; exact Nat.le_refl _) (by omega) (by omega) (by omega)
      | exact ih _ _ 0 (Nat.le_refl _) (by omega) ht (by first | omega | (dsimp only; omega))
theorem run_len0 {w : Int} {l : List Pc} (hl : l.length ≤ 2000) (hw : wid l ≤ 3000000) : (run w l [false] pg0).s.length ≤ 100000000 := by
  have := run_len w 2000 l [false] pg0 (by decide) (by simpa [pg0] using hl)
  have h0 : pg0.s.length = 0 := rfl
  omega

theorem layoutJoins_spec (a : T) (hka : bulk a ≤ 1048576) (b : T) (hkb : bulk b ≤ 1048576) (n : Int) (_ : (Lit.int .i64 n).wf = true) : PCall Try.prog W0 6 [.agg a.enc, .agg b.enc, .int .i64 n] (.bool true) := by
  obtain ⟨hoa, hba, hwa, hla⟩ := built_facts hka
  obtain ⟨hob, hbb, hwb, hlb⟩ := built_facts hkb
  refine pcall2 cok Try.func6 F6d F6e F6c F6w F6r (fun N => ?_)
  refine ev2I_intro ?_
  simp [F6s]
  refine hcallI_pure (few_spec a hoa) (by simp) (fun M hM => ?_)
  by_cases hfa : few a = true
  · simp [hfa]
    refine hcallI_pure (few_spec b hob) (by simp) (fun M hM => ?_)
    by_cases hfb : few b = true
    · obtain ⟨hpa, hl1⟩ := few_pieces hfa
      obtain ⟨hpb, hl2⟩ := few_pieces hfb
      rw [← hpa] at hl1
      rw [← hpb] at hl2
      have oka := built_okd a
      have okb := built_okd b
      have hpg := pageN_bd n
      have e1 : plain (row false [built a, piece1 4, built b]) = plain (built a) ++ ⟨4, []⟩ :: plain (built b) := by simp [plainL_row, plainL, hard_plain]
      have e2 : plain (row false [built a, piece1 4]) = plain (built a) ++ [⟨4, []⟩] := by simp [plainL_row, plainL, hard_plain]
      have ok1 : (row false [built a, piece1 4, built b]).ok := row_ok (by simp) (fun x hx => by simp at hx; rcases hx with rfl | rfl | rfl; exact hba; exact piece1_ok 4; exact hbb)
      have ok2 : (row false [built a, piece1 4]).ok := row_ok (by simp) (fun x hx => by simp at hx; rcases hx with rfl | rfl; exact hba; exact piece1_ok 4)
      have o1 : okd (plain (row false [built a, piece1 4, built b])) 0 0 := by
        rw [e1, show plain (built a) ++ (⟨4, []⟩ : Pc) :: plain (built b) = (plain (built a) ++ [⟨4, []⟩]) ++ plain (built b) by simp]
        exact okd_add _ _ 0 0 0 0 (okd_hard oka) okb
      have o2 : okd (plain (row false [built a, piece1 4])) 0 0 := by rw [e2]; exact okd_hard oka
      have l1 : (plain (row false [built a, piece1 4, built b])).length ≤ 2000 := by rw [e1]; simp; omega
      have l2 : (plain (row false [built a, piece1 4])).length ≤ 2000 := by rw [e2]; simp; omega
      have w1 : wid (plain (row false [built a, piece1 4, built b])) ≤ 3000000 := by rw [e1, wid_app]; simp [wid]; omega
      have w2 : wid (plain (row false [built a, piece1 4])) ≤ 3000000 := by rw [e2, wid_app]; simp [wid]; omega
      have jl := joins_law (w := pageN n) (y := plain (built b)) oka
      simp [hfb]
      refine andI_intro (by dsimp only at *; omega) ?_
      simp
      refine pcallI_pure' (built_spec a hoa) (by simp) ?_
      simp
      refine andI_intro (by dsimp only at *; omega) ?_
      simp
      refine pcallI_pure' (built_spec b hob) (by simp) ?_
      simp
      intro M3 hM3
      refine pcallI_pure' hard_spec rfl ?_
      simp
      refine andI_intro (by omega) ?_
      simp
      repeat (refine andI_intro (by omega) ?_; simp)
      refine pcallI_pure' (row_spec false [built a, piece1 4, built b] (by simp)) (by simp) ?_
      simp
      refine pcallI_pure' (page_spec n) rfl ?_
      simp
      refine pcallI_pure' (layOf_spec _ ok1 l1 w1 o1 (pageN n)) (by simp) ?_
      rw [layR_page, e1, jl]
      simp
      intro M4 hM4
      refine pcallI_pure' hard_spec rfl ?_
      simp
      repeat (refine andI_intro (by omega) ?_; simp)
      refine pcallI_pure' (row_spec false [built a, piece1 4] (by simp)) (by simp) ?_
      simp
      refine pcallI_pure' (page_spec n) rfl ?_
      simp
      refine pcallI_pure' (layOf_spec _ ok2 l2 w2 o2 (pageN n)) (by simp) ?_
      rw [layR_page, e2]
      simp
      intro M5 hM5
      refine pcallI_pure' (page_spec n) rfl ?_
      simp
      repeat (refine andI_intro (by omega) ?_; simp)
      refine pcallI_pure' (layOf_spec _ hbb (by omega) (by omega) okb (pageN n)) (by simp) ?_
      rw [layR_page]
      simp
      intro M6 hM6
      refine hcallI_pure known_spec rfl (fun M7 hM7 => ?_)
      simp
      have r1 := run_len0 (w := pageN n) l2 w2
      have r2 := run_len0 (w := pageN n) (l := plain (built b)) (by omega) (by omega)
      rw [e2] at r1
      refine andI_intro (by omega) ?_
      simp
    · simp [hfb]
      refine hcallI_pure known_spec rfl (fun M hM => ?_)
      simp
  · simp [hfa]
    refine hcallI_pure known_spec rfl (fun M hM => ?_)
    simp

theorem nob_loop {K : KC2} {hs : Hints} {l : List Pc} {L w1 w5 w6 w7 w8 w9 : AV} (hL : IsRow L (l.map Pc.enc)) (hll : l.length ≤ 1000000) {lc1 : LC} (N0 : Nat)
    (hK : ∀ ts loc (τ : Heap), ts.length = 110 → tmp ts 1 = w1 → tmp ts 5 = w5 → tmp ts 6 = w6 → tmp ts 7 = w7 → tmp ts 8 = w8 → tmp ts 9 = w9 → tmp ts 11 = .bool (l.any fun x => decide (2 ≤ x.k) && decide (x.k ≤ 4)) → loc 1 = lc1 → N0 ≤ τ.next → K.k (.exit 0) ts loc τ)
    (ts : List AV) (loc : Go.Proofs.YtoeonamjbohokaaW.Abs.Loc) (τ : Heap) (hl : ts.length = 110) (h1 : tmp ts 1 = w1) (h5 : tmp ts 5 = w5) (h6 : tmp ts 6 = w6) (h7 : tmp ts 7 = w7) (h8 : tmp ts 8 = w8) (h9 : tmp ts 9 = w9) (h10 : tmp ts 10 = L) (h11 : tmp ts 11 = .bool false) (h12 : tmp ts 12 = .int .i64 0) (hc : loc 1 = lc1) (hn : N0 ≤ τ.next) : loop2I Try.prog W0 C hs F7l0 ts loc τ := by
  refine loop2I_ind cok F7l0w (m := fun i => l.length - i) (I := fun i ts loc τ => i ≤ l.length ∧ ts.length = 110 ∧ tmp ts 1 = w1 ∧ tmp ts 5 = w5 ∧ tmp ts 6 = w6 ∧ tmp ts 7 = w7 ∧ tmp ts 8 = w8 ∧ tmp ts 9 = w9 ∧ tmp ts 10 = L ∧ tmp ts 12 = .int .i64 i ∧ loc 1 = lc1 ∧ N0 ≤ τ.next ∧
    ∃ b, tmp ts 11 = .bool b ∧ (b || (l.drop i).any fun x => decide (2 ≤ x.k) && decide (x.k ≤ 4)) = l.any fun x => decide (2 ≤ x.k) && decide (x.k ≤ 4)) ?_ 0 ⟨by omega, hl, h1, h5, h6, h7, h8, h9, h10, by simpa using h12, hc, hn, false, h11, by simp⟩
  clear hl h1 h5 h6 h7 h8 h9 h10 h11 h12 hc hn ts loc τ
  rintro i ts loc τ ⟨hi, hl, h1, h5, h6, h7, h8, h9, h10, h12, hc, hn, b, h11, hb⟩ ih'
  simp (disch := first | omega | (simp only [List.length_set]; omega)) [F7l0, hl, h10, h12, hL.len]
  by_cases hlt : i < l.length
  · obtain ⟨q, hq⟩ : ∃ q, l[i]? = some q := ⟨l[i], by simp [hlt]⟩
    have hqe : (l.map Pc.enc)[i]? = some q.enc := by simp [hq]
    rw [drop_at hq, List.any_cons] at hb
    obtain ⟨qk, qs⟩ := q
    dsimp only at hb
    have go : ∀ (ts' : List AV) (loc' : Go.Proofs.YtoeonamjbohokaaW.Abs.Loc) (τ' : Heap) (b' : Bool), ts'.length = 110 → tmp ts' 1 = tmp ts 1 → tmp ts' 5 = tmp ts 5 → tmp ts' 6 = tmp ts 6 → tmp ts' 7 = tmp ts 7 → tmp ts' 8 = tmp ts 8 → tmp ts' 9 = tmp ts 9 → tmp ts' 10 = tmp ts 10 → tmp ts' 12 = .int .i64 ((i + 1 : Nat) : Int) → loc' 1 = lc1 → N0 ≤ τ'.next → tmp ts' 11 = .bool b' → b' = (b || (decide (2 ≤ qk) && decide (qk ≤ 4))) → loop2I Try.prog W0 C hs F7l0 ts' loc' τ' := by
      intro ts' loc' τ' b' g0 g1 g5 g6 g7 g8 g9 g10 g12 gc gn g11 gb
      exact ih' (i + 1) _ _ _ (by omega) ⟨by omega, g0, g1.trans h1, g5.trans h5, g6.trans h6, g7.trans h7, g8.trans h8, g9.trans h9, g10.trans h10, g12, gc, gn, b', g11, by rw [gb, ← hb, Bool.or_assoc]⟩
    clear ih' hK
    have fin : ∀ b', b' = (b || (decide (2 ≤ qk) && decide (qk ≤ 4))) → b' = (b || (decide (2 ≤ qk) && decide (qk ≤ 4))) := fun _ h => h
    cases b with
    | true =>
      simp (disch := first | omega | (simp only [List.length_set]; omega)) [hlt, hl, h10, h11, h12, hL.elems, hL.at hqe, hqe]
      refine go _ _ _ true ?_ ?_ ?_ ?_ ?_ ?_ ?_ ?_ ?_ ?_ ?_ ?_ ?_
      · simp [hl]
      all_goals first | (dsimp only at *; omega) | simp (disch := first | omega | (simp only [List.length_set]; omega)) [hl, h10, h11, h12, hc, wrap_id]
    | false =>
      by_cases c2 : 2 ≤ qk
      · by_cases c4 : qk ≤ 4
        · simp (disch := first | omega | (simp only [List.length_set]; omega)) [hlt, hl, h10, h11, h12, hL.elems, hL.at hqe, hqe, c2, c4]
          refine go _ _ _ true ?_ ?_ ?_ ?_ ?_ ?_ ?_ ?_ ?_ ?_ ?_ ?_ ?_
          · simp [hl]
          all_goals first | (dsimp only at *; omega) | simp (disch := first | omega | (simp only [List.length_set]; omega)) [hl, h10, h11, h12, hc, wrap_id, c2, c4]
        · simp (disch := first | omega | (simp only [List.length_set]; omega)) [hlt, hl, h10, h11, h12, hL.elems, hL.at hqe, hqe, c2, c4]
          refine go _ _ _ false ?_ ?_ ?_ ?_ ?_ ?_ ?_ ?_ ?_ ?_ ?_ ?_ ?_
          · simp [hl]
          all_goals first | (dsimp only at *; omega) | simp (disch := first | omega | (simp only [List.length_set]; omega)) [hl, h10, h11, h12, hc, wrap_id, c2, c4]
      · simp (disch := first | omega | (simp only [List.length_set]; omega)) [hlt, hl, h10, h11, h12, hL.elems, hL.at hqe, hqe, c2]
        refine go _ _ _ false ?_ ?_ ?_ ?_ ?_ ?_ ?_ ?_ ?_ ?_ ?_ ?_ ?_
        · simp [hl]
        all_goals first | (dsimp only at *; omega) | simp (disch := first | omega | (simp only [List.length_set]; omega)) [hl, h10, h11, h12, hc, wrap_id, c2]
  · simp (disch := first | omega | (simp only [List.length_set]; omega)) [hlt, hl, h10, h12]
    rw [List.drop_of_length_le (by omega)] at hb
    simp at hb
    exact hK _ _ _ (by simp [hl]) (by simp (disch := first | omega | (simp only [List.length_set]; omega)) [h1]) (by simp (disch := first | omega | (simp only [List.length_set]; omega)) [h5]) (by simp (disch := first | omega | (simp only [List.length_set]; omega)) [h6]) (by simp (disch := first | omega | (simp only [List.length_set]; omega)) [h7]) (by simp (disch := first | omega | (simp only [List.length_set]; omega)) [h8]) (by simp (disch := first | omega | (simp only [List.length_set]; omega)) [h9]) (by simp (disch := first | omega | (simp only [List.length_set]; omega)) [h11, hb]) hc (by dsimp only; omega)

theorem layoutTwice_spec (t : T) (hbk : bulk t ≤ 1048576) (n : Int) (_ : (Lit.int .i64 n).wf = true) : PCall Try.prog W0 7 [.agg t.enc, .int .i64 n] (.bool true) := by
  obtain ⟨hot, hbt, hwt, hlt⟩ := built_facts hbk
  refine pcall2 cok Try.func7 F7d F7e F7c F7w F7r (fun N => ?_)
  refine ev2I_intro ?_
  simp [F7s]
  refine hcallI_pure (few_spec t hot) (by simp) (fun M hM => ?_)
  by_cases hft : few t = true
  · obtain ⟨hp, hl⟩ := few_pieces hft
    rw [← hp] at hl
    have hok := built_okd t
    have hpg := pageN_bd n
    have e1 : plain (group (group (built t))) = ⟨7, []⟩ :: ⟨7, []⟩ :: (plain (built t) ++ [⟨8, []⟩, ⟨8, []⟩]) := by simp [group_plain]
    have o1 : okd (plain (group (built t))) 0 0 := by rw [group_plain]; exact okd_group hok
    have o2 : okd (plain (group (group (built t)))) 0 0 := by rw [group_plain]; exact okd_group o1
    have o3 : okd (plain (nest (built t))) 0 0 := by rw [nest_plain]; exact okd_nest hok
    have l1 : (plain (group (built t))).length ≤ 2000 := by rw [group_plain]; simp; omega
    have l2 : (plain (group (group (built t)))).length ≤ 2000 := by rw [e1]; simp; omega
    have l3 : (plain (nest (built t))).length ≤ 2000 := by rw [nest_plain]; simp; omega
    have w1 : wid (plain (group (built t))) ≤ 3000000 := by rw [group_plain]; simp [wid, wid_app]; omega
    have w2 : wid (plain (group (group (built t)))) ≤ 3000000 := by rw [e1]; simp [wid, wid_app]; omega
    have w3 : wid (plain (nest (built t))) ≤ 3000000 := by rw [nest_plain]; simp [wid, wid_app]; omega
    have tl := twice_law (w := pageN n) hok
    have nl := nest_law (w := pageN n) hok
    simp [hft]
    refine hcallI_pure (built_spec t hot) (by simp) (fun M hM => ?_)
    simp
    refine hcallI_pure (group_spec (built t)) (by simp) (fun M hM => ?_)
    simp
    refine hcallI_pure (page_spec n) (by simp) (fun M hM => ?_)
    simp
    refine hcallI_pure (layOf_spec _ (group_ok hbt) l1 w1 o1 (pageN n)) (by simp) (fun M hM => ?_)
    rw [layR_page, group_plain, tl]
    simp
    refine hcallI_pure (group_spec (built t)) (by simp) (fun M hM => ?_)
    simp
    refine hcallI_pure (group_spec (group (built t))) (by simp) (fun M hM => ?_)
    simp
    refine hcallI_pure (page_spec n) (by simp) (fun M hM => ?_)
    simp
    refine hcallI_pure (layOf_spec _ (group_ok (group_ok hbt)) l2 w2 o2 (pageN n)) (by simp) (fun M hM => ?_)
    rw [layR_page, e1]
    simp
    refine hcallI_pure (plain_spec (built t) hbt (by omega)) (by simp) (fun M hM => ?_)
    simp
    refine nob_loop (l := plain (built t)) (IsRow.rowV _) (by omega) _ ?_ _ _ _ (by simp) rfl rfl rfl rfl rfl rfl rfl rfl rfl rfl (Nat.le_refl _)
    intro ts loc τ gl g1 g5 g6 g7 g8 g9 g11 gc gn
    dsimp only at gn
    simp at g1 g5 g6 g7 g8 g9 gc
    simp (disch := first | omega | (simp only [List.length_set]; omega)) [g1, g5, g6, g7, g8, g9, g11, gc]
    refine pcallI_pure' (page_spec n) (by simp) ?_
    simp (disch := first | omega | (simp only [List.length_set]; omega)) [g1, g5, g6, g7, g8, g9, g11, gc]
    refine andI_intro (by dsimp only at *; omega) ?_
    simp (disch := first | omega | (simp only [List.length_set]; omega)) [g1, g5, g6, g7, g8, g9, g11, gc]
    refine pcallI_pure' (layOf_spec _ hbt (by omega) (by omega) hok (pageN n)) (by simp) ?_
    rw [layR_page]
    simp (disch := first | omega | (simp only [List.length_set]; omega)) [g1, g5, g6, g7, g8, g9, g11, gc]
    intro M5 hM5
    refine hcallI_pure (nest_spec (built t)) (by simp) (fun M6 hM6 => ?_)
    simp (disch := first | omega | (simp only [List.length_set]; omega)) [g1, g5, g6, g7, g8, g9, g11, gc]
    refine hcallI_pure (page_spec n) (by simp) (fun M7 hM7 => ?_)
    simp (disch := first | omega | (simp only [List.length_set]; omega)) [g1, g5, g6, g7, g8, g9, g11, gc]
    refine hcallI_pure (layOf_spec _ (nest_ok hbt) l3 w3 o3 (pageN n)) (by simp) (fun M8 hM8 => ?_)
    rw [layR_page, nest_plain]
    simp (disch := first | omega | (simp only [List.length_set]; omega)) [g1, g5, g6, g7, g8, g9, g11, gc]
    refine hcallI_pure known_spec rfl (fun M9 hM9 => ?_)
    simp (disch := first | omega | (simp only [List.length_set]; omega)) [g1, g5, g6, g7, g8, g9, g11, gc]
    by_cases hbr : ((plain (built t)).any fun x => decide (2 ≤ x.k) && decide (x.k ≤ 4)) = true
    · simp (disch := first | omega | (simp only [List.length_set]; omega)) [hbr, g1, g5, g6, g7, g8, g9, g11, gc]
    · have hno : ∀ x ∈ plain (built t), ¬ (2 ≤ x.k ∧ x.k ≤ 4) := fun x hx hc => hbr (List.any_eq_true.2 ⟨x, hx, by simp [hc.1, hc.2]⟩)
      have := nl hno
      simp (disch := first | omega | (simp only [List.length_set]; omega)) [hbr, g1, g5, g6, g7, g8, g9, g11, gc, this]
  · simp [hft]
    refine hcallI_pure known_spec rfl (fun M hM => ?_)
    simp
end Go.Proofs.Ytoeonamjbohokaa.Lt
