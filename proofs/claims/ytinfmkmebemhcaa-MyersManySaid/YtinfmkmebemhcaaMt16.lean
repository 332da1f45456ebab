/- MyersMany: long rows. -/
import Derived.Test.YtinfmkmebemhcaaMt9
import Derived.Test.YtinfmkmebemhcaaA25
namespace Go.Proofs.Ytinfmkmebemhcaa.Lt
open Go.Proofs.YtinfmkmebemhcaaW.Abs Go
set_option maxRecDepth 100000
set_option maxHeartbeats 4000000
set_option linter.unusedSimpArgs false
set_option linter.unusedVariables false
variable {W0 : World}

def sevens (n : Nat) : List Int := (List.range n).map fun (q : Nat) => (q : Int) % 7
@[simp] theorem sevens_len (n : Nat) : (sevens n).length = n := by simp [sevens]
theorem sevens_at (n q : Nat) (h : q < n) : (sevens n)[q]? = some ((q : Int) % 7) := by simp [sevens, h]

theorem many_l0 {K : KC2} {hs : Hints} {n P : Nat} {w1 w2 : AV} (hn : n ≤ 1000000) {h0 : Hp} {n0 : Nat}
    (hK : ∀ ts loc (τ : Heap), ts.length = 92 → tmp ts 0 = .int .i64 (n : Int) → tmp ts 1 = w1 → tmp ts 2 = w2 → tmp ts 7 = .sl P 0 n → P < τ.next → n0 ≤ τ.next → (∀ q, q ≠ P → τ.obj q = h0 q) → τ.obj P = some (.box 3 (ints (sevens n))) → K.k (.exit 0) ts loc τ)
    (ts : List AV) (loc : Go.Proofs.YtinfmkmebemhcaaW.Abs.Loc) (τ : Heap) (gl : ts.length = 92) (g0 : tmp ts 0 = .int .i64 (n : Int)) (g1 : tmp ts 1 = w1) (g2 : tmp ts 2 = w2) (g7 : tmp ts 7 = .sl P 0 n) (g8 : tmp ts 8 = .int .i64 0) (nP : P < τ.next) (nn : n0 ≤ τ.next) (ho : ∀ q, q ≠ P → τ.obj q = h0 q) (F0 : List Int) (hb : τ.obj P = some (.box 3 (ints F0))) (hF0 : F0.length = n) :
    loop2I Try.prog W0 C hs F7l0 ts loc τ := by
  refine loop2I_ind cok F7l0w (m := fun j => n - j) (I := fun j ts loc τ => j ≤ n ∧ ts.length = 92 ∧ tmp ts 0 = .int .i64 (n : Int) ∧ tmp ts 1 = w1 ∧ tmp ts 2 = w2 ∧ tmp ts 7 = .sl P 0 n ∧ tmp ts 8 = .int .i64 (j : Int) ∧ P < τ.next ∧ n0 ≤ τ.next ∧ (∀ q, q ≠ P → τ.obj q = h0 q) ∧ ∃ F, τ.obj P = some (.box 3 (ints F)) ∧ F.length = n ∧ ∀ q, q < j → F[q]? = some ((q : Int) % 7)) ?_ 0
    ⟨by omega, gl, g0, g1, g2, g7, by simpa using g8, nP, nn, ho, F0, hb, hF0, fun q hq => by omega⟩
  clear gl g0 g1 g2 g7 g8 nP nn ho hb hF0 F0 ts loc τ
  rintro j ts loc τ ⟨hj, gl, g0, g1, g2, g7, g8, nP, nn, ho, F, hb, hF, hq⟩ ih'
  simp (disch := first | omega | (simp only [List.length_set]; omega)) [F7l0, gl, g0, g8]
  by_cases hlt : j < n
  · have eF := elems_boxed (n := n) hb hF
    have t7 : ((j : Int)).tmod 7 = (j : Int) % 7 := Int.tmod_eq_emod_of_nonneg (by omega)
    have w7 : IntKind.i64.wrap ((j : Int) % 7) = (j : Int) % 7 := wrap_id (by omega) (by omega)
    obtain ⟨z, hz⟩ : ∃ z, F[j]? = some z := ⟨F[j]'(by omega), List.getElem?_eq_getElem _⟩
    have ez := nums_at hz
    simp (disch := first | omega | (simp only [List.length_set]; omega)) [hlt, gl, g0, g7, g8, eF, hb, ez, hF, t7, w7, setAt_ints]
    refine ih' (j + 1) _ _ _ (by omega) ⟨by omega, ?_⟩
    simp (disch := first | omega | (simp only [List.length_set]; omega)) [gl, g0, g1, g2, g7, g8, wrap_id]
    refine ⟨by omega, by omega, fun q h => by rw [upd_ne h]; exact ho q h, F.set j ((j : Int) % 7), rfl, by simp [hF], fun q h => ?_⟩
    rw [List.getElem?_set]
    by_cases e : j = q
    · subst e; rw [if_pos rfl, if_pos (by omega)]
    · rw [if_neg e]; exact hq q (by omega)
  · simp (disch := first | omega | (simp only [List.length_set]; omega)) [hlt, gl]
    have e : F = sevens n := by
      apply List.ext_getElem?
      intro q
      by_cases h : q < n
      · rw [hq q (by omega), sevens_at n q h]
      · rw [List.getElem?_eq_none (by omega), List.getElem?_eq_none (by simp; omega)]
    rw [e] at hb
    exact hK _ _ _ (by simp [gl]) (by simp (disch := first | omega | (simp only [List.length_set]; omega)) [g0]) (by simp (disch := first | omega | (simp only [List.length_set]; omega)) [g1]) (by simp (disch := first | omega | (simp only [List.length_set]; omega)) [g2]) (by simp (disch := first | omega | (simp only [List.length_set]; omega)) [g7]) (by dsimp only; omega) (by dsimp only; omega) ho hb

/-- what myers.Of hands back, whatever the lengths -/
def ofR (a b : List Int) : AV := if 20000 < a.length ∨ 20000 < b.length then .tup [.nils, .int .i64 2] else .tup [rowV (prs (np (hvO a b 0 0))), .int .i64 0]
theorem of_any {A B : AV} {a b : List Int} (hA : IsRow A (ints a)) (hB : IsRow B (ints b)) : PCall Try.prog W0 10 [A, B] (ofR a b) := by
  unfold ofR
  split
  · rename_i h; exact of_long hA hB h
  · rename_i h; exact of_spec hA hB (by omega) (by omega)
theorem ints_slice (l : List Int) (st n : Nat) : ((ints l).drop st).take n = ints ((l.drop st).take n) := by simp [ints, List.map_drop, List.map_take]
theorem of_rows {R : RC} {P st n Q st2 n2 N : Nat} {h : Hp} {a b : List Int} (hP : h P = some (.froz (ints a))) (hQ : h Q = some (.froz (ints b))) (h1 : st + n ≤ a.length) (h2 : st2 + n2 ≤ b.length)
    (hR : ∀ m, N ≤ m → R.r (.ret (ofR ((a.drop st).take n) ((b.drop st2).take n2))) ⟨m, h⟩) : HCalls Try.prog W0 10 [.sl P st n, .sl Q st2 n2] ⟨N, h⟩ R.r := by
  refine HCalls.rows ?_
  simp only [List.map_cons, List.map_nil]
  rw [asRow_froz hP (by simpa using h1), asRow_froz hQ (by simpa using h2), ints_slice, ints_slice]
  exact PCall.hcalls (of_any (IsRow.row _) (IsRow.row _)) hR
theorem cut_all {l : List Int} {n : Nat} (h : l.length = n) : (l.drop 0).take n = l := by rw [List.drop_zero]; exact List.take_of_length_le (by omega)
theorem elems_froz {h : Hp} {P n : Nat} {a : List Int} (hP : h P = some (.froz (ints a))) (hn : a.length = n) : elems h (.sl P 0 n) = some (ints a) := by
  simp only [elems, hP]; simp [hn]
  exact List.take_of_length_le (by simp; omega)
theorem many_n (x : Int) : ∃ c : Nat, IntKind.i64.wrap (19990 + IntKind.i64.wrap ((IntKind.u64.wrap x).tmod 20)) = (c : Int) ∧ 19990 ≤ c ∧ c < 20010 := by
  have e1 : IntKind.u64.wrap x = x % 18446744073709551616 := by rw [IntKind.wrap_u64]
  have e2 : IntKind.i64.wrap ((x % 18446744073709551616) % 20) = (x % 18446744073709551616) % 20 := wrap_id (by omega) (by omega)
  rw [e1, Int.tmod_eq_emod_of_nonneg (by omega), e2, wrap_id (by omega) (by omega)]
  refine ⟨(19990 + (x % 18446744073709551616) % 20).toNat, by omega, by omega, by omega⟩
theorem many_k (x : Int) (c : Nat) (h1 : 19990 ≤ c) (h2 : c < 20010) : ∃ k : Nat, IntKind.i64.wrap ((IntKind.u64.wrap x).tmod (IntKind.u64.wrap (c : Int))) = (k : Int) ∧ k < c := by
  have e1 : IntKind.u64.wrap x = x % 18446744073709551616 := by rw [IntKind.wrap_u64]
  have e2 : IntKind.u64.wrap (c : Int) = (c : Int) := by rw [IntKind.wrap_u64]; omega
  rw [e1, e2, Int.tmod_eq_emod_of_nonneg (by omega)]
  have := Int.emod_nonneg (x % 18446744073709551616) (show (c : Int) ≠ 0 by omega)
  have := Int.emod_lt_of_pos (x % 18446744073709551616) (show (0 : Int) < c by omega)
  rw [wrap_id (by omega) (by omega)]
  exact ⟨((x % 18446744073709551616) % (c : Int)).toNat, by omega, by omega⟩

theorem myersMany_spec (n : Int) (_ : (Lit.int .i64 n).wf = true) (at_ : Int) (_ : (Lit.int .i64 at_).wf = true) (second : Bool) : PCall Try.prog W0 7 [.int .i64 n, .int .i64 at_, .bool second] (.bool true) := by
  refine pcall2 cok Try.func7 F7d F7e F7c F7w F7r (fun N => ?_)
  refine ev2I_intro ?_
  obtain ⟨c, hc, hc1, hc2⟩ := many_n n
  obtain ⟨k, hk, hkc⟩ := many_k at_ c hc1 hc2
  have hc0 : ¬ IntKind.u64.wrap (c : Int) = 0 := by rw [IntKind.wrap_u64]; omega
  simp (disch := first | omega | (simp only [List.length_set]; omega)) [F7s, hc]
  refine andI_intro (by omega) ?_
  simp (disch := first | omega | (simp only [List.length_set]; omega)) [hc]
  have hrep : List.replicate c [AV.int .i64 0] = ints (List.replicate c 0) := by simp [ints]
  rw [hrep]
  refine many_l0 (n := c) (P := N + 1 + 6 + 1) (w1 := .int .i64 at_) (w2 := .bool second) (h0 := fun _ => none) (n0 := N + 8) (by omega) ?_ _ _ _ (by rfl) (by rfl) (by rfl) (by rfl) (by rfl) (by rfl) (by dsimp only; omega) (by dsimp only; omega) (fun q h => by dsimp only; rw [upd_ne h]) (List.replicate c 0) (by simp) (by simp)
  intro ts loc τ gl g0 g1 g2 g7 nP nn ho hbP
  obtain ⟨P, hPe⟩ : ∃ P, P = N + 1 + 6 + 1 := ⟨_, rfl⟩
  rw [← hPe] at g7 nP ho hbP
  obtain ⟨a, hae⟩ : ∃ a, a = sevens c := ⟨_, rfl⟩
  have ha : a.length = c := by rw [hae]; simp
  rw [← hae] at hbP
  have hne : ints a ≠ [] := fun q => by have := congrArg List.length q; simp at this; rw [this] at ha; simp at ha; omega
  have eP : srcElems (upd τ.obj τ.next (some .nocap)) (.sl P 0 c) = some (ints a) := by
    simp only [srcElems]
    rw [elems_upd_ne (by omega)]; exact elems_boxed hbP ha
  simp (disch := first | omega | (simp only [List.length_set]; omega)) [gl, g0, g1, g2, g7]
  have g := fun ts hx hy => grow_new (id := τ.next + 2) (ts := ts) (h := upd τ.obj τ.next (some .nocap)) (ty := 3) (s := 1) (b := 8) (x := .t 32) (y := .t 33) (t := τ.next) (ns := ints a) hx (by simp) hy hne (fun e he => ints_one he) (by simp; omega) (by simp; omega)
  refine andI_intro (g _ ?_ ?_).1 ?_
  · simp (disch := first | omega | (simp only [List.length_set]; omega)) [gl]
  · simp (disch := first | omega | (simp only [List.length_set]; omega)) [gl, eP]
  dsimp only
  rw [(g _ ?_ ?_).2.1, (g _ ?_ ?_).2.2]
  rotate_left
  · simp (disch := first | omega | (simp only [List.length_set]; omega)) [gl]
  · simp (disch := first | omega | (simp only [List.length_set]; omega)) [gl, eP]
  · simp (disch := first | omega | (simp only [List.length_set]; omega)) [gl]
  · simp (disch := first | omega | (simp only [List.length_set]; omega)) [gl, eP]
  clear g eP hne
  obtain ⟨Q, hQe⟩ : ∃ Q, Q = τ.next + 2 := ⟨_, rfl⟩
  rw [← hQe]
  have hPQ : P ≠ Q := by omega
  have hQP : Q ≠ P := by omega
  generalize hh : upd (upd (upd τ.obj τ.next (some .nocap)) τ.next none) Q (some (.box 3 (ints a))) = h0
  have p1 : h0 P = some (.box 3 (ints a)) := by rw [← hh, upd_ne hPQ, upd_ne (by omega), upd_ne (by omega)]; exact hbP
  have p2 : h0 Q = some (.box 3 (ints a)) := by rw [← hh]; simp
  clear hh
  have eQ := elems_boxed (n := c) p2 ha
  obtain ⟨z, hz⟩ : ∃ z, a[k]? = some z := ⟨a[k]'(by omega), List.getElem?_eq_getElem _⟩
  have ez := nums_at hz
  have ez' : ∀ h : k < (ints a).length, (ints a)[k]'h = [.int .i64 z] := fun h => by rw [List.getElem?_eq_getElem h] at ez; exact Option.some.inj ez
  have hl : (ints a).length = c := by simp [ha]
  simp (disch := first | omega | (simp only [List.length_set]; omega)) [gl, g0, g1, g2, g7, ha, hk, hc0, p2, eQ, ez, ez', setAt_ints]
  have hb : (a.set k 9).length = c := by simp [ha]
  have hlc : lcs a (a.set k 9) = c - 1 := by
    rw [lcs_set (by omega) (by rw [hae, sevens_at c k hkc]; simp; omega), ha]
  have hlc2 : lcs (a.set k 9) a = c - 1 := by rw [lcs_comm]; exact hlc
  generalize hh : upd h0 Q (some (.box 3 (ints (a.set k 9)))) = h2
  have sP : h2 P = some (.box 3 (ints a)) := by rw [← hh, upd_ne hPQ]; exact p1
  have sQ : h2 Q = some (.box 3 (ints (a.set k 9))) := by rw [← hh]; simp
  generalize a.set k 9 = b at hb hlc hlc2 sQ hh
  clear hh eQ p1 p2 hrep
  cases second
  · simp (disch := first | omega | (simp only [List.length_set]; omega)) [gl, g0, g1, g2, g7]
    unfold hcallI
    refine HCalls.settle (id := P) (ty := 3) (es := ints a) sP ?_
    refine HCalls.settle (id := Q) (ty := 3) (es := ints b) (by rw [upd_ne hQP]; exact sQ) ?_
    generalize hh : upd (upd h2 P (some (.froz (ints a)))) Q (some (.froz (ints b))) = h1
    have z1 : h1 P = some (.froz (ints a)) := by rw [← hh, upd_ne hPQ]; simp
    have z2 : h1 Q = some (.froz (ints b)) := by rw [← hh]; simp
    clear hh
    refine of_rows z1 z2 (by simp [ha, hb]) (by simp [ha, hb]) (fun m1 hm1 => ?_)
    rw [cut_all (l := a) (by simp [ha, hb]), cut_all (l := b) (by simp [ha, hb])]
    have s5 : slOk h1 1 (.sl P 0 c) 0 fun _ => (5 : Int) := by
      have := elems_froz z1 (n := c) (by simp [ha, hb])
      simp only [slOk, lenOf, this]
      exact ⟨by omega, by omega, by omega, fun e he => ints_one he⟩
    by_cases hbig : 20000 < c
    · have hbig' : (20000 : Int) < (c : Int) := by omega
      have r1 : ofR a b = .tup [.nils, .int .i64 2] := by rw [ofR, if_pos (.inl (by simp [ha, hb]; omega))]
      rw [r1]
      simp (disch := first | omega | (simp only [List.length_set]; omega)) [gl, g0, g1, g2, g7, s5]
      unfold hcallI
      refine of_rows (st := 0) (n := 5) (st2 := 0) (n2 := c) z1 z2 (by simp only [ha, hb]; omega) (by simp only [ha, hb]; omega) (fun m2 hm2 => ?_)
      rw [cut_all (l := b) (by simp [ha, hb])]
      have r2 : ofR ((a.drop 0).take 5) b = .tup [.nils, .int .i64 2] := by rw [ofR, if_pos (.inr (by simp [ha, hb]; omega))]
      rw [r2]
      simp (disch := first | omega | (simp only [List.length_set]; omega)) [gl, g0, g1, g2, g7, hbig']
      refine hcallI_pure known_spec (by simp) (fun M hM => ?_)
      simp (disch := first | omega | (simp only [List.length_set]; omega)) []
    · have hbig' : ¬ (20000 : Int) < (c : Int) := by omega
      have r1 : ofR a b = .tup [rowV (prs (np (hvO a b 0 0))), .int .i64 0] := by rw [ofR, if_neg (by simp [ha, hb]; omega)]
      rw [r1]
      simp (disch := first | omega | (simp only [List.length_set]; omega)) [gl, g0, g1, g2, g7, s5]
      unfold hcallI
      refine of_rows (st := 0) (n := 5) (st2 := 0) (n2 := c) z1 z2 (by simp only [ha, hb]; omega) (by simp only [ha, hb]; omega) (fun m2 hm2 => ?_)
      rw [cut_all (l := b) (by simp [ha, hb])]
      have r2 : ofR ((a.drop 0).take 5) b = .tup [rowV (prs (np (hvO ((a.drop 0).take 5) b 0 0))), .int .i64 0] := by rw [ofR, if_neg (by simp [ha, hb]; omega)]
      rw [r2]
      simp (disch := first | omega | (simp only [List.length_set]; omega)) [gl, g0, g1, g2, g7, hbig']
      refine hcallI_pure known_spec (by simp) (fun M hM => ?_)
      have wc : IntKind.i64.wrap ((c : Int) - 1) = (c : Int) - 1 := wrap_id (by omega) (by omega)
      simp (disch := first | omega | (simp only [List.length_set]; omega)) [gl, g0, g7, hvO_len, wc, hlc]
      omega
  · simp (disch := first | omega | (simp only [List.length_set]; omega)) [gl, g0, g1, g2, g7]
    unfold hcallI
    refine HCalls.settle (id := Q) (ty := 3) (es := ints b) sQ ?_
    refine HCalls.settle (id := P) (ty := 3) (es := ints a) (by rw [upd_ne hPQ]; exact sP) ?_
    generalize hh : upd (upd h2 Q (some (.froz (ints b)))) P (some (.froz (ints a))) = h1
    have z1 : h1 Q = some (.froz (ints b)) := by rw [← hh, upd_ne hQP]; simp
    have z2 : h1 P = some (.froz (ints a)) := by rw [← hh]; simp
    clear hh
    refine of_rows z1 z2 (by simp [ha, hb]) (by simp [ha, hb]) (fun m1 hm1 => ?_)
    rw [cut_all (l := b) (by simp [ha, hb]), cut_all (l := a) (by simp [ha, hb])]
    have s5 : slOk h1 1 (.sl Q 0 c) 0 fun _ => (5 : Int) := by
      have := elems_froz z1 (n := c) (by simp [ha, hb])
      simp only [slOk, lenOf, this]
      exact ⟨by omega, by omega, by omega, fun e he => ints_one he⟩
    by_cases hbig : 20000 < c
    · have hbig' : (20000 : Int) < (c : Int) := by omega
      have r1 : ofR b a = .tup [.nils, .int .i64 2] := by rw [ofR, if_pos (.inl (by simp [ha, hb]; omega))]
      rw [r1]
      simp (disch := first | omega | (simp only [List.length_set]; omega)) [gl, g0, g1, g2, g7, s5]
      unfold hcallI
      refine of_rows (st := 0) (n := 5) (st2 := 0) (n2 := c) z1 z2 (by simp only [ha, hb]; omega) (by simp only [ha, hb]; omega) (fun m2 hm2 => ?_)
      rw [cut_all (l := a) (by simp [ha, hb])]
      have r2 : ofR ((b.drop 0).take 5) a = .tup [.nils, .int .i64 2] := by rw [ofR, if_pos (.inr (by simp [ha, hb]; omega))]
      rw [r2]
      simp (disch := first | omega | (simp only [List.length_set]; omega)) [gl, g0, g1, g2, g7, hbig']
      refine hcallI_pure known_spec (by simp) (fun M hM => ?_)
      simp (disch := first | omega | (simp only [List.length_set]; omega)) []
    · have hbig' : ¬ (20000 : Int) < (c : Int) := by omega
      have r1 : ofR b a = .tup [rowV (prs (np (hvO b a 0 0))), .int .i64 0] := by rw [ofR, if_neg (by simp [ha, hb]; omega)]
      rw [r1]
      simp (disch := first | omega | (simp only [List.length_set]; omega)) [gl, g0, g1, g2, g7, s5]
      unfold hcallI
      refine of_rows (st := 0) (n := 5) (st2 := 0) (n2 := c) z1 z2 (by simp only [ha, hb]; omega) (by simp only [ha, hb]; omega) (fun m2 hm2 => ?_)
      rw [cut_all (l := a) (by simp [ha, hb])]
      have r2 : ofR ((b.drop 0).take 5) a = .tup [rowV (prs (np (hvO ((b.drop 0).take 5) a 0 0))), .int .i64 0] := by rw [ofR, if_neg (by simp [ha, hb]; omega)]
      rw [r2]
      simp (disch := first | omega | (simp only [List.length_set]; omega)) [gl, g0, g1, g2, g7, hbig']
      refine hcallI_pure known_spec (by simp) (fun M hM => ?_)
      have wc : IntKind.i64.wrap ((c : Int) - 1) = (c : Int) - 1 := wrap_id (by omega) (by omega)
      simp (disch := first | omega | (simp only [List.length_set]; omega)) [gl, g0, g7, hvO_len, wc, hlc2]
      omega
end Go.Proofs.Ytinfmkmebemhcaa.Lt
