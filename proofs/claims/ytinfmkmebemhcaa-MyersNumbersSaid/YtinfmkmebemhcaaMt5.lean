/- myers.halves: its walk. -/
import Derived.Test.YtinfmkmebemhcaaMt4
namespace Go.Proofs.Ytinfmkmebemhcaa.Lt
open Go.Proofs.YtinfmkmebemhcaaW.Abs Go
set_option maxRecDepth 100000
set_option maxHeartbeats 4000000
set_option linter.unusedSimpArgs false
set_option linter.unusedVariables false
variable {W0 : World}

/-- what stands between the two ends -/
def midP (x y : List Int) (i k : Nat) : List (Nat × Nat) := if x = [] ∨ y = [] then [] else if x.length = 1 then (match idx (x.headD 0) y with | none => [] | some t => [(i, k + t)]) else
  hvO (x.take (x.length / 2)) (y.take (cutB x y)) i k ++ hvO (x.drop (x.length / 2)) (y.drop (cutB x y)) (i + x.length / 2) (k + cutB x y)
theorem hvO_mid (a b : List Int) (i k : Nat) : hvO a b i k = diag (pre a b) i k ++ midP (midA a b) (midB a b) (i + pre a b) (k + pre a b) ++ diag (endN a b) (i + pre a b + (midA a b).length) (k + pre a b + (midB a b).length) := hvO_eq a b i k

theorem PR.bound {n m : Nat} {h : Hp} {r : Nat} {l : List (Int × Int)} (p : PR n h r l) (hb : ∀ i x, h i = some x → i < m) : PR m h r l := by
  obtain ⟨tok, te, p⟩ := p
  exact ⟨tok, te, hb _ _ p.box, p.box, fun q => ⟨hb _ _ (p.tk q).2.2, (p.tk q).2⟩⟩
abbrev HR (r : Nat) (l : List (Int × Int)) : AOut → Heap → Prop := fun o τ' => o = .ret (.tup []) ∧ PR τ'.next τ'.obj r l

theorem halves_spec : ∀ (f : Nat) (a b : List Int) (i k n : Nat) (A B : AV) (h : Hp) (r : Nat) (l : List (Int × Int)), a.length < f → IsRow A (ints a) → IsRow B (ints b) → a.length ≤ 100000 → b.length ≤ 100000 → i + a.length ≤ 1000000 → k + b.length ≤ 1000000 → l.length + a.length ≤ 1000000 → PR n h r l →
    HCalls Try.prog W0 19 [.bp r 0 0, A, B, .int .i64 (i : Int), .int .i64 (k : Int)] ⟨n, h⟩ (HR r (l ++ np (hvO a b i k)))
  | 0, a, b, i, k, n, A, B, h, r, l, hf, _, _, _, _, _, _, _, _ => by omega
  | f + 1, a, b, i, k, n, A, B, h, r, l, hf, hA, hB, ha, hb, hi, hk, hlb, hp => by
    have ih := halves_spec f
    have ⟨m1, m2⟩ := mid_len a b
    have ⟨p1, p2⟩ := pre_le a b
    obtain ⟨p, hpp⟩ : ∃ p, p = pre a b := ⟨_, rfl⟩
    obtain ⟨e, he⟩ : ∃ e, e = endN a b := ⟨_, rfl⟩
    obtain ⟨x, hx⟩ : ∃ x, x = midA a b := ⟨_, rfl⟩
    obtain ⟨y, hy⟩ : ∃ y, y = midB a b := ⟨_, rfl⟩
    rw [hvO_mid, ← hpp, ← he, ← hx, ← hy]
    rw [← hpp, ← he, ← hx] at m1
    rw [← hpp, ← he, ← hy] at m2
    rw [← hpp] at p1 p2
    refine hcalls cok Try.func19 F19d F19e F19c F19w F19r ?_
    refine ev2I_intro ?_
    simp (disch := first | omega | (simp only [List.length_set]; omega)) [F19s]
    refine halves_l3 (r := r) (a := a) (b := b) (i := i) (k := k) (l := l) (by omega) (by omega) (by omega) (by omega) (by omega) ?_ _ _ _ A B (by rfl) (by rfl) (by rfl) (by rfl) hA hB (by rfl) (by rfl) hp
    intro ts loc τ A1 B1 gl g0 g1 g2 hA1 hB1 g3 g4 hp1
    rw [← hpp] at hA1 hB1 g3 g4 hp1
    obtain ⟨i1, hi1⟩ : ∃ i1, i1 = i + p := ⟨_, rfl⟩
    obtain ⟨k1, hk1⟩ : ∃ k1, k1 = k + p := ⟨_, rfl⟩
    rw [← hi1] at g3 ⊢; rw [← hk1] at g4 ⊢
    simp (disch := first | omega | (simp only [List.length_set]; omega)) [gl, g0, g1, g2, g3, g4]
    refine halves_l2 (a := a.drop p) (b := b.drop p) (w0 := .bp r 0 0) (w1 := A1) (w2 := B1) (w3 := .int .i64 (i1 : Int)) (w4 := .int .i64 (k1 : Int)) (n0 := τ.next) (h0 := τ.obj) (by simp; omega) (by simp; omega) hA1 hB1 ?_ _ _ _ (by simp [gl]) (by simp (disch := first | omega | (simp only [List.length_set]; omega)) [g0]) (by simp (disch := first | omega | (simp only [List.length_set]; omega)) [g1]) (by simp (disch := first | omega | (simp only [List.length_set]; omega)) [g2]) (by simp (disch := first | omega | (simp only [List.length_set]; omega)) [g3]) (by simp (disch := first | omega | (simp only [List.length_set]; omega)) [g4]) (by simp (disch := first | omega | (simp only [List.length_set]; omega)) []) (by dsimp only; omega) rfl
    clear g0 g1 g2 g3 g4 gl ts loc
    intro ts loc τ2 gl g0 g1 g2 g3 g4 g10 hn2 ho2
    have hee : suf (a.drop p) (b.drop p) = e := by rw [he, endN, ← hpp]
    rw [hee] at g10
    have hp2 : PR τ2.next τ2.obj r (l ++ np (diag p i k)) := hp1.mono hn2 fun q _ => by rw [ho2]
    clear hp1 hn2 ho2
    have lA := hA1.len
    have lB := hB1.len
    simp only [ints_len] at lA lB
    obtain ⟨na, hna⟩ : ∃ na, na = (a.drop p).length := ⟨_, rfl⟩
    obtain ⟨nb, hnb⟩ : ∃ nb, nb = (b.drop p).length := ⟨_, rfl⟩
    rw [← hna] at lA; rw [← hnb] at lB
    have na1 : na = x.length + e := by rw [hna]; simp; omega
    have nb1 : nb = y.length + e := by rw [hnb]; simp; omega
    have c1 : IntKind.i64.wrap ((na : Int) - e) = ((na - e : Nat) : Int) := by rw [wrap_id (by omega) (by omega)]; omega
    have c2 : IntKind.i64.wrap ((nb : Int) - e) = ((nb - e : Nat) : Int) := by rw [wrap_id (by omega) (by omega)]; omega
    have sA : slOk τ2.obj 1 A1 0 fun n => ((na - e : Nat) : Int) := by rw [hA1.slOk]; exact ⟨by omega, by omega, by rw [ints_len, ← hna]; omega, fun e he => ints_one he⟩
    have sB : slOk τ2.obj 1 B1 0 fun n => ((nb - e : Nat) : Int) := by rw [hB1.slOk]; exact ⟨by omega, by omega, by rw [ints_len, ← hnb]; omega, fun e he => ints_one he⟩
    have cA := isRow_cut hA1 0 (fun _ => na - e) (by simp only [ints_len, ← hna]; omega)
    have cB := isRow_cut hB1 0 (fun _ => nb - e) (by simp only [ints_len, ← hnb]; omega)
    rw [List.drop_zero, ints_take] at cA cB
    have hxe : (a.drop p).take (na - e) = x := by rw [hx, midA, ← hpp, hna, hee]
    have hye : (b.drop p).take (nb - e) = y := by rw [hy, midB, ← hpp, hnb, hee]
    rw [hxe] at cA; rw [hye] at cB
    simp (disch := first | omega | (simp only [List.length_set]; omega)) [gl, g0, g1, g2, g3, g4, g10, lA, lB, c1, c2, sA, sB, hA1.chk, hB1.chk]
    intro m hm
    generalize subVal 0 (fun _ => na - e) A1 = X at cA ⊢
    generalize subVal 0 (fun _ => nb - e) B1 = Y at cB ⊢
    have lX := cA.len
    have lY := cB.len
    simp only [ints_len] at lX lY
    have hp3 : PR m τ2.obj r (l ++ np (diag p i k)) := hp2.mono (by omega) fun q _ => rfl
    generalize τ2.obj = h2 at hp3 ⊢
    have hLl : (l ++ np (diag p i k)).length = l.length + p := by simp [diag_len]
    have hfin : l ++ np (diag p i k ++ midP x y i1 k1 ++ diag e (i1 + x.length) (k1 + y.length)) = l ++ np (diag p i k) ++ np (midP x y i1 k1) ++ np (diag e (i1 + x.length) (k1 + y.length)) := by simp
    rw [hfin]
    generalize l ++ np (diag p i k) = L at hp3 hLl ⊢
    clear hfin hp2 sA sB hA1 hB1 lA lB c1 c2 hee hxe hye hA hB hp
    have hfe : e ≤ 1000000 := by omega
    by_cases hx0 : x = []
    · have hz : x.length = 0 := by rw [hx0]; rfl
      have hM : midP x y i1 k1 = [] := by rw [midP, if_pos (.inl hx0)]
      rw [hM, np_nil, List.append_nil]
      simp (disch := first | omega | (simp only [List.length_set]; omega)) [gl, g0, g3, g4, g10, lX, lY, hz]
      refine halves_l0 (r := r) (e := e) (i := i1) (k := k1) (nx := x.length) (ny := y.length) (X := X) (Y := Y) (l := L) lX lY hfe (by omega) (by omega) (by omega) (by omega) (by omega) ?_ _ _ _ (by simp [gl]) (by simp (disch := first | omega | (simp only [List.length_set]; omega)) [g0]) (by simp (disch := first | omega | (simp only [List.length_set]; omega)) [g3]) (by simp (disch := first | omega | (simp only [List.length_set]; omega)) [g4]) (by simp (disch := first | omega | (simp only [List.length_set]; omega)) []) (by simp (disch := first | omega | (simp only [List.length_set]; omega)) []) (by simp (disch := first | omega | (simp only [List.length_set]; omega)) [g10]) (by simp (disch := first | omega | (simp only [List.length_set]; omega)) []) (hp3.mono (by dsimp only; omega) fun q _ => rfl)
      intro ts loc τ gl hp
      simp (disch := first | omega | (simp only [List.length_set]; omega)) []
      exact ⟨rfl, hp⟩
    · have hz : x.length ≠ 0 := fun q => hx0 (List.eq_nil_of_length_eq_zero q)
      by_cases hy0 : y = []
      · have hzy : y.length = 0 := by rw [hy0]; rfl
        have hM : midP x y i1 k1 = [] := by rw [midP, if_pos (.inr hy0)]
        rw [hM, np_nil, List.append_nil]
        simp (disch := first | omega | (simp only [List.length_set]; omega)) [gl, g0, g3, g4, g10, lX, lY, hz, hzy]
        refine halves_l0 (r := r) (e := e) (i := i1) (k := k1) (nx := x.length) (ny := y.length) (X := X) (Y := Y) (l := L) lX lY hfe (by omega) (by omega) (by omega) (by omega) (by omega) ?_ _ _ _ (by simp [gl]) (by simp (disch := first | omega | (simp only [List.length_set]; omega)) [g0]) (by simp (disch := first | omega | (simp only [List.length_set]; omega)) [g3]) (by simp (disch := first | omega | (simp only [List.length_set]; omega)) [g4]) (by simp (disch := first | omega | (simp only [List.length_set]; omega)) []) (by simp (disch := first | omega | (simp only [List.length_set]; omega)) []) (by simp (disch := first | omega | (simp only [List.length_set]; omega)) [g10]) (by simp (disch := first | omega | (simp only [List.length_set]; omega)) []) (hp3.mono (by dsimp only; omega) fun q _ => rfl)
        intro ts loc τ gl hp
        simp (disch := first | omega | (simp only [List.length_set]; omega)) []
        exact ⟨rfl, hp⟩
      · have hzy : y.length ≠ 0 := fun q => hy0 (List.eq_nil_of_length_eq_zero q)
        simp (disch := first | omega | (simp only [List.length_set]; omega)) [gl, g0, g3, g4, g10, lX, lY, hz, hzy]
        by_cases hx1 : x.length = 1
        · have hx1' : (x.length : Int) = 1 := by omega
          obtain ⟨v, hv⟩ : ∃ v, x = [v] := by
            cases x with
            | nil => exact absurd rfl hx0
            | cons v r => cases r with
              | nil => exact ⟨v, rfl⟩
              | cons _ _ => simp at hx1
          have hx0e : (ints x)[0]? = some [.int .i64 v] := nums_at (by rw [hv]; rfl)
          have tX := cA.at hx0e
          have eX := cA.elems h2
          simp (disch := first | omega | (simp only [List.length_set]; omega)) [gl, g0, g3, g4, g10, hx1', eX, hx0e, tX]
          refine hcallI_pure (index_spec y cB (by omega) v) (by rcases cB with ⟨q, _⟩ | q <;> simp [q]) (fun m2 hm2 => ?_)
          cases hix : idx v y with
          | none =>
            have hM : midP x y i1 k1 = [] := by rw [midP, if_neg (by simp [hx0, hy0]), if_pos hx1, hv]; simp [hix]
            rw [hM, np_nil, List.append_nil]
            have hN : idxN v y = -1 := by simp [idxN, hix]
            simp (disch := first | omega | (simp only [List.length_set]; omega)) [gl, g0, g3, g4, g10, hN]
            refine halves_l0 (r := r) (e := e) (i := i1) (k := k1) (nx := x.length) (ny := y.length) (X := X) (Y := Y) (l := L) lX lY hfe (by omega) (by omega) (by omega) (by omega) (by omega) ?_ _ _ _ (by simp [gl]) (by simp (disch := first | omega | (simp only [List.length_set]; omega)) [g0]) (by simp (disch := first | omega | (simp only [List.length_set]; omega)) [g3]) (by simp (disch := first | omega | (simp only [List.length_set]; omega)) [g4]) (by simp (disch := first | omega | (simp only [List.length_set]; omega)) []) (by simp (disch := first | omega | (simp only [List.length_set]; omega)) []) (by simp (disch := first | omega | (simp only [List.length_set]; omega)) [g10]) (by simp (disch := first | omega | (simp only [List.length_set]; omega)) []) (hp3.mono (by dsimp only at *; omega) fun q _ => rfl)
            intro ts loc τ gl hp
            simp (disch := first | omega | (simp only [List.length_set]; omega)) []
            exact ⟨rfl, hp⟩
          | some t =>
            have hM : midP x y i1 k1 = [(i1, k1 + t)] := by rw [midP, if_neg (by simp [hx0, hy0]), if_pos hx1, hv]; simp [hix]
            rw [hM, np_one]
            have hN : idxN v y = (t : Int) := by simp [idxN, hix]
            obtain ⟨tok, te, hp4⟩ := hp3
            have hbx := hp4.box
            have hp5 := hp4.mono (m := m2 + 2) (h' := h2) (by dsimp only at *; omega) (fun q _ => rfl)
            have hty : t < y.length := (List.getElem?_eq_some_iff.1 (idx_some v y t hix)).1
            have w1 : IntKind.i64.wrap ((k1 : Int) + t) = ((k1 + t : Nat) : Int) := by rw [wrap_id (by omega) (by omega)]; omega
            obtain ⟨q1, q2⟩ := hp5.push (i1 : Int) ((k1 + t : Nat) : Int) (id := m2 + 2 + 11) (m := m2 + 2 + 15) (by omega) (by omega) 34
            obtain ⟨z, hz'⟩ : ∃ z : Int, z = ((k1 + t : Nat) : Int) := ⟨_, rfl⟩
            simp only [← hz'] at w1 q1 q2 ⊢
            simp (disch := first | omega | (simp only [List.length_set]; omega)) [gl, g0, g3, g4, g10, hN, hbx, w1]
            refine andI_intro ?_ ?_
            · rw [appOk_acc hp4.acc]; clear q1 q2 ih; simp; omega
            simp (disch := first | omega | (simp only [List.length_set]; omega)) [gl, g0, g3, g4, g10, hN, hbx, w1, q1]
            refine halves_l0 (r := r) (e := e) (i := i1) (k := k1) (nx := x.length) (ny := y.length) (X := X) (Y := Y) (l := L ++ [((i1 : Int), z)]) lX lY hfe (by simp; omega) (by omega) (by omega) (by omega) (by omega) ?_ _ _ _ (by simp [gl]) (by simp (disch := first | omega | (simp only [List.length_set]; omega)) [g0]) (by simp (disch := first | omega | (simp only [List.length_set]; omega)) [g3]) (by simp (disch := first | omega | (simp only [List.length_set]; omega)) [g4]) (by simp (disch := first | omega | (simp only [List.length_set]; omega)) []) (by simp (disch := first | omega | (simp only [List.length_set]; omega)) []) (by simp (disch := first | omega | (simp only [List.length_set]; omega)) [g10]) (by simp (disch := first | omega | (simp only [List.length_set]; omega)) []) (q2.mono (by dsimp only at *; omega) fun q _ => rfl)
            intro ts loc τ gl hp
            simp (disch := first | omega | (simp only [List.length_set]; omega)) []
            exact ⟨rfl, by rw [hz'] at hp; simpa using hp⟩
        · have hx1' : ¬ (x.length : Int) = 1 := by omega
          have hM : midP x y i1 k1 = hvO (x.take (x.length / 2)) (y.take (cutB x y)) i1 k1 ++ hvO (x.drop (x.length / 2)) (y.drop (cutB x y)) (i1 + x.length / 2) (k1 + cutB x y) := by rw [midP, if_neg (by simp [hx0, hy0]), if_neg hx1]
          rw [hM]
          clear hM
          obtain ⟨d, hd⟩ : ∃ d, d = x.length / 2 := ⟨_, rfl⟩
          obtain ⟨c, hc⟩ : ∃ c, c = cutB x y := ⟨_, rfl⟩
          rw [← hd, ← hc]
          have wd : IntKind.i64.wrap ((x.length : Int) / 2) = (d : Int) := by rw [wrap_id (by omega) (by omega)]; omega
          have sX : slOk h2 1 X 0 fun n => (d : Int) := by rw [cA.slOk]; exact ⟨by omega, by omega, by simp; omega, fun e he => ints_one he⟩
          have cX1 := isRow_cut cA 0 (fun _ => d) (by simp; omega)
          have cX2 := isRow_cut cA d (fun n => n) (by simp)
          rw [List.drop_zero, ints_take] at cX1
          rw [List.take_length, ints_drop] at cX2
          simp (disch := first | omega | (simp only [List.length_set]; omega)) [gl, g0, g3, g4, g10, lX, lY, hx1', wd, sX]
          generalize subVal 0 (fun _ => d) X = X1 at cX1 ⊢
          refine hcallI_use (table_spec (a := x.take d) (b := y) (fun i1 i2 _ _ => Rd.row cX1 i1 i2 _) (fun i1 i2 _ _ => Rd.row cB i1 i2 _) (by omega) (by simp; omega)) (by simp [cX1.same (ints_bare _), cB.same (ints_bare _)]) (fun o τ' hn' hQ => ?_)
          obtain ⟨iF, F, rfl, f1, f2, f3, f4, f5, f6⟩ := hQ
          have hp4 : PR τ'.next τ'.obj r L := hp3.mono (by dsimp only at *; omega) fun q hq => f3 q (by omega)
          have sX2 : slOk τ'.obj 1 X (d : Int) fun n => (n : Int) := by rw [cA.slOk]; exact ⟨by omega, by simp; omega, by simp, fun e he => ints_one he⟩
          dsimp only at hn' f1 f2
          simp (disch := first | omega | (simp only [List.length_set]; omega)) [gl, g0, g3, g4, g10, sX2]
          generalize subVal d (fun n => n) X = X2 at cX2 ⊢
          refine hcallI_use (clone_spec cX2 (fun q => by have := congrArg List.length q; simp at this; omega) (by simp; omega) _ _) (by simp [cX2.same (ints_bare _)]) (fun o τ3 hn3 hQ => ?_)
          obtain ⟨iU, rfl, u1, u2, u3, u4⟩ := hQ
          dsimp only at hn3 u1 u2
          simp (disch := first | omega | (simp only [List.length_set]; omega)) [gl, g0, g3, g4, g10]
          refine hcallI_use (clone_spec cB hy0 (by omega) _ _) (by simp [cB.same (ints_bare _)]) (fun o τ4 hn4 hQ => ?_)
          obtain ⟨iV, rfl, v1, v2, v3, v4⟩ := hQ
          dsimp only at hn4 v1 v2
          simp (disch := first | omega | (simp only [List.length_set]; omega)) [gl, g0, g3, g4, g10]
          have bU : τ4.obj iU = some (.box 3 (ints (x.drop d))) := by rw [v3 _ (by omega)]; exact u4
          refine hcallI_use (reverse_spec (n := x.length - d) (l := x.drop d) (by simp) (by omega) (by omega) bU) (by simp) (fun o τ5 hn5 hQ => ?_)
          obtain ⟨rfl, a3, a4⟩ := hQ
          dsimp only at hn5
          simp (disch := first | omega | (simp only [List.length_set]; omega)) [gl, g0, g3, g4, g10]
          have bV : τ5.obj iV = some (.box 3 (ints y)) := by rw [a3 _ (by omega)]; exact v4
          refine hcallI_use (reverse_spec (n := y.length) (l := y) rfl (by omega) (by omega) bV) (by simp) (fun o τ6 hn6 hQ => ?_)
          obtain ⟨rfl, b3, b4⟩ := hQ
          dsimp only at hn6
          simp (disch := first | omega | (simp only [List.length_set]; omega)) [gl, g0, g3, g4, g10]
          have bU6 : τ6.obj iU = some (.box 3 (ints (x.drop d).reverse)) := by rw [b3 _ (by omega)]; exact a4
          refine hcallI_use (table_spec (a := (x.drop d).reverse) (b := y.reverse) (fun i1 i2 _ _ => Rd.box (n := x.length - d) bU6 (by simp) (by omega) (by omega)) (fun i1 i2 _ _ => Rd.box (n := y.length) b4 (by simp) (by omega) (by omega)) (by simp; omega) (by simp; omega)) (by simp) (fun o τ7 hn7 hQ => ?_)
          obtain ⟨iG, G, rfl, t1, t2, t3, t4, t5, t6⟩ := hQ
          dsimp only at hn7 t1 t2 t3
          simp only [List.length_reverse] at t5 t6
          simp (disch := first | omega | (simp only [List.length_set]; omega)) [gl, g0, g3, g4, g10]
          have bF : τ7.obj iF = some (.box 3 (ints F)) := by rw [t3 _ (by omega), b3 _ (by omega), a3 _ (by omega), v3 _ (by omega), u3 _ (by omega)]; exact f4
          have hp7 : PR τ7.next τ7.obj r L := hp4.mono (by omega) fun q hq => by rw [t3 _ (by omega), b3 _ (by omega), a3 _ (by omega), v3 _ (by omega), u3 _ (by omega)]
          have hG : ∀ t, t ≤ y.length → G[y.length - t]? = some ((lcs (x.drop d) (y.drop t) : Nat) : Int) := fun t ht => by
            rw [t6 _ (by omega), List.take_reverse, show y.length - (y.length - t) = t by omega, lcs_rev]
          clear f3 f4 u3 u4 v3 v4 a3 a4 b3 b4 t3 t6 bU bV bU6 hp3 hp4 u1 u2 v1 v2
          refine halves_l1 (n := y.length) (f := iF) (q := iG) (Y := Y) (F := F) (G := G) (fa := fun t => lcs (x.take d) (y.take t)) (fb := fun t => lcs (x.drop d) (y.drop t)) (w0 := .bp r 0 0) (w3 := .int .i64 (i1 : Int)) (w4 := .int .i64 (k1 : Int)) (w10 := .int .i64 (e : Int)) (w11 := X) (w14 := .int .i64 (d : Int)) (h0 := τ7.obj) (n0 := τ7.next) (by omega) lY bF t4 f5 t5 f6 hG
            (fun t ht => by have h1 := (lcs_bd (x.take d) (y.take t)).1; have h2 := (lcs_bd (x.drop d) (y.drop t)).1; simp at h1 h2; exact ⟨by omega, by omega⟩) (by omega) t2 ?_ _ _ _ (by simp [gl]) (by simp (disch := first | omega | (simp only [List.length_set]; omega)) [g0]) (by simp (disch := first | omega | (simp only [List.length_set]; omega)) [g3]) (by simp (disch := first | omega | (simp only [List.length_set]; omega)) [g4]) (by simp (disch := first | omega | (simp only [List.length_set]; omega)) [g10]) (by simp (disch := first | omega | (simp only [List.length_set]; omega)) []) (by simp (disch := first | omega | (simp only [List.length_set]; omega)) []) (by simp (disch := first | omega | (simp only [List.length_set]; omega)) []) (by simp (disch := first | omega | (simp only [List.length_set]; omega)) []) (by simp (disch := first | omega | (simp only [List.length_set]; omega)) []) (by simp (disch := first | omega | (simp only [List.length_set]; omega)) []) (by simp (disch := first | omega | (simp only [List.length_set]; omega)) []) (by simp (disch := first | omega | (simp only [List.length_set]; omega)) []) (by dsimp only; omega) rfl
          clear gl g0 g1 g2 g3 g4 g10 loc ts
          intro ts loc τ8 gl g0 g3 g4 g10 g11 g12 g14 g19 hn8 ho8
          have hcc : best (fun t => lcs (x.take d) (y.take t) + lcs (x.drop d) (y.drop t)) y.length = c := by rw [hc, cutB, hd]
          rw [hcc] at g19
          have hp8 : PR τ8.next τ8.obj r L := hp7.mono hn8 fun q hq => by rw [ho8]
          have hcl : c ≤ y.length := by rw [← hcc]; exact best_le _ _
          have sX : slOk τ8.obj 1 X 0 fun n => (d : Int) := by rw [cA.slOk]; exact ⟨by omega, by omega, by simp; omega, fun e he => ints_one he⟩
          have sY : slOk τ8.obj 1 Y 0 fun n => (c : Int) := by rw [cB.slOk]; exact ⟨by omega, by omega, by simp; omega, fun e he => ints_one he⟩
          have cY1 := isRow_cut cB 0 (fun _ => c) (by simp; omega)
          have cY2 := isRow_cut cB c (fun n => n) (by simp)
          have cX1 := isRow_cut cA 0 (fun _ => d) (by simp; omega)
          have cX2 := isRow_cut cA d (fun n => n) (by simp)
          rw [List.drop_zero, ints_take] at cX1 cY1
          rw [List.take_length, ints_drop] at cX2 cY2
          simp (disch := first | omega | (simp only [List.length_set]; omega)) [gl, g0, g3, g4, g10, g11, g12, g14, g19, sX, sY, cA.chk, cB.chk]
          generalize subVal 0 (fun _ => d) X = X3 at cX1 ⊢
          generalize subVal 0 (fun _ => c) Y = Y3 at cY1 ⊢
          refine ihcallI_use (fun m' hm' hbd => ih (x.take d) (y.take c) i1 k1 m' _ _ τ8.obj r L (by simp; omega) cX1 cY1 (by simp; omega) (by simp; omega) (by simp; omega) (by simp; omega) (by simp; omega) (hp8.mono (by omega) fun q _ => rfl)) (by simp [cX1.same (ints_bare _), cY1.same (ints_bare _)]) (fun o τ9 hQ => ?_)
          obtain ⟨rfl, hp9⟩ := hQ
          simp (disch := first | omega | (simp only [List.length_set]; omega)) [gl, g0, g3, g4, g10, g11, g12, g14, g19]
          intro m9 hm9 hbd9
          have hp9 := hp9.bound hbd9
          have hN1 := hvO_len (x.take d) (y.take c) i1 k1
          have hN2 := (lcs_bd (x.take d) (y.take c)).1
          simp only [List.length_take] at hN2
          have hL2 : (L ++ np (hvO (x.take d) (y.take c) i1 k1)).length ≤ L.length + d := by simp [hN1]; omega
          generalize τ9.obj = h9 at hp9 hbd9 ⊢
          obtain ⟨L2, hL2e⟩ : ∃ L2, L2 = L ++ np (hvO (x.take d) (y.take c) i1 k1) := ⟨_, rfl⟩
          rw [← hL2e] at hp9 hL2
          have sX : slOk h9 1 X (d : Int) fun n => (n : Int) := by rw [cA.slOk]; exact ⟨by omega, by simp; omega, by simp, fun e he => ints_one he⟩
          have sY : slOk h9 1 Y (c : Int) fun n => (n : Int) := by rw [cB.slOk]; exact ⟨by omega, by simp; omega, by simp, fun e he => ints_one he⟩
          have wi : IntKind.i64.wrap ((i1 : Int) + d) = ((i1 + d : Nat) : Int) := by rw [wrap_id (by omega) (by omega)]; omega
          have wk : IntKind.i64.wrap ((k1 : Int) + c) = ((k1 + c : Nat) : Int) := by rw [wrap_id (by omega) (by omega)]; omega
          obtain ⟨i2, hi2⟩ : ∃ i2, i2 = i1 + d := ⟨_, rfl⟩
          obtain ⟨k2, hk2⟩ : ∃ k2, k2 = k1 + c := ⟨_, rfl⟩
          rw [← hi2] at wi; rw [← hk2] at wk
          simp (disch := first | omega | (simp only [List.length_set]; omega)) [gl, g0, g3, g4, g10, g11, g12, g14, g19, sX, sY, cA.chk, cB.chk, wi, wk]
          generalize subVal d (fun n => n) X = X4 at cX2 ⊢
          generalize subVal c (fun n => n) Y = Y4 at cY2 ⊢
          refine ihcallI_use (fun m' hm' hbd => ih (x.drop d) (y.drop c) i2 k2 m' _ _ h9 r L2 (by simp; omega) cX2 cY2 (by simp; omega) (by simp; omega) (by simp; omega) (by simp; omega) (by simp; omega) (hp9.mono (by omega) fun q _ => rfl)) (by simp [cX2.same (ints_bare _), cY2.same (ints_bare _)]) (fun o τ10 hQ => ?_)
          obtain ⟨rfl, hp10⟩ := hQ
          simp (disch := first | omega | (simp only [List.length_set]; omega)) [gl, g0, g3, g4, g10, g11, g12, g14, g19]
          intro m10 hm10 hbd10
          have hp10 := hp10.bound hbd10
          have hN3 := hvO_len (x.drop d) (y.drop c) i2 k2
          have hN4 := (lcs_bd (x.drop d) (y.drop c)).1
          simp only [List.length_drop] at hN4
          refine halves_l0 (r := r) (e := e) (i := i1) (k := k1) (nx := x.length) (ny := y.length) (X := X) (Y := Y) (l := L2 ++ np (hvO (x.drop d) (y.drop c) i2 k2)) lX lY hfe (by simp [hN3]; omega) (by omega) (by omega) (by omega) (by omega) ?_ _ _ _ (by simp [gl]) (by simp (disch := first | omega | (simp only [List.length_set]; omega)) [g0]) (by simp (disch := first | omega | (simp only [List.length_set]; omega)) [g3]) (by simp (disch := first | omega | (simp only [List.length_set]; omega)) [g4]) (by simp (disch := first | omega | (simp only [List.length_set]; omega)) [g11]) (by simp (disch := first | omega | (simp only [List.length_set]; omega)) [g12]) (by simp (disch := first | omega | (simp only [List.length_set]; omega)) [g10]) (by simp (disch := first | omega | (simp only [List.length_set]; omega)) []) (hp10.mono (by dsimp only at *; omega) fun q _ => rfl)
          intro ts loc τ gl hp
          simp (disch := first | omega | (simp only [List.length_set]; omega)) []
          refine ⟨rfl, ?_⟩
          rw [hL2e, hi2, hk2] at hp
          simpa using hp
end Go.Proofs.Ytinfmkmebemhcaa.Lt
