import Derived.Test.YtoeonamjbohokaaLb
/- layout.Of: its loop. -/
namespace Go.Proofs.Ytoeonamjbohokaa.Lt
open Go.Proofs.YtoeonamjbohokaaW.Abs Go
set_option maxRecDepth 100000
set_option maxHeartbeats 4000000
set_option linter.unusedSimpArgs false
set_option linter.unusedVariables false
variable {W0 : World}

def bools (l : List Bool) : List (List AV) := l.map fun b => [.bool b]
@[simp] theorem bools_len (l : List Bool) : (bools l).length = l.length := by simp [bools]
@[simp] theorem bools_app (a b : List Bool) : bools (a ++ b) = bools a ++ bools b := by simp [bools]
@[simp] theorem bools_one (b : Bool) : bools [b] = [[.bool b]] := rfl
theorem bools_e1 {l : List Bool} {e : List AV} (h : e ∈ bools l) : e.length = 1 := by simp only [bools, List.mem_map] at h; obtain ⟨x, _, rfl⟩ := h; rfl

theorem slIn_mono {P Q : Nat → Prop} {v : AV} (h : slIn P v) (hpq : ∀ q, P q → Q q) : slIn Q v := by
  cases v <;> first | trivial | exact hpq _ h

theorem slIn_stkRes {n id : Nat} {ns : List (List AV)} (h : id < n) (v : AV) : slIn (fun q => q < n) (stkRes id ns v) := by
  cases v <;> cases ns <;> first | trivial | exact h
theorem slIn_sub {P : Nat → Prop} {v : AV} (h : slIn P v) (a : Nat) (b : Nat → Nat) : slIn P (subVal a b v) := by
  cases v <;> first | trivial | exact h

structure OS (l : List Pc) (L : AV) (w : Int) (A : Arr) (R : Pg) (i : Nat) (gs : List Bool) (id tok : Nat) (a : AV) (p : Pg) (ts : List AV) (loc : Go.Proofs.YtoeonamjbohokaaW.Abs.Loc) (τ : Heap) : Prop where
  hi : i ≤ l.length
  hl : ts.length = 131
  h1 : tmp ts 1 = .int .i64 w
  h7 : tmp ts 7 = .sl A.i1 0 (l.length + 1)
  h8 : tmp ts 8 = .sl A.i2 0 (l.length + 1)
  h9 : tmp ts 9 = .sl A.i3 0 (l.length + 1)
  h10 : tmp ts 10 = .sl A.ie 0 l.length
  h11 : tmp ts 11 = .bp id 0 0
  h34 : tmp ts 34 = L
  h35 : tmp ts 35 = .int .i64 l.length
  h36 : tmp ts 36 = .int .i64 i
  st : StkL (loc 2) 4 1 (tmp ts 12) (bools gs.reverse)
  sb : slIn (fun q => q < τ.next) (tmp ts 12)
  ps : PS τ A id tok a p
  ok : okd (l.drop i) (gs.length - 1) p.nest
  gp : 0 < gs.length
  gl : gs.length ≤ i + 1
  hR : run w (l.drop i) gs p = R
  bn : p.nest ≤ i
  bt : p.tabs ≤ 2000
  bs : p.s.length + wid (l.drop i) ≤ wid l + i * 2001
  bc : p.col + wid (l.drop i) ≤ 10000 + wid l

theorem of_loop {K : KC2} {hs : Hints} {l : List Pc} {L : AV} (hL : IsRow L (l.map Pc.enc)) (hll : l.length ≤ 2000) (hwl : wid l ≤ 3000000) {w : Int} {A : Arr} {R : Pg} {id : Nat} (hS : Sums l A.F A.H A.T) (hE : EInv l l.length [] A.E)
    (hK : ∀ ts loc τ tok a, ts.length = 131 → tmp ts 11 = .bp id 0 0 → PS τ A id tok a R → R.s.length ≤ 140737488355328 → K.k (.exit 0) ts loc τ)
    (ts : List AV) (loc : Go.Proofs.YtoeonamjbohokaaW.Abs.Loc) (τ : Heap) (i : Nat) (gs : List Bool) (tok : Nat) (a : AV) (p : Pg) (h : OS l L w A R i gs id tok a p ts loc τ) : loop2I Try.prog W0 C hs F13l0 ts loc τ := by
  refine loop2I_ind cok F13l0w (α := Nat × List Bool × Nat × AV × Pg) (m := fun x => l.length - x.1) (I := fun x ts loc τ => OS l L w A R x.1 x.2.1 id x.2.2.1 x.2.2.2.1 x.2.2.2.2 ts loc τ) ?_ (i, gs, tok, a, p) h
  clear h ts loc τ tok a p i gs
  rintro ⟨i, gs, tok, a, p⟩ ts loc τ ⟨hi, hl, h1, h7, h8, h9, h10, h11, h34, h35, h36, st, sb, ps, ok, gp, gl, hR, bn, bt, bs, bc⟩ ih'
  dsimp only at hi hl h1 h7 h8 h9 h10 h11 h34 h35 h36 st sb ps ok gp gl hR bn bt bs bc ih'
  simp (disch := first | omega | (simp only [List.length_set]; omega)) [F13l0, hl, h34, h35, h36]
  by_cases hlt : i < l.length
  · obtain ⟨q, hq⟩ : ∃ q, l[i]? = some q := ⟨l[i], by simp [hlt]⟩
    have hqe : (l.map Pc.enc)[i]? = some q.enc := by simp [hq]
    rw [drop_at hq] at ok hR bs bc
    obtain ⟨top, gr, rfl⟩ : ∃ t r, gs = t :: r := by cases gs with | nil => simp at gp | cons t r => exact ⟨t, r, rfl⟩
    have hne : bools (top :: gr).reverse ≠ [] := by simp [bools]
    have hat : (bools (top :: gr).reverse)[gr.length]? = some [.bool top] := by simp [bools]
    obtain ⟨sid, ses, s1, s2⟩ := st.at hat
    have slen := st.len
    have sel := st.el hne
    have c1 : IntKind.i64.wrap (gr.length : Int) = gr.length := wrap_id (by omega) (by simp at gl; omega)
    have hat2 : (bools gr.reverse ++ [[AV.bool top]])[gr.length]? = some [.bool top] := by simp
    have slen' : lenOf (tmp ts 12) = some (gr.length + 1) := by simpa using slen
    have sel' : elOf (loc 2) (tmp ts 12) = some (bools gr.reverse ++ [[AV.bool top]]) := by simpa using sel
    have go : ∀ (ts' : List AV) (loc' : Go.Proofs.YtoeonamjbohokaaW.Abs.Loc) (τ' : Heap) (gs' : List Bool) (tok' : Nat) (a' : AV) (p' : Pg), ts'.length = 131 → tmp ts' 1 = tmp ts 1 → tmp ts' 7 = tmp ts 7 → tmp ts' 8 = tmp ts 8 → tmp ts' 9 = tmp ts 9 → tmp ts' 10 = tmp ts 10 → tmp ts' 11 = tmp ts 11 → tmp ts' 34 = tmp ts 34 → tmp ts' 35 = tmp ts 35 → tmp ts' 36 = .int .i64 ((i + 1 : Nat) : Int) →
        StkL (loc' 2) 4 1 (tmp ts' 12) (bools gs'.reverse) → slIn (fun q => q < τ'.next) (tmp ts' 12) → PS τ' A id tok' a' p' → okd (l.drop (i + 1)) (gs'.length - 1) p'.nest → 0 < gs'.length → gs'.length ≤ i + 2 → run w (l.drop (i + 1)) gs' p' = R → p'.nest ≤ i + 1 → p'.tabs ≤ 2000 →
        p'.s.length + wid (l.drop (i + 1)) ≤ wid l + (i + 1) * 2001 → p'.col + wid (l.drop (i + 1)) ≤ 10000 + wid l → loop2I Try.prog W0 C hs F13l0 ts' loc' τ' := by
      intro ts' loc' τ' gs' tok' a' p' g0 g1 g7 g8 g9 g10 g11 g34 g35 g36 gst gsb gps gok ggp ggl gR gbn gbt gbs gbc
      exact ih' (i + 1, gs', tok', a', p') _ _ _ (by simp only; omega) ⟨by simp only; omega, g0, g1.trans h1, g7.trans h7, g8.trans h8, g9.trans h9, g10.trans h10, g11.trans h11, g34.trans h34, g35.trans h35, g36, gst, gsb, gps, gok, ggp, ggl, gR, gbn, gbt, gbs, gbc⟩
    clear ih' hK
    obtain ⟨qk, qs⟩ := q
    dsimp only [wid] at bs bc
    have hqw : qs.length + 1 ≤ wid l := pc_mem_wid hq
    have hwd := wid_take_drop l (i + 1)
    have hws := width_le qs
    rw [okd] at ok
    dsimp only at ok
    simp at gl
    simp (disch := first | omega | (simp only [List.length_set]; omega)) [hlt, hl, h34, h35, h36, hL.elems, hL.at hqe, hqe, slen', sel', c1, hat2, s1, s2]
    have hrun := hR
    rw [run] at hrun
    dsimp only at hrun
    have hbd : p.tabs ≤ 1000000 := by omega
    by_cases k1 : qk = 1
    · subst k1
      simp at hrun
      simp (disch := first | omega | (simp only [List.length_set]; omega)) [hl, h1, h7, h8, h9, h10, h11, h34, h35, h36]
      refine hcallI_use ((ps.mono (by omega)).put_call qs (by first | omega | (simp; omega)) (by omega) (by first | omega | (simp; omega)) (by omega)) (by simp) (fun o τ' hn' hQ => ?_)
      obtain ⟨rfl, tok', ps'⟩ := hQ
      dsimp only at hn'
      simp (disch := first | omega | (simp only [List.length_set]; omega)) [hl, h1, h7, h8, h9, h10, h11, h34, h35, h36]
      refine go _ _ _ (top :: gr) tok' (.bp id 0 0) (p.put qs) ?_ ?_ ?_ ?_ ?_ ?_ ?_ ?_ ?_ ?_ ?_ ?_ ?_ ?_ ?_ ?_ ?_ ?_ ?_ ?_ ?_
      · simp [hl]
      · simp (disch := first | omega | (simp only [List.length_set]; omega)) []
      · simp (disch := first | omega | (simp only [List.length_set]; omega)) []
      · simp (disch := first | omega | (simp only [List.length_set]; omega)) []
      · simp (disch := first | omega | (simp only [List.length_set]; omega)) []
      · simp (disch := first | omega | (simp only [List.length_set]; omega)) []
      · simp (disch := first | omega | (simp only [List.length_set]; omega)) []
      · simp (disch := first | omega | (simp only [List.length_set]; omega)) []
      · simp (disch := first | omega | (simp only [List.length_set]; omega)) []
      · simp (disch := first | omega | (simp only [List.length_set]; omega)) [wrap_id]
      · simp (disch := first | omega | (simp only [List.length_set]; omega)) [setL_ne]; simpa using st
      · simp (disch := first | omega | (simp only [List.length_set]; omega)) []; exact slIn_mono sb (fun q hq => by omega)
      · exact ps'.mono (by omega)
      · rcases ok with h | h | h | h | h | h <;> first | (exfalso; omega) | exact h.2.2 | exact h.2.2.2
      · simp
      · simp; omega
      · exact hrun
      · first | omega | (simp [Pg.put, Pg.nl, width, wd1]; omega) | simp [Pg.put, Pg.nl]
      · first | omega | (simp [Pg.put, Pg.nl, width, wd1]; omega) | simp [Pg.put, Pg.nl]
      · first | omega | (simp [Pg.put, Pg.nl, width, wd1]; omega) | simp [Pg.put, Pg.nl]
      · first | omega | (simp [Pg.put, Pg.nl, width, wd1]; omega) | simp [Pg.put, Pg.nl]
    by_cases k2 : qk = 2
    · subst k2
      simp at hrun
      cases top with
      | true =>
        simp (disch := first | omega | (simp only [List.length_set]; omega)) [hl, h1, h7, h8, h9, h10, h11, h34, h35, h36]
        refine hcallI_use ((ps.mono (by omega)).put_call [32] (by first | omega | (simp; omega)) (by omega) (by first | omega | (simp; omega)) (by omega)) (by simp) (fun o τ' hn' hQ => ?_)
        obtain ⟨rfl, tok', ps'⟩ := hQ
        dsimp only at hn'
        simp (disch := first | omega | (simp only [List.length_set]; omega)) [hl, h1, h7, h8, h9, h10, h11, h34, h35, h36]
        refine go _ _ _ (true :: gr) tok' (.bp id 0 0) (p.put [32]) ?_ ?_ ?_ ?_ ?_ ?_ ?_ ?_ ?_ ?_ ?_ ?_ ?_ ?_ ?_ ?_ ?_ ?_ ?_ ?_ ?_
        · simp [hl]
        · simp (disch := first | omega | (simp only [List.length_set]; omega)) []
        · simp (disch := first | omega | (simp only [List.length_set]; omega)) []
        · simp (disch := first | omega | (simp only [List.length_set]; omega)) []
        · simp (disch := first | omega | (simp only [List.length_set]; omega)) []
        · simp (disch := first | omega | (simp only [List.length_set]; omega)) []
        · simp (disch := first | omega | (simp only [List.length_set]; omega)) []
        · simp (disch := first | omega | (simp only [List.length_set]; omega)) []
        · simp (disch := first | omega | (simp only [List.length_set]; omega)) []
        · simp (disch := first | omega | (simp only [List.length_set]; omega)) [wrap_id]
        · simp (disch := first | omega | (simp only [List.length_set]; omega)) [setL_ne]; simpa using st
        · simp (disch := first | omega | (simp only [List.length_set]; omega)) []; exact slIn_mono sb (fun q hq => by omega)
        · exact ps'.mono (by omega)
        · rcases ok with h | h | h | h | h | h <;> first | (exfalso; omega) | exact h.2.2 | exact h.2.2.2
        · simp
        · simp; omega
        · exact hrun
        · first | omega | (simp [Pg.put, Pg.nl, width, wd1]; omega) | simp [Pg.put, Pg.nl]
        · first | omega | (simp [Pg.put, Pg.nl, width, wd1]; omega) | simp [Pg.put, Pg.nl]
        · first | omega | (simp [Pg.put, Pg.nl, width, wd1]; omega) | simp [Pg.put, Pg.nl]
        · first | omega | (simp [Pg.put, Pg.nl, width, wd1]; omega) | simp [Pg.put, Pg.nl]
      | false =>
        simp (disch := first | omega | (simp only [List.length_set]; omega)) [hl, h1, h7, h8, h9, h10, h11, h34, h35, h36]
        refine hcallI_use ((ps.mono (by omega)).nl_call (by omega) (by omega)) (by simp) (fun o τ' hn' hQ => ?_)
        obtain ⟨rfl, tok', ps'⟩ := hQ
        dsimp only at hn'
        simp (disch := first | omega | (simp only [List.length_set]; omega)) [hl, h1, h7, h8, h9, h10, h11, h34, h35, h36]
        refine go _ _ _ (false :: gr) tok' (.bp id 0 0) p.nl ?_ ?_ ?_ ?_ ?_ ?_ ?_ ?_ ?_ ?_ ?_ ?_ ?_ ?_ ?_ ?_ ?_ ?_ ?_ ?_ ?_
        · simp [hl]
        · simp (disch := first | omega | (simp only [List.length_set]; omega)) []
        · simp (disch := first | omega | (simp only [List.length_set]; omega)) []
        · simp (disch := first | omega | (simp only [List.length_set]; omega)) []
        · simp (disch := first | omega | (simp only [List.length_set]; omega)) []
        · simp (disch := first | omega | (simp only [List.length_set]; omega)) []
        · simp (disch := first | omega | (simp only [List.length_set]; omega)) []
        · simp (disch := first | omega | (simp only [List.length_set]; omega)) []
        · simp (disch := first | omega | (simp only [List.length_set]; omega)) []
        · simp (disch := first | omega | (simp only [List.length_set]; omega)) [wrap_id]
        · simp (disch := first | omega | (simp only [List.length_set]; omega)) [setL_ne]; simpa using st
        · simp (disch := first | omega | (simp only [List.length_set]; omega)) []; exact slIn_mono sb (fun q hq => by omega)
        · exact ps'.mono (by omega)
        · rcases ok with h | h | h | h | h | h <;> first | (exfalso; omega) | exact h.2.2 | exact h.2.2.2
        · simp
        · simp; omega
        · exact hrun
        · first | omega | (simp [Pg.put, Pg.nl, width, wd1]; omega) | simp [Pg.put, Pg.nl]
        · first | omega | (simp [Pg.put, Pg.nl, width, wd1]; omega) | simp [Pg.put, Pg.nl]
        · first | omega | (simp [Pg.put, Pg.nl, width, wd1]; omega) | simp [Pg.put, Pg.nl]
        · first | omega | (simp [Pg.put, Pg.nl, width, wd1]; omega) | simp [Pg.put, Pg.nl]
    by_cases k3 : qk = 3
    · subst k3
      simp at hrun
      cases top with
      | true =>
        simp (disch := first | omega | (simp only [List.length_set]; omega)) [hl, h1, h7, h8, h9, h10, h11, h34, h35, h36]
        refine go _ _ _ (true :: gr) tok a p ?_ ?_ ?_ ?_ ?_ ?_ ?_ ?_ ?_ ?_ ?_ ?_ ?_ ?_ ?_ ?_ ?_ ?_ ?_ ?_ ?_
        · simp [hl]
        · simp (disch := first | omega | (simp only [List.length_set]; omega)) []
        · simp (disch := first | omega | (simp only [List.length_set]; omega)) []
        · simp (disch := first | omega | (simp only [List.length_set]; omega)) []
        · simp (disch := first | omega | (simp only [List.length_set]; omega)) []
        · simp (disch := first | omega | (simp only [List.length_set]; omega)) []
        · simp (disch := first | omega | (simp only [List.length_set]; omega)) []
        · simp (disch := first | omega | (simp only [List.length_set]; omega)) []
        · simp (disch := first | omega | (simp only [List.length_set]; omega)) []
        · simp (disch := first | omega | (simp only [List.length_set]; omega)) [wrap_id]
        · simp (disch := first | omega | (simp only [List.length_set]; omega)) [setL_ne]; simpa using st
        · simp (disch := first | omega | (simp only [List.length_set]; omega)) []; exact slIn_mono sb (fun q hq => by omega)
        · exact ps.mono (by omega)
        · rcases ok with h | h | h | h | h | h <;> first | (exfalso; omega) | exact h.2.2 | exact h.2.2.2
        · simp
        · simp; omega
        · exact hrun
        · first | omega | (simp [Pg.put, Pg.nl, width, wd1]; omega) | simp [Pg.put, Pg.nl]
        · first | omega | (simp [Pg.put, Pg.nl, width, wd1]; omega) | simp [Pg.put, Pg.nl]
        · first | omega | (simp [Pg.put, Pg.nl, width, wd1]; omega) | simp [Pg.put, Pg.nl]
        · first | omega | (simp [Pg.put, Pg.nl, width, wd1]; omega) | simp [Pg.put, Pg.nl]
      | false =>
        simp (disch := first | omega | (simp only [List.length_set]; omega)) [hl, h1, h7, h8, h9, h10, h11, h34, h35, h36]
        refine hcallI_use ((ps.mono (by omega)).nl_call (by omega) (by omega)) (by simp) (fun o τ' hn' hQ => ?_)
        obtain ⟨rfl, tok', ps'⟩ := hQ
        dsimp only at hn'
        simp (disch := first | omega | (simp only [List.length_set]; omega)) [hl, h1, h7, h8, h9, h10, h11, h34, h35, h36]
        refine go _ _ _ (false :: gr) tok' (.bp id 0 0) p.nl ?_ ?_ ?_ ?_ ?_ ?_ ?_ ?_ ?_ ?_ ?_ ?_ ?_ ?_ ?_ ?_ ?_ ?_ ?_ ?_ ?_
        · simp [hl]
        · simp (disch := first | omega | (simp only [List.length_set]; omega)) []
        · simp (disch := first | omega | (simp only [List.length_set]; omega)) []
        · simp (disch := first | omega | (simp only [List.length_set]; omega)) []
        · simp (disch := first | omega | (simp only [List.length_set]; omega)) []
        · simp (disch := first | omega | (simp only [List.length_set]; omega)) []
        · simp (disch := first | omega | (simp only [List.length_set]; omega)) []
        · simp (disch := first | omega | (simp only [List.length_set]; omega)) []
        · simp (disch := first | omega | (simp only [List.length_set]; omega)) []
        · simp (disch := first | omega | (simp only [List.length_set]; omega)) [wrap_id]
        · simp (disch := first | omega | (simp only [List.length_set]; omega)) [setL_ne]; simpa using st
        · simp (disch := first | omega | (simp only [List.length_set]; omega)) []; exact slIn_mono sb (fun q hq => by omega)
        · exact ps'.mono (by omega)
        · rcases ok with h | h | h | h | h | h <;> first | (exfalso; omega) | exact h.2.2 | exact h.2.2.2
        · simp
        · simp; omega
        · exact hrun
        · first | omega | (simp [Pg.put, Pg.nl, width, wd1]; omega) | simp [Pg.put, Pg.nl]
        · first | omega | (simp [Pg.put, Pg.nl, width, wd1]; omega) | simp [Pg.put, Pg.nl]
        · first | omega | (simp [Pg.put, Pg.nl, width, wd1]; omega) | simp [Pg.put, Pg.nl]
        · first | omega | (simp [Pg.put, Pg.nl, width, wd1]; omega) | simp [Pg.put, Pg.nl]
    by_cases k4 : qk = 4
    · subst k4
      simp at hrun
      simp (disch := first | omega | (simp only [List.length_set]; omega)) [hl, h1, h7, h8, h9, h10, h11, h34, h35, h36]
      refine hcallI_use ((ps.mono (by omega)).nl_call (by omega) (by omega)) (by simp) (fun o τ' hn' hQ => ?_)
      obtain ⟨rfl, tok', ps'⟩ := hQ
      dsimp only at hn'
      simp (disch := first | omega | (simp only [List.length_set]; omega)) [hl, h1, h7, h8, h9, h10, h11, h34, h35, h36]
      refine go _ _ _ (top :: gr) tok' (.bp id 0 0) p.nl ?_ ?_ ?_ ?_ ?_ ?_ ?_ ?_ ?_ ?_ ?_ ?_ ?_ ?_ ?_ ?_ ?_ ?_ ?_ ?_ ?_
      · simp [hl]
      · simp (disch := first | omega | (simp only [List.length_set]; omega)) []
      · simp (disch := first | omega | (simp only [List.length_set]; omega)) []
      · simp (disch := first | omega | (simp only [List.length_set]; omega)) []
      · simp (disch := first | omega | (simp only [List.length_set]; omega)) []
      · simp (disch := first | omega | (simp only [List.length_set]; omega)) []
      · simp (disch := first | omega | (simp only [List.length_set]; omega)) []
      · simp (disch := first | omega | (simp only [List.length_set]; omega)) []
      · simp (disch := first | omega | (simp only [List.length_set]; omega)) []
      · simp (disch := first | omega | (simp only [List.length_set]; omega)) [wrap_id]
      · simp (disch := first | omega | (simp only [List.length_set]; omega)) [setL_ne]; simpa using st
      · simp (disch := first | omega | (simp only [List.length_set]; omega)) []; exact slIn_mono sb (fun q hq => by omega)
      · exact ps'.mono (by omega)
      · rcases ok with h | h | h | h | h | h <;> first | (exfalso; omega) | exact h.2.2 | exact h.2.2.2
      · simp
      · simp; omega
      · exact hrun
      · first | omega | (simp [Pg.put, Pg.nl, width, wd1]; omega) | simp [Pg.put, Pg.nl]
      · first | omega | (simp [Pg.put, Pg.nl, width, wd1]; omega) | simp [Pg.put, Pg.nl]
      · first | omega | (simp [Pg.put, Pg.nl, width, wd1]; omega) | simp [Pg.put, Pg.nl]
      · first | omega | (simp [Pg.put, Pg.nl, width, wd1]; omega) | simp [Pg.put, Pg.nl]
    by_cases k5 : qk = 5
    · subst k5
      simp at hrun
      have hn6 : 5 = 5 ∧ True := by simp
      simp (disch := first | omega | (simp only [List.length_set]; omega)) [hl, h1, h7, h8, h9, h10, h11, h34, h35, h36, ps.at, pgP, wrap_id]
      refine go _ _ _ (top :: gr) tok a { p with nest := p.nest + 1 } ?_ ?_ ?_ ?_ ?_ ?_ ?_ ?_ ?_ ?_ ?_ ?_ ?_ ?_ ?_ ?_ ?_ ?_ ?_ ?_ ?_
      · simp [hl]
      · simp (disch := first | omega | (simp only [List.length_set]; omega)) []
      · simp (disch := first | omega | (simp only [List.length_set]; omega)) []
      · simp (disch := first | omega | (simp only [List.length_set]; omega)) []
      · simp (disch := first | omega | (simp only [List.length_set]; omega)) []
      · simp (disch := first | omega | (simp only [List.length_set]; omega)) []
      · simp (disch := first | omega | (simp only [List.length_set]; omega)) []
      · simp (disch := first | omega | (simp only [List.length_set]; omega)) []
      · simp (disch := first | omega | (simp only [List.length_set]; omega)) []
      · simp (disch := first | omega | (simp only [List.length_set]; omega)) [wrap_id]
      · simp (disch := first | omega | (simp only [List.length_set]; omega)) [setL_ne]; simpa using st
      · simp (disch := first | omega | (simp only [List.length_set]; omega)) []; exact slIn_mono sb (fun q hq => by omega)
      · exact ps.set { p with nest := p.nest + 1 } rfl (by simp [pgP]) (by omega)
      · rcases ok with h | h | h | h | h | h <;> first | (exfalso; omega) | exact h.2.2 | exact h.2.2.2
      · simp
      · simp; omega
      · exact hrun
      · first | omega | (simp [Pg.put, Pg.nl, width, wd1]; omega) | simp [Pg.put, Pg.nl]
      · first | omega | (simp [Pg.put, Pg.nl, width, wd1]; omega) | simp [Pg.put, Pg.nl]
      · first | omega | (simp [Pg.put, Pg.nl, width, wd1]; omega) | simp [Pg.put, Pg.nl]
      · first | omega | (simp [Pg.put, Pg.nl, width, wd1]; omega) | simp [Pg.put, Pg.nl]
    by_cases k6 : qk = 6
    · subst k6
      simp at hrun
      have hn6 : 0 < p.nest := by rcases ok with h | h | h | h | h | h <;> first | (exfalso; omega) | exact h.2.2.1
      simp (disch := first | omega | (simp only [List.length_set]; omega)) [hl, h1, h7, h8, h9, h10, h11, h34, h35, h36, ps.at, pgP, wrap_id]
      refine go _ _ _ (top :: gr) tok a { p with nest := p.nest - 1 } ?_ ?_ ?_ ?_ ?_ ?_ ?_ ?_ ?_ ?_ ?_ ?_ ?_ ?_ ?_ ?_ ?_ ?_ ?_ ?_ ?_
      · simp [hl]
      · simp (disch := first | omega | (simp only [List.length_set]; omega)) []
      · simp (disch := first | omega | (simp only [List.length_set]; omega)) []
      · simp (disch := first | omega | (simp only [List.length_set]; omega)) []
      · simp (disch := first | omega | (simp only [List.length_set]; omega)) []
      · simp (disch := first | omega | (simp only [List.length_set]; omega)) []
      · simp (disch := first | omega | (simp only [List.length_set]; omega)) []
      · simp (disch := first | omega | (simp only [List.length_set]; omega)) []
      · simp (disch := first | omega | (simp only [List.length_set]; omega)) []
      · simp (disch := first | omega | (simp only [List.length_set]; omega)) [wrap_id]
      · simp (disch := first | omega | (simp only [List.length_set]; omega)) [setL_ne]; simpa using st
      · simp (disch := first | omega | (simp only [List.length_set]; omega)) []; exact slIn_mono sb (fun q hq => by omega)
      · exact ps.set { p with nest := p.nest - 1 } rfl (by simp [pgP]; omega) (by omega)
      · rcases ok with h | h | h | h | h | h <;> first | (exfalso; omega) | exact h.2.2 | exact h.2.2.2
      · simp
      · simp; omega
      · exact hrun
      · first | omega | (simp [Pg.put, Pg.nl, width, wd1]; omega) | simp [Pg.put, Pg.nl]
      · first | omega | (simp [Pg.put, Pg.nl, width, wd1]; omega) | simp [Pg.put, Pg.nl]
      · first | omega | (simp [Pg.put, Pg.nl, width, wd1]; omega) | simp [Pg.put, Pg.nl]
      · first | omega | (simp [Pg.put, Pg.nl, width, wd1]; omega) | simp [Pg.put, Pg.nl]
    by_cases k7 : qk = 7
    · subst k7
      simp at hrun
      have hg : ∃ m, mend (l.drop i) 0 = some m ∧ A.E[i]? = some ((i + m : Nat) : Int) ∧ i + m < l.length := by
        rcases hE.cl i _ hlt hq rfl with h | h
        · cases h
        · exact h
      obtain ⟨m, hm, hem, hml⟩ := hg
      have ele := elems_boxed ps.fe hE.el
      have hem' := nums_at hem
      have hfit := fits_arr hq rfl hm p.col w
      have el1 := elems_boxed ps.f1 hS.fl
      have el2 := elems_boxed ps.f2 hS.hl
      have el3 := elems_boxed ps.f3 hS.tl
      have F1 := nums_at (hS.f (i + m) (by omega))
      have F0 := nums_at (hS.f i (by omega))
      have H1 := nums_at (hS.h (i + m) (by omega))
      have H0 := nums_at (hS.h i (by omega))
      have T1 := nums_at (hS.t (i + m) (by omega))
      have m0 : (0 : Int) ≤ ((i : Int) + m) := by omega
      have w1 := flatS_wid (l.take (i + m))
      have w0 := flatS_wid (l.take i)
      have w2 := tailS_wid (l.drop (i + m))
      have w3 := wid_take_drop l (i + m)
      have w4 := wid_take_drop l i
      have m1 : ((i : Int) + m).toNat = i + m := by omega
      have fa := ps.f1; have fb := ps.f2; have fc := ps.f3; have fd := ps.fe
      simp (disch := first | omega | (simp only [List.length_set]; omega)) [hl, h1, h7, h8, h9, h10, h11, h34, h35, h36, ele, hem', fd]
      have hsw : slIn (FP.W (τ.next + 1 + 6 + 7 + 2 + 2 + 2 + 2 + 2 + 2 + 2 + 2 + 5) ⟨2, [35]⟩) (tmp ts 12) := slIn_mono sb (fun q hq => by simp [FP.W]; omega)
      cases top with
      | true =>
        simp at hrun
        simp (disch := first | omega | (simp only [List.length_set]; omega)) [hl, h1, h7, h8, h9, h10, h11, h34, h35, h36, st.grow]
        refine andI_intro (by omega) ?_
        simp (disch := first | omega | (simp only [List.length_set]; omega)) [hl, h1, h7, h8, h9, h10, h11, h34, h35, h36, st.grow, hsw]
        intro M hM
        refine go _ _ _ (true :: true :: gr) tok a p ?_ ?_ ?_ ?_ ?_ ?_ ?_ ?_ ?_ ?_ ?_ ?_ ?_ ?_ ?_ ?_ ?_ ?_ ?_ ?_ ?_
        · simp [hl]
        · simp (disch := first | omega | (simp only [List.length_set]; omega)) []
        · simp (disch := first | omega | (simp only [List.length_set]; omega)) []
        · simp (disch := first | omega | (simp only [List.length_set]; omega)) []
        · simp (disch := first | omega | (simp only [List.length_set]; omega)) []
        · simp (disch := first | omega | (simp only [List.length_set]; omega)) []
        · simp (disch := first | omega | (simp only [List.length_set]; omega)) []
        · simp (disch := first | omega | (simp only [List.length_set]; omega)) []
        · simp (disch := first | omega | (simp only [List.length_set]; omega)) []
        · simp (disch := first | omega | (simp only [List.length_set]; omega)) [wrap_id]
        · have := st.next (τ.next + 1 + 6 + 7 + 2 + 2 + 2 + 2 + 2 + 2 + 2 + 2 + 5 + 35) (ns := [[.bool true]]) (by simp) (by simp)
          simp (disch := first | omega | (simp only [List.length_set]; omega)) [setL_ne]
          simpa [bools] using this
        · simp (disch := first | omega | (simp only [List.length_set]; omega)) []; exact slIn_stkRes (by omega) _
        · exact ps.mono (by omega)
        · rcases ok with h | h | h | h | h | h <;> first | (exfalso; omega) | (simpa using h.2.2)
        · simp
        · simp; omega
        · exact hrun
        · first | omega | (simp [Pg.put, Pg.nl, width, wd1]; omega) | simp [Pg.put, Pg.nl]
        · first | omega | (simp [Pg.put, Pg.nl, width, wd1]; omega) | simp [Pg.put, Pg.nl]
        · first | omega | (simp [Pg.put, Pg.nl, width, wd1]; omega) | simp [Pg.put, Pg.nl]
        · first | omega | (simp [Pg.put, Pg.nl, width, wd1]; omega) | simp [Pg.put, Pg.nl]
      | false =>
        have d1 : A.i1 < τ.next + 1 + 6 + 7 + 2 + 2 + 2 + 2 + 2 + 2 + 2 + 2 + 5 := by have := ps.l1; omega
        have d2 : A.i2 < τ.next + 1 + 6 + 7 + 2 + 2 + 2 + 2 + 2 + 2 + 2 + 2 + 5 := by have := ps.l2; omega
        have d3 : A.i3 < τ.next + 1 + 6 + 7 + 2 + 2 + 2 + 2 + 2 + 2 + 2 + 2 + 5 := by have := ps.l3; omega
        have d4 : id < τ.next + 1 + 6 + 7 + 2 + 2 + 2 + 2 + 2 + 2 + 2 + 2 + 5 := by have := ps.b.lt; omega
        simp at hrun
        by_cases hh : hardS (l.take (i + m)) = hardS (l.take i)
        · simp (disch := first | omega | (simp only [List.length_set]; omega)) [hl, h1, h7, h8, h9, h10, h11, h34, h35, h36, ele, hem', fa, fb, fc, fd, el1, el2, el3, F1, F0, H1, H0, T1, m0, m1, d1, d2, d3, d4, hh, ps.at, pgP, wrap_id, st.grow]
          refine andI_intro (by first | omega | (simp; omega)) ?_
          simp (disch := first | omega | (simp only [List.length_set]; omega)) [hl, h1, h7, h8, h9, h10, h11, h34, h35, h36, st.grow, hsw]
          intro M hM
          rw [← drop_at hq, hfit] at hrun
          simp only [hh, decide_true, Bool.true_and] at hrun
          refine go _ _ _ ((decide ((p.col : Int) + flatS (l.take (i + m)) - flatS (l.take i) + tailS (l.drop (i + m)) ≤ w)) :: false :: gr) tok a p ?_ ?_ ?_ ?_ ?_ ?_ ?_ ?_ ?_ ?_ ?_ ?_ ?_ ?_ ?_ ?_ ?_ ?_ ?_ ?_ ?_
          · simp [hl]
          · simp (disch := first | omega | (simp only [List.length_set]; omega)) []
          · simp (disch := first | omega | (simp only [List.length_set]; omega)) []
          · simp (disch := first | omega | (simp only [List.length_set]; omega)) []
          · simp (disch := first | omega | (simp only [List.length_set]; omega)) []
          · simp (disch := first | omega | (simp only [List.length_set]; omega)) []
          · simp (disch := first | omega | (simp only [List.length_set]; omega)) []
          · simp (disch := first | omega | (simp only [List.length_set]; omega)) []
          · simp (disch := first | omega | (simp only [List.length_set]; omega)) []
          · simp (disch := first | omega | (simp only [List.length_set]; omega)) [wrap_id]
          · have := st.next (τ.next + 1 + 6 + 7 + 2 + 2 + 2 + 2 + 2 + 2 + 2 + 2 + 5 + 35) (ns := [[.bool (decide ((p.col : Int) + flatS (l.take (i + m)) - flatS (l.take i) + tailS (l.drop (i + m)) ≤ w))]]) (by simp) (by simp)
            simp (disch := first | omega | (simp only [List.length_set]; omega)) [setL_ne]
            simpa [bools] using this
          · simp (disch := first | omega | (simp only [List.length_set]; omega)) []; exact slIn_stkRes (by omega) _
          · exact ps.mono (by omega)
          · rcases ok with h | h | h | h | h | h <;> first | (exfalso; omega) | (simpa using h.2.2)
          · simp
          · simp; omega
          · exact hrun
          · first | omega | (simp [Pg.put, Pg.nl, width, wd1]; omega) | simp [Pg.put, Pg.nl]
          · first | omega | (simp [Pg.put, Pg.nl, width, wd1]; omega) | simp [Pg.put, Pg.nl]
          · first | omega | (simp [Pg.put, Pg.nl, width, wd1]; omega) | simp [Pg.put, Pg.nl]
          · first | omega | (simp [Pg.put, Pg.nl, width, wd1]; omega) | simp [Pg.put, Pg.nl]
        · have hh' : ¬ (hardS (l.take (i + m)) : Int) = (hardS (l.take i) : Int) := by omega
          simp (disch := first | omega | (simp only [List.length_set]; omega)) [hl, h1, h7, h8, h9, h10, h11, h34, h35, h36, ele, hem', fa, fb, fc, fd, el1, el2, el3, F1, F0, H1, H0, T1, m0, m1, d1, d2, d3, hh, hh', st.grow]
          refine andI_intro (by first | omega | (simp; omega)) ?_
          simp (disch := first | omega | (simp only [List.length_set]; omega)) [hl, h1, h7, h8, h9, h10, h11, h34, h35, h36, st.grow, hsw]
          intro M hM
          rw [← drop_at hq, hfit] at hrun
          simp only [hh, decide_false, Bool.false_and] at hrun
          refine go _ _ _ (false :: false :: gr) tok a p ?_ ?_ ?_ ?_ ?_ ?_ ?_ ?_ ?_ ?_ ?_ ?_ ?_ ?_ ?_ ?_ ?_ ?_ ?_ ?_ ?_
          · simp [hl]
          · simp (disch := first | omega | (simp only [List.length_set]; omega)) []
          · simp (disch := first | omega | (simp only [List.length_set]; omega)) []
          · simp (disch := first | omega | (simp only [List.length_set]; omega)) []
          · simp (disch := first | omega | (simp only [List.length_set]; omega)) []
          · simp (disch := first | omega | (simp only [List.length_set]; omega)) []
          · simp (disch := first | omega | (simp only [List.length_set]; omega)) []
          · simp (disch := first | omega | (simp only [List.length_set]; omega)) []
          · simp (disch := first | omega | (simp only [List.length_set]; omega)) []
          · simp (disch := first | omega | (simp only [List.length_set]; omega)) [wrap_id]
          · have := st.next (τ.next + 1 + 6 + 7 + 2 + 2 + 2 + 2 + 2 + 2 + 2 + 2 + 5 + 35) (ns := [[.bool false]]) (by simp) (by simp)
            simp (disch := first | omega | (simp only [List.length_set]; omega)) [setL_ne]
            simpa [bools] using this
          · simp (disch := first | omega | (simp only [List.length_set]; omega)) []; exact slIn_stkRes (by omega) _
          · exact ps.mono (by omega)
          · rcases ok with h | h | h | h | h | h <;> first | (exfalso; omega) | (simpa using h.2.2)
          · simp
          · simp; omega
          · exact hrun
          · first | omega | (simp [Pg.put, Pg.nl, width, wd1]; omega) | simp [Pg.put, Pg.nl]
          · first | omega | (simp [Pg.put, Pg.nl, width, wd1]; omega) | simp [Pg.put, Pg.nl]
          · first | omega | (simp [Pg.put, Pg.nl, width, wd1]; omega) | simp [Pg.put, Pg.nl]
          · first | omega | (simp [Pg.put, Pg.nl, width, wd1]; omega) | simp [Pg.put, Pg.nl]
    by_cases k8 : qk = 8
    · subst k8
      simp at hrun
      simp (disch := first | omega | (simp only [List.length_set]; omega)) [hl, h1, h7, h8, h9, h10, h11, h34, h35, h36, slen', sel', c1]
      refine andI_intro ⟨by omega, fun e he => by rcases he with he | rfl; (· exact bools_e1 he); rfl⟩ ?_
      simp (disch := first | omega | (simp only [List.length_set]; omega)) [hl, h1, h7, h8, h9, h10, h11, h34, h35, h36, slen', sel', c1]
      refine go _ _ _ gr tok a p ?_ ?_ ?_ ?_ ?_ ?_ ?_ ?_ ?_ ?_ ?_ ?_ ?_ ?_ ?_ ?_ ?_ ?_ ?_ ?_ ?_
      · simp [hl]
      · simp (disch := first | omega | (simp only [List.length_set]; omega)) []
      · simp (disch := first | omega | (simp only [List.length_set]; omega)) []
      · simp (disch := first | omega | (simp only [List.length_set]; omega)) []
      · simp (disch := first | omega | (simp only [List.length_set]; omega)) []
      · simp (disch := first | omega | (simp only [List.length_set]; omega)) []
      · simp (disch := first | omega | (simp only [List.length_set]; omega)) []
      · simp (disch := first | omega | (simp only [List.length_set]; omega)) []
      · simp (disch := first | omega | (simp only [List.length_set]; omega)) []
      · simp (disch := first | omega | (simp only [List.length_set]; omega)) [wrap_id]
      · have := st.cut (n := gr.length) (by simp) hne
        simp (disch := first | omega | (simp only [List.length_set]; omega)) [setL_ne]
        simpa [bools] using this
      · simp (disch := first | omega | (simp only [List.length_set]; omega)) []; exact slIn_sub (slIn_mono sb (fun q hq => by omega)) _ _
      · exact ps.mono (by omega)
      · rcases ok with h | h | h | h | h | h <;> first | (exfalso; omega) | exact h.2.2.2
      · rcases ok with h | h | h | h | h | h <;> first | (exfalso; omega) | (simpa using h.2.2.1)
      · omega
      · exact hrun
      · first | omega | (simp [Pg.put, Pg.nl, width, wd1]; omega) | simp [Pg.put, Pg.nl]
      · first | omega | (simp [Pg.put, Pg.nl, width, wd1]; omega) | simp [Pg.put, Pg.nl]
      · first | omega | (simp [Pg.put, Pg.nl, width, wd1]; omega) | simp [Pg.put, Pg.nl]
      · first | omega | (simp [Pg.put, Pg.nl, width, wd1]; omega) | simp [Pg.put, Pg.nl]
    · omega
  · have : i = l.length := by omega
    subst this
    simp (disch := first | omega | (simp only [List.length_set]; omega)) [hlt, hl, h34, h35, h36]
    rw [List.drop_of_length_le (Nat.le_refl _)] at hR bs
    rw [run] at hR; subst hR
    simp only [wid] at bs
    exact hK _ _ _ tok a (by simp [hl]) (by simp (disch := first | omega | (simp only [List.length_set]; omega)) [h11]) (ps.mono (by omega)) (by omega)
end Go.Proofs.Ytoeonamjbohokaa.Lt

/- layout.Of: the whole. -/
namespace Go.Proofs.Ytoeonamjbohokaa.Lt
open Go.Proofs.YtoeonamjbohokaaW.Abs Go
set_option maxRecDepth 100000
set_option maxHeartbeats 4000000
set_option linter.unusedSimpArgs false
set_option linter.unusedVariables false
variable {W0 : World}

def pg0 : Pg := ⟨[], 0, 0, 0⟩
def layR (w : Int) (l : List Pc) : AV := if w < 1 ∨ 65535 < w then .tup [.str [], .int .i64 1] else .tup [.str (run w l [false] pg0).s, .int .i64 0]

theorem layOf_spec (t : T) (hok : t.ok) (hll : (plain t).length ≤ 2000) (hwl : wid (plain t) ≤ 3000000) (hk : okd (plain t) 0 0) (w : Int) : PCall Try.prog W0 13 [.agg t.enc, .int .i64 w] (layR w (plain t)) := by
  have hp := plain_spec (W0 := W0) t hok (by omega)
  have hte : t.enc.length = 3 := T.enc_len t
  have htb := T.bare_enc t
  have hto := T.enc_ones t
  generalize plain t = l at *
  refine pcall2 cok Try.func13 F13d F13e F13c F13w F13r (fun N => ?_)
  refine ev2I_intro ?_
  simp (disch := first | omega | (simp only [List.length_set]; omega)) [F13s]
  by_cases c1 : w < 1
  · simp (disch := first | omega | (simp only [List.length_set]; omega)) [c1, layR]
  by_cases c2 : 65535 < w
  · simp (disch := first | omega | (simp only [List.length_set]; omega)) [c1, c2, layR]
  simp (disch := first | omega | (simp only [List.length_set]; omega)) [c1, c2]
  refine hcallI_pure hp (by simp) (fun M hM => ?_)
  have hL := IsRow.rowV (l.map Pc.enc)
  have hLb : (rowV (l.map Pc.enc)).bare = rowV (l.map Pc.enc) := hL.same (by rw [bareLL_map]; exact List.map_congr_left fun p _ => Pc.bare_enc p)
  generalize rowV (l.map Pc.enc) = L at *
  simp (disch := first | omega | (simp only [List.length_set]; omega)) []
  refine hcallI_use (sums_spec l hL (by omega) (by omega) _) (by simp [bareL, hLb]) (fun o τ1 hn1 hQ => ?_)
  obtain ⟨i1, i2, i3, F, H, T, rfl, g0, g1, g2, g3, f1, f2, f3, hS⟩ := hQ
  simp (disch := first | omega | (simp only [List.length_set]; omega)) []
  refine hcallI_use (HCalls.part (ends_spec l hL (by omega) hk _) (h := τ1.obj) (fun q x e => by cases e)) (by simp [bareL, hLb]) (fun o τ2 hn2 hQ => ?_)
  obtain ⟨k1, h', ⟨ie, E, rfl, e0, e1, fe, hE⟩, k2⟩ := hQ
  dsimp only at hn1 hn2 k1 e0 e1 fe
  simp (disch := first | omega | (simp only [List.length_set]; omega)) [hL.len]
  have hne : ∀ q, q < τ2.next → upd τ2.obj τ2.next (some (.box 66 [[.nilp, .nils, .int .i64 0, .int .i64 0, .int .i64 0]])) q = τ2.obj q := fun q hq => upd_ne (show q ≠ τ2.next by omega) _
  have q1 := k1 i1 _ (by omega) rfl f1
  have q2 := k1 i2 _ (by omega) rfl f2
  have q3 := k1 i3 _ (by omega) rfl f3
  have q4 := k2 ie _ fe
  refine of_loop hL hll hwl (w := w) (A := ⟨i1, i2, i3, ie, F, H, T, E⟩) (R := run w l [false] pg0) (id := τ2.next) hS hE (fun ts loc τ tok a g0 g11 ps hb => ?_) _ _ _ 0 [false] 0 .nilp pg0 ?_
  · simp (disch := first | omega | (simp only [List.length_set]; omega)) [g0, g11]
    refine hcallI_use (HCalls.part (string_spec (ps.b.mono (by omega)) hb) ps.sub) (by simp) (fun o τ' hn' hQ => ?_)
    obtain ⟨_, h'', ⟨rfl, _⟩, _⟩ := hQ
    simp (disch := first | omega | (simp only [List.length_set]; omega)) [g0, layR, c1, c2]
  · refine ⟨by omega, rfl, rfl, rfl, rfl, rfl, rfl, rfl, rfl, rfl, rfl, ?_, ?_, ?_, ?_, by simp, by simp, by simp, by simp [pg0], by simp [pg0], ?_, ?_⟩
    · exact ⟨.inr ⟨τ2.next + 1, [[.bool false]], by simp [setL], rfl, by simp, by simp [bools], by simp, by simp⟩⟩
    · show τ2.next + 1 < τ2.next + 1 + 2 + 3; omega
    · refine ⟨⟨by dsimp only; omega, .inl rfl, fun h => absurd rfl h⟩, fun q x hx => ?_, ?_, ?_, ?_, ?_, by dsimp only; omega, by dsimp only; omega, by dsimp only; omega, by dsimp only; omega⟩
      · dsimp only [pg0] at hx
        by_cases e : q = τ2.next
        · subst e; rw [bh_id] at hx; rw [← hx]; simp [pgP, accV, ind]
        · rw [bh_none e (fun h => absurd rfl h)] at hx; cases hx
      · exact (hne i1 (by omega)).trans q1
      · exact (hne i2 (by omega)).trans q2
      · exact (hne i3 (by omega)).trans q3
      · exact (hne ie (by omega)).trans q4
    · simpa [pg0] using hk
    · simp [pg0]
    · simp [pg0]
end Go.Proofs.Ytoeonamjbohokaa.Lt
