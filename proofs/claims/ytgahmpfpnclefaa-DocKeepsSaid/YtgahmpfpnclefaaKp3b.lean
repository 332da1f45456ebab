/- Pieces that are written: the law's loop. -/
import Derived.Test.YtgahmpfpnclefaaKp3
namespace Go.Proofs.Ytgahmpfpnclefaa.Lt
open Go.Proofs.YtgahmpfpnclefaaW.Abs Go
set_option maxRecDepth 100000
set_option maxHeartbeats 1000000
set_option linter.unusedSimpArgs false
set_option linter.unusedVariables false
variable {W0 : World}

@[simp] theorem accS_len (tok : Nat) (acc : List Pc) : lenOf (accS tok acc) = some acc.length := by
  unfold accS; split
  · rename_i h; subst h; rfl
  · rfl
theorem elems_pcs {h : Hp} {id n : Nat} {ty : TypeId} {F : List Pc} (e : h id = some (.box ty (F.map Pc.enc))) (hn : F.length = n) : elems h (.sl id 0 n) = some (F.map Pc.enc) := by
  simp only [elems, e]; simp [hn]
  exact List.take_of_length_le (by simp; omega)
theorem setAt_pc {F : List Pc} {i : Nat} {p : Pc} (h : F[i]? = some p) (s : List UInt8) : setAt (F.map Pc.enc) i 1 [.str s] = (F.set i ⟨p.k, s⟩).map Pc.enc := by
  apply List.ext_getElem?
  intro q
  rw [setAt_get]
  simp only [List.getElem?_map, List.getElem?_set]
  by_cases hq : i = q
  · subst hq
    have hi : i < F.length := (List.getElem?_eq_some_iff.1 h).1
    rw [if_pos rfl, if_pos rfl, if_pos hi, h]
    rfl
  · rw [if_neg hq, if_neg hq]

theorem keeps_loop {K : KC2} (L : List Pc) (tok : Nat) (hl : L.length ≤ 1048576) (hs : ∀ p ∈ L, p.s.length ≤ 140737488355328) (w3 w4 w6 w7 w8 w9 : AV) (c1 c2 c3 : LC)
    (hK : ∀ ts loc (τ : Heap), ts.length = 83 → tmp ts 3 = w3 → tmp ts 4 = w4 → tmp ts 6 = w6 → tmp ts 7 = w7 → tmp ts 8 = w8 → tmp ts 9 = w9 → loc 1 = c1 → loc 2 = c2 → loc 3 = c3 → K.k (.exit 0) ts loc τ)
    (ts : List AV) (loc : Go.Proofs.YtgahmpfpnclefaaW.Abs.Loc) (τ : Heap) (gl : ts.length = 83) (g3 : tmp ts 3 = w3) (g4 : tmp ts 4 = w4) (g6 : tmp ts 6 = w6) (g7 : tmp ts 7 = w7) (g8 : tmp ts 8 = w8) (g9 : tmp ts 9 = w9)
    (l1 : loc 1 = c1) (l2 : loc 2 = c2) (l3 : loc 3 = c3) (g10 : tmp ts 10 = accS tok L) (g11 : tmp ts 11 = .int .i64 0) (hb : L ≠ [] → τ.obj tok = some (.box 43 (L.map Pc.enc))) :
    loop2I Try.prog W0 C [(5, 3)] F7l0 ts loc τ := by
  refine loop2I_ind cok F7l0w (m := fun i => L.length - i) (I := fun i ts loc τ => i ≤ L.length ∧ ts.length = 83 ∧ tmp ts 3 = w3 ∧ tmp ts 4 = w4 ∧ tmp ts 6 = w6 ∧ tmp ts 7 = w7 ∧ tmp ts 8 = w8 ∧ tmp ts 9 = w9 ∧ loc 1 = c1 ∧ loc 2 = c2 ∧ loc 3 = c3 ∧ tmp ts 10 = accS tok L ∧ tmp ts 11 = .int .i64 i ∧
    (L ≠ [] → ∃ F : List Pc, τ.obj tok = some (.box 43 (F.map Pc.enc)) ∧ F.length = L.length ∧ ∀ q, i ≤ q → F[q]? = L[q]?)) ?_ 0
    ⟨by omega, gl, g3, g4, g6, g7, g8, g9, l1, l2, l3, g10, g11, fun hne => ⟨L, hb hne, rfl, fun _ _ => rfl⟩⟩
  clear gl g3 g4 g6 g7 g8 g9 l1 l2 l3 g10 g11 hb ts loc τ
  rintro i ts loc τ ⟨hi, gl, g3, g4, g6, g7, g8, g9, l1, l2, l3, g10, g11, hb⟩ ih'
  simp (disch := first | omega | (simp only [List.length_set]; omega)) [F7l0, gl, g10, g11]
  by_cases hlt : i < L.length
  · have hne : L ≠ [] := fun e => by subst e; simp at hlt
    obtain ⟨F, hF, hFl, hFq⟩ := hb hne
    have g10' : tmp ts 10 = .sl tok 0 L.length := by rw [g10, accS, if_neg hne]
    obtain ⟨p, hp⟩ : ∃ p, L[i]? = some p := ⟨L[i], by simp [hlt]⟩
    have hFp : F[i]? = some p := by rw [hFq i (by omega)]; exact hp
    have he := elems_pcs hF hFl
    have hpe : (F.map Pc.enc)[i]? = some p.enc := by simp [hFp]
    have hbx : boxAt (τ.obj tok) i = some p.enc := by rw [hF]; exact hpe
    have hps := hs p (List.mem_of_getElem? hp)
    obtain ⟨pk, ps⟩ := p
    have hst := setAt_pc hFp (ps ++ [63])
    dsimp only at hps hst
    have hps' : ps.length + 1 ≤ 9223372036854775807 := by omega
    simp (disch := first | omega | (simp only [List.length_set]; omega)) [hlt, gl, g10', g11, he, hpe, hbx, hps', hF, hst, wrap_id]
    refine ih' (i + 1) _ _ _ (by omega) ⟨by omega, ?_⟩
    simp (disch := first | omega | (simp only [List.length_set]; omega)) [gl, g3, g4, g6, g7, g8, g9, l1, l2, l3, g10, g11, wrap_id]
    intro _
    refine ⟨F.set i ⟨pk, ps ++ [63]⟩, by simp, by simp [hFl], fun q hq => ?_⟩
    rw [List.getElem?_set_ne (by omega)]
    exact hFq q (by omega)
  · simp (disch := first | omega | (simp only [List.length_set]; omega)) [hlt, gl, g10, g11]
    exact hK _ _ _ (by simp [gl]) (by simp (disch := first | omega | (simp only [List.length_set]; omega)) [g3]) (by simp (disch := first | omega | (simp only [List.length_set]; omega)) [g4]) (by simp (disch := first | omega | (simp only [List.length_set]; omega)) [g6]) (by simp (disch := first | omega | (simp only [List.length_set]; omega)) [g7]) (by simp (disch := first | omega | (simp only [List.length_set]; omega)) [g8]) (by simp (disch := first | omega | (simp only [List.length_set]; omega)) [g9]) l1 l2 l3
end Go.Proofs.Ytgahmpfpnclefaa.Lt
