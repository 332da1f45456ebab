/- A plan that came in, and how much it is. -/
import Derived.Test.YtgahmpfpnclefaaRows
import Derived.Test.YtgahmpfpnclefaaDoc11
namespace Go.Proofs.Ytgahmpfpnclefaa.Lt
open Go.Proofs.YtgahmpfpnclefaaW.Abs Go
set_option maxRecDepth 100000
set_option linter.unusedSimpArgs false
set_option linter.unusedVariables false

theorem sum_le {H : Type} : ∀ (ys : List T) (elems : List (DataW H)), (∀ (i : Nat) y, ys[i]? = some y → ∃ di, elems[i]? = some di ∧ bulk y ≤ Rows.uptoBulk di) → bulkL ys ≤ Rows.uptoBulkAll elems
  | [], elems, h => by simp [bulkL]
  | y :: r, [], h => by obtain ⟨di, h1, _⟩ := h 0 y rfl; simp at h1
  | y :: r, d :: e, h => by
    obtain ⟨di, h1, h2⟩ := h 0 y rfl
    cases h1
    have := sum_le r e (fun i z hz => h (i + 1) z (by simpa using hz))
    simp only [bulkL, Rows.uptoBulkAll]; omega

theorem rd_B {H : Type} {W : World} {enc : TypeId × Value → H} : ∀ (fuel : Nat) (t : TypeId), isPlan t → ∀ (cs : List Value) (d : DataW H) (ps : List MemPlace), DataW.trod enc Try.prog W 0 (fun _ => true) true fuel t cs = some (d, ps) →
    ∃ x : T, Reps (inE W) x.enc cs ∧ bulk x ≤ Rows.uptoBulk d := by
  intro fuel
  induction fuel using Nat.strongRecOn with
  | _ fuel ih =>
    intro t hp cs d ps h
    obtain ⟨c0, c1, c2, d0, d1, d2, p0, p1, p2, n, rfl, rfl, rfl, h0, h1, h2⟩ := agg3 hp fuel h
    obtain ⟨k, e0, rfl, _⟩ := inInt Try.underlying3 h0
    cases e0
    obtain ⟨s, e1, rfl⟩ := inString Try.underlying9 h1
    cases e1
    have hu := hp.1.trans Try.underlying24
    have he22 := Try.underlying22
    have hc24 : Try.prog.cellsOf 24 = 3 := by kernel_rfl
    have hpe : isPlan 24 := ⟨rfl, hc24⟩
    rcases inSlice he22 (by rw [hpe.2]; decide) h2 (Q := fun x di => ∃ y : T, x = y.enc ∧ bulk y ≤ Rows.uptoBulk di) (fun m hm cs d ps hh => by
      obtain ⟨y, hy, hok⟩ := ih m (by omega) 24 hpe cs d ps hh
      exact ⟨y.enc, hy, by simp, y, rfl, hok⟩) with ⟨e2, rfl⟩ | ⟨a, cap, elems, rest, es, e2, rfl, hlen, hrow, hel⟩
    · cases e2
      refine ⟨.mk k s true [], ?_, ?_⟩
      · rw [T.enc_mk]; exact .cons (.int _ _) (.cons (.str _) (.cons .nils .nil))
      · simp [bulk, bulkL, Rows.uptoBulk, Rows.uptoBulkAll]; omega
    · cases e2
      obtain ⟨ys, hyl, hys⟩ := list_of (R := fun i (y : T) => ∃ di, es[i]? = some y.enc ∧ elems[i]? = some di ∧ bulk y ≤ Rows.uptoBulk di) es.length (fun i hi => by
        obtain ⟨di, hdi, y, hy, hok⟩ := hel i es[i] (List.getElem?_eq_getElem hi)
        exact ⟨y, di, by rw [List.getElem?_eq_getElem hi, hy], hdi, hok⟩)
      have hes : es = ys.map T.enc := by
        apply List.ext_getElem?
        intro i
        rw [List.getElem?_map]
        rcases Nat.lt_or_ge i ys.length with hi | hi
        · obtain ⟨di, h1, _, _⟩ := hys i ys[i] (List.getElem?_eq_getElem hi)
          rw [h1, List.getElem?_eq_getElem hi]; rfl
        · rw [List.getElem?_eq_none hi, List.getElem?_eq_none (by omega)]; rfl
      refine ⟨.mk k s false ys, ?_, ?_⟩
      · rw [T.enc_mk, kidsV_false, ← hes]; exact .cons (.int _ _) (.cons (.str _) (.cons hrow .nil))
      · have := sum_le ys elems (fun i y hy => by obtain ⟨di, _, h2, h3⟩ := hys i y hy; exact ⟨di, h2, h3⟩)
        simp [bulk, Rows.uptoBulk, Rows.uptoBulkAll]; omega
end Go.Proofs.Ytgahmpfpnclefaa.Lt
