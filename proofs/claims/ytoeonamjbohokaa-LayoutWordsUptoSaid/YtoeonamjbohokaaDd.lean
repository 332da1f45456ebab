import Derived.Test.YtoeonamjbohokaaRows
import Derived.Test.YtoeonamjbohokaaDc
/- A plan that came in, and how much it is. -/
namespace Go.Proofs.Ytoeonamjbohokaa.Lt
open Go.Proofs.YtoeonamjbohokaaW.Abs Go
set_option maxRecDepth 100000
set_option linter.unusedSimpArgs false
set_option linter.unusedVariables false

theorem sum_le {H : Type} : ∀ (ys : List T) (elems : List (DataW H)), (∀ (i : Nat) y, ys[i]? = some y → ∃ di, elems[i]? = some di ∧ bulk y ≤ Rows.uptoBulk di) → bulkL ys ≤ Rows.uptoBulkAll elems
  | [], elems, h => by simp [bulkL]
  | y :: r, [], h => by obtain ⟨di, h1, _⟩ := h 0 y rfl; simp at h1
  | y :: r, d :: e, h => by
    obtain ⟨di, h1, h2⟩ := h 0 y rfl
    cases h1
    have := sum_le r e (fun i z hz => h (i + 1) z (by simpa using hz))
    simp only [bulkL, Rows.uptoBulkAll]; omega

theorem rd_B {H : Type} {W : World} {enc : TypeId × Value → H} : ∀ (fuel : Nat) (t : TypeId), isPlan t → ∀ (cs : List Value) (d : DataW H) (ps : List MemPlace), DataW.trod enc Try.prog W 0 (fun _ => true) true fuel t cs = some (d, ps) →
    ∃ x : T, Reps (inE W) x.enc cs ∧ bulk x ≤ Rows.uptoBulk d := by
  intro fuel
  induction fuel using Nat.strongRecOn with
  | _ fuel ih =>
    intro t hp cs d ps h
    obtain ⟨c0, c1, c2, d0, d1, d2, p0, p1, p2, n, rfl, rfl, rfl, h0, h1, h2⟩ := agg3 hp fuel h
    obtain ⟨k, e0, rfl, _⟩ := inInt Try.underlying3 h0
    cases e0
    obtain ⟨s, e1, rfl⟩ := inString Try.underlying9 h1
    cases e1
    have hu := hp.1.trans Try.underlying27
    have he22 := Try.underlying25
    have hc24 : Try.prog.cellsOf 27 = 3 := by kernel_rfl
    have hpe : isPlan 27 := ⟨rfl, hc24⟩
    rcases inSlice he22 (by rw [hpe.2]; decide) h2 (Q := fun x di => ∃ y : T, x = y.enc ∧ bulk y ≤ Rows.uptoBulk di) (fun m hm cs d ps hh => by
      obtain ⟨y, hy, hok⟩ := ih m (by omega) 27 hpe cs d ps hh
      exact ⟨y.enc, hy, by simp, y, rfl, hok⟩) with ⟨e2, rfl⟩ | ⟨a, cap, elems, rest, es, e2, rfl, hlen, hrow, hel⟩
    · cases e2
      refine ⟨.mk k s true [], ?_, ?_⟩
      · rw [T.enc_mk]; exact .cons (.int _ _) (.cons (.str _) (.cons .nils .nil))
      · simp [bulk, bulkL, Rows.uptoBulk, Rows.uptoBulkAll]; omega
    · cases e2
      obtain ⟨ys, hyl, hys⟩ := list_of (R := fun i (y : T) => ∃ di, es[i]? = some y.enc ∧ elems[i]? = some di ∧ bulk y ≤ Rows.uptoBulk di) es.length (fun i hi => by
        obtain ⟨di, hdi, y, hy, hok⟩ := hel i es[i] (List.getElem?_eq_getElem hi)
        exact ⟨y, di, by rw [List.getElem?_eq_getElem hi, hy], hdi, hok⟩)
      have hes : es = ys.map T.enc := by
        apply List.ext_getElem?
        intro i
        rw [List.getElem?_map]
        rcases Nat.lt_or_ge i ys.length with hi | hi
        · obtain ⟨di, h1, _, _⟩ := hys i ys[i] (List.getElem?_eq_getElem hi)
          rw [h1, List.getElem?_eq_getElem hi]; rfl
        · rw [List.getElem?_eq_none hi, List.getElem?_eq_none (by omega)]; rfl
      refine ⟨.mk k s false ys, ?_, ?_⟩
      · rw [T.enc_mk, kidsV_false, ← hes]; exact .cons (.int _ _) (.cons (.str _) (.cons hrow .nil))
      · have := sum_le ys elems (fun i y hy => by obtain ⟨di, _, h2, h3⟩ := hys i y hy; exact ⟨di, h2, h3⟩)
        simp [bulk, Rows.uptoBulk, Rows.uptoBulkAll]; omega
end Go.Proofs.Ytoeonamjbohokaa.Lt

/- The laws of flat texts and of wraps. -/
namespace Go.Proofs.Ytoeonamjbohokaa.Lt
open Go.Proofs.YtoeonamjbohokaaW.Abs Go
set_option maxRecDepth 100000
set_option maxHeartbeats 1000000
set_option linter.unusedSimpArgs false
set_option linter.unusedVariables false
variable {W0 : World}

theorem flat_acc : ∀ (l : List Pc) (s : List UInt8), flatOf l s = if (flatOf l []).2 = true then (s ++ (flatOf l []).1, true) else ([], false)
  | [], s => by simp [flatOf]
  | p :: r, s => by
    simp only [flatOf]
    by_cases h4 : p.k = 4
    · simp [h4]
    · simp only [h4, if_false]
      rw [flat_acc r, flat_acc r (if p.k = 1 then [] ++ p.s else if p.k = 2 then [] ++ [32] else [])]
      by_cases h : (flatOf r []).2 = true
      · simp only [h, if_true]
        split
        · simp
        · split <;> simp
      · simp [h]
theorem flat_app : ∀ (a b : List Pc), flatOf (a ++ b) [] = if (flatOf a []).2 = true ∧ (flatOf b []).2 = true then ((flatOf a []).1 ++ (flatOf b []).1, true) else ([], false)
  | [], b => by
    have := flat_acc b []
    simp only [List.nil_append, flatOf, true_and]
    rw [this]; split <;> simp
  | p :: r, b => by
    simp only [List.cons_append, flatOf]
    by_cases h4 : p.k = 4
    · simp [h4]
    · simp only [h4, if_false]
      generalize (if p.k = 1 then [] ++ p.s else if p.k = 2 then [] ++ [32] else []) = e
      have h3 := flat_acc r e
      rw [flat_acc (r ++ b), flat_app r b, h3]
      by_cases h1 : (flatOf r []).2 = true <;> by_cases h2 : (flatOf b []).2 = true <;> simp [h1, h2]
theorem flat_len : ∀ (l : List Pc) (s : List UInt8), (flatOf l s).1.length ≤ s.length + wid l
  | [], s => by simp [flatOf, wid]
  | p :: r, s => by
    simp only [flatOf, wid]
    split
    · simp
    · have := flat_len r (if p.k = 1 then s ++ p.s else if p.k = 2 then s ++ [32] else s)
      have h2 : (if p.k = 1 then s ++ p.s else if p.k = 2 then s ++ [32] else s).length ≤ s.length + p.s.length + 1 := by
        split <;> (try split) <;> (try simp only [List.length_append, List.length_cons, List.length_nil]) <;> omega
      omega
theorem flat_skip (k : Int) (h1 : k ≠ 1) (h2 : k ≠ 2) (h4 : k ≠ 4) (l : List Pc) (s : List UInt8) : flatOf (⟨k, []⟩ :: l) s = flatOf l s := by
  simp [flatOf, h1, h2, h4]
theorem w6 : IntKind.i64.wrap 6 = 6 := by decide
theorem w8 : IntKind.i64.wrap 8 = 8 := by decide
theorem nest_plain (t : T) : plain (nest t) = ⟨5, []⟩ :: (plain t ++ [⟨6, []⟩]) := by simp [nest, plain, plainL, w6]
theorem group_plain (t : T) : plain (group t) = ⟨7, []⟩ :: (plain t ++ [⟨8, []⟩]) := by simp [group, plain, plainL, w8]
theorem flat_one (k : Int) (h1 : k ≠ 1) (h2 : k ≠ 2) (h4 : k ≠ 4) : flatOf [⟨k, []⟩] [] = ([], true) := by simp [flatOf, h1, h2, h4]
theorem flat_nest (t : T) : flatOf (plain (nest t)) [] = flatOf (plain t) [] := by
  rw [nest_plain, flat_skip 5 (by decide) (by decide) (by decide), flat_app, flat_one 6 (by decide) (by decide) (by decide), flat_acc (plain t)]
  by_cases h : (flatOf (plain t) []).2 = true <;> simp [h]
theorem flat_group (t : T) : flatOf (plain (group t)) [] = flatOf (plain t) [] := by
  rw [group_plain, flat_skip 7 (by decide) (by decide) (by decide), flat_app, flat_one 8 (by decide) (by decide) (by decide), flat_acc (plain t)]
  by_cases h : (flatOf (plain t) []).2 = true <;> simp [h]
theorem flat_false {l : List Pc} (h : (flatOf l []).2 = false) : (flatOf l []).1 = [] := by
  rw [flat_acc l [], h]; simp

theorem pcsEq_refl (l : List Pc) : pcsEq l l = true := (pcsEq_iff l l).2 rfl

/-- few parts: the document's pieces are few -/
theorem few_facts {t : T} (hok : t.ok) (h : few t = true) : (built t).ok ∧ (plain (built t)).length ≤ 1048576 := by
  obtain ⟨h1, h2⟩ := few_pieces h
  exact ⟨built_ok t hok, by rw [h1]; omega⟩

end Go.Proofs.Ytoeonamjbohokaa.Lt

/- The law of rows. -/
namespace Go.Proofs.Ytoeonamjbohokaa.Lt
open Go.Proofs.YtoeonamjbohokaaW.Abs Go
set_option maxRecDepth 100000
set_option maxHeartbeats 4000000
set_option linter.unusedSimpArgs false
set_option linter.unusedVariables false
variable {W0 : World}

theorem list_ok2 {a b : T} (ha : a.ok) (hb : b.ok) : ∀ x, x ∈ [a, b] → x.ok := by
  intro x hx; simp at hx; rcases hx with rfl | rfl <;> assumption
theorem plain_rowL (nil : Bool) (l : List T) : plain (row nil l) = plainL l := plainL_row nil l
theorem plain_none : plain none' = [] := by simp [none', plain, plainL]
theorem none_ok : none'.ok := by rw [none', T.ok_mk]; simp

end Go.Proofs.Ytoeonamjbohokaa.Lt
