/- The laws of flat texts and of wraps. -/
import Derived.Test.YtgahmpfpnclefaaDoc11
namespace Go.Proofs.Ytgahmpfpnclefaa.Lt
open Go.Proofs.YtgahmpfpnclefaaW.Abs Go
set_option maxRecDepth 100000
set_option maxHeartbeats 1000000
set_option linter.unusedSimpArgs false
set_option linter.unusedVariables false
variable {W0 : World}

theorem flat_acc : ∀ (l : List Pc) (s : List UInt8), flatOf l s = if (flatOf l []).2 = true then (s ++ (flatOf l []).1, true) else ([], false)
  | [], s => by simp [flatOf]
  | p :: r, s => by
    simp only [flatOf]
    by_cases h4 : p.k = 4
    · simp [h4]
    · simp only [h4, if_false]
      rw [flat_acc r, flat_acc r (if p.k = 1 then [] ++ p.s else if p.k = 2 then [] ++ [32] else [])]
      by_cases h : (flatOf r []).2 = true
      · simp only [h, if_true]
        split
        · simp
        · split <;> simp
      · simp [h]
theorem flat_app : ∀ (a b : List Pc), flatOf (a ++ b) [] = if (flatOf a []).2 = true ∧ (flatOf b []).2 = true then ((flatOf a []).1 ++ (flatOf b []).1, true) else ([], false)
  | [], b => by
    have := flat_acc b []
    simp only [List.nil_append, flatOf, true_and]
    rw [this]; split <;> simp
  | p :: r, b => by
    simp only [List.cons_append, flatOf]
    by_cases h4 : p.k = 4
    · simp [h4]
    · simp only [h4, if_false]
      generalize (if p.k = 1 then [] ++ p.s else if p.k = 2 then [] ++ [32] else []) = e
      have h3 := flat_acc r e
      rw [flat_acc (r ++ b), flat_app r b, h3]
      by_cases h1 : (flatOf r []).2 = true <;> by_cases h2 : (flatOf b []).2 = true <;> simp [h1, h2]
theorem flat_len : ∀ (l : List Pc) (s : List UInt8), (flatOf l s).1.length ≤ s.length + wid l
  | [], s => by simp [flatOf, wid]
  | p :: r, s => by
    simp only [flatOf, wid]
    split
    · simp
    · have := flat_len r (if p.k = 1 then s ++ p.s else if p.k = 2 then s ++ [32] else s)
      have h2 : (if p.k = 1 then s ++ p.s else if p.k = 2 then s ++ [32] else s).length ≤ s.length + p.s.length + 1 := by
        split <;> (try split) <;> (try simp only [List.length_append, List.length_cons, List.length_nil]) <;> omega
      omega
theorem flat_skip (k : Int) (h1 : k ≠ 1) (h2 : k ≠ 2) (h4 : k ≠ 4) (l : List Pc) (s : List UInt8) : flatOf (⟨k, []⟩ :: l) s = flatOf l s := by
  simp [flatOf, h1, h2, h4]
theorem w6 : IntKind.i64.wrap 6 = 6 := by decide
theorem w8 : IntKind.i64.wrap 8 = 8 := by decide
theorem nest_plain (t : T) : plain (nest t) = ⟨5, []⟩ :: (plain t ++ [⟨6, []⟩]) := by simp [nest, plain, plainL, w6]
theorem group_plain (t : T) : plain (group t) = ⟨7, []⟩ :: (plain t ++ [⟨8, []⟩]) := by simp [group, plain, plainL, w8]
theorem flat_one (k : Int) (h1 : k ≠ 1) (h2 : k ≠ 2) (h4 : k ≠ 4) : flatOf [⟨k, []⟩] [] = ([], true) := by simp [flatOf, h1, h2, h4]
theorem flat_nest (t : T) : flatOf (plain (nest t)) [] = flatOf (plain t) [] := by
  rw [nest_plain, flat_skip 5 (by decide) (by decide) (by decide), flat_app, flat_one 6 (by decide) (by decide) (by decide), flat_acc (plain t)]
  by_cases h : (flatOf (plain t) []).2 = true <;> simp [h]
theorem flat_group (t : T) : flatOf (plain (group t)) [] = flatOf (plain t) [] := by
  rw [group_plain, flat_skip 7 (by decide) (by decide) (by decide), flat_app, flat_one 8 (by decide) (by decide) (by decide), flat_acc (plain t)]
  by_cases h : (flatOf (plain t) []).2 = true <;> simp [h]
theorem flat_false {l : List Pc} (h : (flatOf l []).2 = false) : (flatOf l []).1 = [] := by
  rw [flat_acc l [], h]; simp

theorem docFlats_spec (a b : T) (hbk : bulk a + bulk b ≤ 1048576) : PCall Try.prog W0 4 [.agg a.enc, .agg b.enc] (.bool true) := by
  obtain ⟨hoa, hba, hwa, hla⟩ := built_facts (t := a) (by omega)
  obtain ⟨hob, hbb, hwb, hlb⟩ := built_facts (t := b) (by omega)
  refine pcall2 cok Try.func4 F4d F4e F4c F4w F4r (fun N => ?_)
  refine ev2I_intro ?_
  simp [F4s]
  refine hcallI_pure (few_spec a hoa) (by simp) (fun M hM => ?_)
  by_cases hfa : few a = true
  · simp [hfa]
    refine hcallI_pure (few_spec b hob) (by simp) (fun M2 hM2 => ?_)
    by_cases hfb : few b = true
    · simp [hfb]
      refine andI_intro (by dsimp only at *; omega) ?_
      simp
      refine pcallI_pure' (built_spec a hoa) (by simp) ?_
      simp
      refine andI_intro (by dsimp only at *; omega) ?_
      simp
      refine pcallI_pure' (built_spec b hob) (by simp) ?_
      simp
      intro M3 hM3
      refine hcallI_pure (dflat_spec (built a) hba (by omega) (by omega)) (by simp) (fun M4 hM4 => ?_)
      simp
      refine hcallI_pure (dflat_spec (built b) hbb (by omega) (by omega)) (by simp) (fun M5 hM5 => ?_)
      simp
      refine hcallI_pure (row_spec false [built a, built b] (by simp)) (by simp) (fun M6 hM6 => ?_)
      simp
      have hr := row2_plain false (built a) (built b)
      refine hcallI_pure (dflat_spec (row false [built a, built b]) (row_ok (by simp) (fun x hx => by simp at hx; rcases hx with rfl | rfl; exact hba; exact hbb)) (by rw [hr]; simp; omega) (by rw [hr, wid_app]; omega)) (by simp) (fun M7 hM7 => ?_)
      rw [hr, flat_app]
      simp
      refine hcallI_pure (nest_spec (built a)) (by simp) (fun M8 hM8 => ?_)
      simp
      refine hcallI_pure (dflat_spec (nest (built a)) (nest_ok hba) (by rw [nest_plain]; simp; omega) (by rw [nest_plain]; simp [wid, wid_app]; omega)) (by simp) (fun M9 hM9 => ?_)
      rw [flat_nest]
      simp
      refine hcallI_pure (group_spec (built a)) (by simp) (fun M10 hM10 => ?_)
      simp
      refine hcallI_pure (dflat_spec (group (built a)) (group_ok hba) (by rw [group_plain]; simp; omega) (by rw [group_plain]; simp [wid, wid_app]; omega)) (by simp) (fun M11 hM11 => ?_)
      rw [flat_group]
      have lx := flat_len (plain (built a)) []
      have ly := flat_len (plain (built b)) []
      generalize hx : flatOf (plain (built a)) [] = x at lx
      generalize hy : flatOf (plain (built b)) [] = y at ly
      obtain ⟨xs, xo⟩ := x
      obtain ⟨ys, yo⟩ := y
      have hxy : xs.length + ys.length ≤ 9223372036854775807 := by simp at lx ly; omega
      cases xo <;> cases yo
      all_goals
        simp
        refine hcallI_pure known_spec rfl (fun M12 hM12 => ?_)
        simp [hxy]
    · simp [hfb]
      refine hcallI_pure known_spec rfl (fun M hM => ?_)
      simp
  · simp [hfa]
    refine hcallI_pure known_spec rfl (fun M hM => ?_)
    simp

theorem pcsEq_refl (l : List Pc) : pcsEq l l = true := (pcsEq_iff l l).2 rfl

/-- few parts: the document's pieces are few -/
theorem few_facts {t : T} (hok : t.ok) (h : few t = true) : (built t).ok ∧ (plain (built t)).length ≤ 1048576 := by
  obtain ⟨h1, h2⟩ := few_pieces h
  exact ⟨built_ok t hok, by rw [h1]; omega⟩

theorem docWraps_spec (t : T) (hok : t.ok) : PCall Try.prog W0 5 [.agg t.enc] (.bool true) := by
  refine pcall2 cok Try.func5 F5d F5e F5c F5w F5r (fun N => ?_)
  refine ev2I_intro ?_
  simp [F5s]
  refine hcallI_pure (few_spec t hok) (by simp) (fun M hM => ?_)
  by_cases hft : few t = true
  · obtain ⟨hbo, hl⟩ := few_facts hok hft
    simp [hft]
    refine hcallI_pure (built_spec t hok) (by simp) (fun M2 hM2 => ?_)
    have hN : M ≤ M2 := by dsimp only at *; omega
    simp
    refine andI_intro (by dsimp only at *; omega) ?_
    simp
    refine pcallI_pure' (plain_spec (built t) hbo (by omega)) (by simp) ?_
    simp
    refine andI_intro (by dsimp only at *; omega) ?_
    simp
    refine pcallI_pure' (nest_spec (built t)) (by simp) ?_
    simp
    refine pcallI_pure' (plain_spec (nest (built t)) (nest_ok hbo) (by rw [nest_plain]; simp; omega)) (by simp) ?_
    simp
    refine andI_intro (by dsimp only at *; omega) ?_
    simp
    refine pcallI_pure' (group_spec (built t)) (by simp) ?_
    simp
    refine pcallI_pure' (plain_spec (group (built t)) (group_ok hbo) (by rw [group_plain]; simp; omega)) (by simp) ?_
    simp
    intro M3 hM3
    refine hcallI_pure known_spec rfl (fun M4 hM4 => ?_)
    have hal := alike_spec (W0 := W0) (plain (built t)) (plain (built t)) (A := .row ((plain (built t)).map Pc.enc) none) (B := rowV ((plain (built t)).map Pc.enc)) (.inr rfl) (IsRow.rowV _) (by omega)
    rw [pcsEq_refl] at hal
    rw [nest_plain, group_plain]
    generalize plain (built t) = L at hal hl
    have e1 : (L.length : Int) + 1 + 1 = L.length + 2 := by omega
    have e2 : ((L.length : Int) + 1).toNat = L.length + 1 := by omega
    have e3 : ∀ a b : List AV, (a :: (L.map Pc.enc ++ [b]))[L.length + 1]? = some b := fun a b => by simp
    have e4 : ∀ a b : List AV, ((a :: (L.map Pc.enc ++ [b])).take (L.length + 1)).drop 1 = L.map Pc.enc := fun a b => by simp
    have e5 : (L.length : Int) + 1 ≤ L.length + 1 + 1 := by omega
    have e6 : (0 : Int) ≤ (L.length : Int) + 1 := by omega
    have e7 : (1 : Int) ≤ (L.length : Int) + 1 := by omega
    have e8 : ∀ k : Int, ∀ (a : List AV), (∃ x, x ∈ L ∧ x.enc = a) ∨ a = [AV.int .i64 k, AV.str []] → a.length = 2 := by
      rintro k a (⟨x, _, rfl⟩ | rfl) <;> rfl
    have e9 : ∀ b : List AV, (L.map Pc.enc ++ [b]).take L.length = L.map Pc.enc := fun b => by simp
    simp (disch := first | omega | (simp only [List.length_set]; omega)) [wrap_id, hl, e1, e2, e3, e4, e5, e6, e7]
    refine andI_intro (e8 6) ?_
    simp (disch := first | omega | (simp only [List.length_set]; omega)) [wrap_id, hl, e1, e2, e3, e4, e5, e6, e7, e9]
    refine hcallI_pure hal (by simp) (fun M5 hM5 => ?_)
    simp (disch := first | omega | (simp only [List.length_set]; omega)) [wrap_id, hl, e1, e2, e3, e4, e5, e6, e7, e9]
    refine andI_intro (e8 8) ?_
    simp (disch := first | omega | (simp only [List.length_set]; omega)) [wrap_id, hl, e1, e2, e3, e4, e5, e6, e7, e9]
    refine hcallI_pure hal (by simp) (fun M6 hM6 => ?_)
    simp (disch := first | omega | (simp only [List.length_set]; omega)) [wrap_id]
  · simp [hft]
    refine hcallI_pure known_spec rfl (fun M hM => ?_)
    simp
end Go.Proofs.Ytgahmpfpnclefaa.Lt
