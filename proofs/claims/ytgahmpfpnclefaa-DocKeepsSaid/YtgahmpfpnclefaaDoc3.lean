/- A plan's document; documents joined; a document's pieces. -/
import Derived.Test.YtgahmpfpnclefaaDoc2
namespace Go.Proofs.Ytgahmpfpnclefaa.Lt
open Go.Proofs.YtgahmpfpnclefaaW.Abs Go
set_option maxRecDepth 100000
set_option maxHeartbeats 2000000
set_option linter.unusedSimpArgs false
set_option linter.unusedVariables false
variable {W0 : World}

mutual
def built : T → T
  | .mk k s _ kids =>
    if k = 1 then text s else if k = 2 then piece1 2 else if k = 3 then piece1 3 else if k = 4 then piece1 4
    else if k = 5 then nest (row true (builtL kids)) else if k = 7 then group (row true (builtL kids)) else row true (builtL kids)
def builtL : List T → List T
  | [] => []
  | t :: r => built t :: builtL r
end
theorem builtL_eq : ∀ l : List T, builtL l = l.map built
  | [] => by simp [builtL]
  | t :: r => by simp [builtL, builtL_eq r]

theorem built_loop {K : KC2} (N : Nat) (k : Int) (s : List UInt8) (nil : Bool) (kids : List T) (b : LC) (hk : kids.length * 48 ≤ 140737488355328)
    (ih : ∀ x ∈ kids, PCall Try.prog W0 10 [.agg x.enc] (.agg (built x).enc))
    (hK : ∀ ts loc (τ : Heap) tok, (loc 0 = .box N 24 [[.int .i64 k, .str s, kidsV nil kids]]) → (loc 1 = b) → ts.length = 51 → tmp ts 1 = .bp N 0 0 → tmp ts 2 = .bp (N + 1) 0 0 → tmp ts 3 = accV ((builtL kids).map T.enc) tok → K.k (.exit 1) ts loc τ)
    (ts : List AV) (loc : Go.Proofs.YtgahmpfpnclefaaW.Abs.Loc) (τ : Heap) (h0 : loc 0 = .box N 24 [[.int .i64 k, .str s, kidsV nil kids]]) (h0' : loc 1 = b) (hl : ts.length = 51) (h1 : tmp ts 1 = .bp N 0 0) (h2 : tmp ts 2 = .bp (N + 1) 0 0)
    (h3 : tmp ts 3 = .nils) (h4 : tmp ts 4 = .int .i64 0) :
    loop2I Try.prog W0 C [] F10l0 ts loc τ := by
  refine loop2I_ind cok F10l0w (m := fun i => kids.length - i) (I := fun i ts loc τ => i ≤ kids.length ∧ (loc 0 = .box N 24 [[.int .i64 k, .str s, kidsV nil kids]]) ∧ (loc 1 = b) ∧ ts.length = 51 ∧ tmp ts 1 = .bp N 0 0 ∧ tmp ts 2 = .bp (N + 1) 0 0 ∧ tmp ts 4 = .int .i64 i ∧ ∃ acc tok, tmp ts 3 = accV (acc.map T.enc) tok ∧ AccL (loc 2) 3 tok (acc.map T.enc) ∧ acc.length = i ∧ acc ++ builtL (kids.drop i) = builtL kids) ?_ 0
    ⟨by omega, h0, h0', hl, h1, h2, h4, [], 0, by simpa using h3, by simp, rfl, by simp⟩
  clear h0 h0' hl h1 h2 h3 h4 ts loc τ
  rintro i ts loc τ ⟨hi, h0, h0', hl, h1, h2, h4, acc, tok, h3, ha, hb, hR⟩ ih'
  simp (disch := first | omega | (simp only [List.length_set]; omega)) [F10l0, h1, h2, h3, h4, hl, h0, h0']
  by_cases hlt : i < kids.length
  · obtain ⟨t, ht⟩ : ∃ t, kids[i]? = some t := ⟨kids[i], by simp [hlt]⟩
    simp (disch := first | omega | (simp only [List.length_set]; omega)) [hlt, h1, h2, h3, h4, hl, h0, ht, kidsV_at ht, wrap_id]
    refine hcallI_pure (ih t (List.mem_of_getElem? ht)) (by simp) (fun M hM => ?_)
    simp (disch := first | omega | (simp only [List.length_set]; omega)) [h1, h2, h3, h4, hl, h0, ha.grow, wrap_id]
    refine andI_intro (by omega) ?_
    simp (disch := first | omega | (simp only [List.length_set]; omega)) [h1, h2, h3, h4, hl, h0, wrap_id]
    refine ih' (i + 1) _ _ _ (by omega) ⟨by omega, ?_⟩
    simp (disch := first | omega | (simp only [List.length_set]; omega)) [h1, h2, h3, h4, hl, h0, h0', wrap_id]
    refine ⟨acc ++ [built t], _, by rw [List.map_append]; rfl, AccL.next' _ _ _ (by simp), by simp; omega, ?_⟩
    rw [drop_at ht, builtL] at hR
    simpa using hR
  · simp (disch := first | omega | (simp only [List.length_set]; omega)) [hlt, h1, h2, h3, h4, hl, h0]
    have he : acc = builtL kids := by rw [List.drop_of_length_le (by omega), builtL] at hR; simpa using hR
    subst he
    exact hK _ _ _ tok h0 h0' (by simp [hl]) (by simp (disch := first | omega | (simp only [List.length_set]; omega)) [h1]) (by simp (disch := first | omega | (simp only [List.length_set]; omega)) [h2]) (by simp (disch := first | omega | (simp only [List.length_set]; omega)) [h3])

theorem built_spec : ∀ (t : T), t.ok → PCall Try.prog W0 10 [.agg t.enc] (.agg (built t).enc)
  | .mk k s nil kids, hok => by
    obtain ⟨hs, hk, hkids⟩ := T.ok_mk.1 hok
    have ih : ∀ x ∈ kids, PCall Try.prog W0 10 [.agg x.enc] (.agg (built x).enc) := fun x hx => built_spec x (hkids x hx)
    refine pcall2 cok Try.func10 F10d F10e F10c F10w F10r (fun N => ?_)
    refine ev2I_intro ?_
    simp [F10s, T.enc_mk]
    by_cases h1 : k = 1
    · subst h1; simp
      refine hcallI_pure (text_spec s) (by simp [bareL]) (fun M hM => ?_)
      simp [built]
    by_cases h2 : k = 2
    · subst h2; simp
      refine hcallI_pure line_spec rfl (fun M hM => ?_)
      simp [built]
    by_cases h3 : k = 3
    · subst h3; simp
      refine hcallI_pure soft_spec rfl (fun M hM => ?_)
      simp [built]
    by_cases h4 : k = 4
    · subst h4; simp
      refine hcallI_pure hard_spec rfl (fun M hM => ?_)
      simp [built]
    simp [h1, h2, h3, h4]
    refine built_loop N k s nil kids _ hk ih ?_ _ _ _ (by simp) rfl (by simp) (by simp) (by simp) (by simp) (by simp)
    intro ts loc τ tok h0' h0'' hl h1' h2' h3'
    have hlen : (builtL kids).length * 48 ≤ 140737488355328 := by simpa [builtL_eq] using hk
    simp at h0''
    simp (disch := first | omega | (simp only [List.length_set]; omega)) [h1', h2', h3', hl, h0']
    by_cases h5 : k = 5
    · subst h5; simp (disch := first | omega | (simp only [List.length_set]; omega)) [h1', h2', h3', hl, h0']
      refine hcallI_pure (row_spec true _ hlen) (by simp [bareL]) (fun M hM => ?_)
      simp (disch := first | omega | (simp only [List.length_set]; omega)) [h1', h2', h3', hl, h0']
      refine hcallI_pure (nest_spec (row true (builtL kids))) (by simp [bareL]) (fun M hM => ?_)
      simp (disch := first | omega | (simp only [List.length_set]; omega)) [h1', h2', h3', hl, h0', h0'', built]
    by_cases h7 : k = 7
    · subst h7; simp (disch := first | omega | (simp only [List.length_set]; omega)) [h1', h2', h3', hl, h0']
      refine hcallI_pure (row_spec true _ hlen) (by simp [bareL]) (fun M hM => ?_)
      simp (disch := first | omega | (simp only [List.length_set]; omega)) [h1', h2', h3', hl, h0']
      refine hcallI_pure (group_spec (row true (builtL kids))) (by simp [bareL]) (fun M hM => ?_)
      simp (disch := first | omega | (simp only [List.length_set]; omega)) [h1', h2', h3', hl, h0', h0'', built]
    simp (disch := first | omega | (simp only [List.length_set]; omega)) [h5, h7, h1', h2', h3', hl, h0']
    refine hcallI_pure (row_spec true _ hlen) (by simp [bareL]) (fun M hM => ?_)
    simp (disch := first | omega | (simp only [List.length_set]; omega)) [h1', h2', h3', hl, h0', h0'', built, h1, h2, h3, h4, h5, h7]
termination_by t => SizeOf.sizeOf t
decreasing_by
  have := List.sizeOf_lt_of_mem hx
  simp; omega
end Go.Proofs.Ytgahmpfpnclefaa.Lt
