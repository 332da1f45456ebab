/- Small plans; the laws of pieces, flat texts and wraps. -/
import Derived.Test.YtgahmpfpnclefaaDoc10
namespace Go.Proofs.Ytgahmpfpnclefaa.Lt
open Go.Proofs.YtgahmpfpnclefaaW.Abs Go
set_option maxRecDepth 100000
set_option maxHeartbeats 1000000
set_option linter.unusedSimpArgs false
set_option linter.unusedVariables false
variable {W0 : World}

mutual
/-- how much a plan is -/
def bulk : T → Nat
  | .mk _ s _ kids => s.length + 4 + bulkL kids
def bulkL : List T → Nat
  | [] => 0
  | t :: r => bulk t + bulkL r
end
theorem bulk_mem : ∀ {l : List T} {t : T}, t ∈ l → bulk t ≤ bulkL l
  | a :: r, t, h => by
    simp only [bulkL]
    rcases List.mem_cons.1 h with rfl | h
    · omega
    · have := bulk_mem h; omega
theorem bulkL_len : ∀ l : List T, l.length ≤ bulkL l
  | [] => by simp [bulkL]
  | .mk _ s _ kids :: r => by have := bulkL_len r; simp only [bulkL, bulk, List.length_cons]; omega
theorem bulk_ok : ∀ t : T, bulk t ≤ 1048576 → t.ok
  | .mk k s nil kids, h => by
    simp only [bulk] at h
    have := bulkL_len kids
    exact T.ok_mk.2 ⟨by omega, by omega, fun x hx => bulk_ok x (by have := bulk_mem hx; omega)⟩
termination_by t => SizeOf.sizeOf t
decreasing_by
  have := List.sizeOf_lt_of_mem hx
  simp; omega
theorem wid_app : ∀ a b : List Pc, wid (a ++ b) = wid a + wid b
  | [], b => by simp [wid]
  | p :: r, b => by simp only [List.cons_append, wid, wid_app r b]; omega
theorem wid_len : ∀ l : List Pc, l.length ≤ wid l
  | [] => by simp
  | p :: r => by have := wid_len r; simp only [wid, List.length_cons]; omega
mutual
theorem wid_full : ∀ t : T, wid (fullP t) ≤ bulk t
  | .mk k s nil kids => by
    have ih := wid_fullL kids
    simp only [fullP, bulk]
    split
    · split <;> simp [wid] <;> omega
    split
    · simp [wid]; omega
    split
    · simp [wid, wid_app]; omega
    · omega
theorem wid_fullL : ∀ l : List T, wid (fullL l) ≤ bulkL l
  | [] => by simp [fullL, wid]
  | t :: r => by have := wid_full t; have := wid_fullL r; simp only [fullL, bulkL, wid_app]; omega
end
/-- of a plan's document -/
theorem built_facts {t : T} (h : bulk t ≤ 1048576) : t.ok ∧ (built t).ok ∧ wid (plain (built t)) ≤ 1048576 ∧ (plain (built t)).length ≤ 1048576 := by
  have h1 := wid_full t
  rw [← plain_built] at h1
  have h2 := wid_len (plain (built t))
  exact ⟨bulk_ok t h, built_ok t (bulk_ok t h), by omega, by omega⟩

theorem docPieces_spec (t : T) (hbk : bulk t ≤ 1048576) : PCall Try.prog W0 3 [.agg t.enc] (.bool true) := by
  obtain ⟨hok, hbo, hwid, hlen⟩ := built_facts hbk
  have hfew := few_spec (W0 := W0) t hok
  have hbuilt := built_spec (W0 := W0) t hok
  refine pcall2 cok Try.func3 F3d F3e F3c F3w F3r (fun N => ?_)
  refine ev2I_intro ?_
  simp [F3s]
  refine hcallI_pure hfew (by simp) (fun M hM => ?_)
  by_cases hfw : few t = true
  · obtain ⟨hp, hpl⟩ := few_pieces hfw
    simp [hfw]
    refine hcallI_pure hbuilt (by simp) (fun M hM => ?_)
    simp
    refine hcallI_pure (pieces_spec (W0 := W0) t hok 1000 (by omega) (by omega)) (by simp) (fun M hM => ?_)
    simp
    refine hcallI_pure (dflat_spec (built t) hbo (by omega) (by omega)) (by simp) (fun M hM => ?_)
    simp
    refine hcallI_pure (flat_spec (W0 := W0) (pcs t 1000) (IsRow.rowV _) (by omega) (by rw [← hp, plain_built]; exact full_s t hok)) (by simp) (fun M hM => ?_)
    simp
    refine hcallI_pure known_spec rfl (fun M hM => ?_)
    simp
    refine hcallI_pure (plain_spec (built t) hbo (by omega)) (by simp) (fun M hM => ?_)
    simp
    have hsm := same_spec (W0 := W0) (plain (built t)) (pcs t 1000) (IsRow.rowV _) (IsRow.rowV _) (by omega)
    rw [(pcsEq_iff _ _).2 hp] at hsm
    refine hcallI_pure hsm (by simp) (fun M hM => ?_)
    simp [hp]
  · simp [hfw]
    refine hcallI_pure known_spec rfl (fun M hM => ?_)
    simp
end Go.Proofs.Ytgahmpfpnclefaa.Lt
