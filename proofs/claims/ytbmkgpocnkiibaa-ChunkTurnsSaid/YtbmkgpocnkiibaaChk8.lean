/- Maps of numbers; common rows as partners. -/
import Derived.Test.YtbmkgpocnkiibaaChk7
namespace Go.Proofs.Ytbmkgpocnkiibaa.Lt
open Go.Proofs.YtbmkgpocnkiibaaW.Abs Go
set_option maxRecDepth 100000
set_option maxHeartbeats 2000000
set_option linter.unusedSimpArgs false
set_option linter.unusedVariables false
variable {W0 : World}

def kvM (m : List (Int × Int)) : List (AV × AV) := m.map fun p => (.int .i64 p.1, .int .i64 p.2)
def findM : List (Int × Int) → Int → Option Int
  | [], _ => none
  | p :: r, k => if p.1 = k then some p.2 else findM r k
theorem mfind_kv (k : Int) : ∀ m : List (Int × Int), ∃ j, mfind .int (.int .i64 k) (kvM m) = some ((findM m k).map fun v => (j, AV.int .i64 v))
  | [] => ⟨0, rfl⟩
  | p :: r => by
    obtain ⟨j, hj⟩ := mfind_kv k r
    by_cases h : p.1 = k
    · exact ⟨0, by simp [kvM, mfind, findM, h, eqCell]⟩
    · have h' : ¬ k = p.1 := fun e => h e.symm
      refine ⟨j + 1, ?_⟩
      have hj' := hj
      unfold kvM at hj'
      simp only [kvM, List.map_cons, mfind, findM, eqCell, h, if_false]
      simp only [if_true]
      rw [show (k == p.1) = false by simpa using h', hj']
      cases findM r k <;> simp
theorem mset_new {k v : Int} {m : List (Int × Int)} (h : findM m k = none) : mset .int (.int .i64 k) (.int .i64 v) (kvM m) = kvM (m ++ [(k, v)]) := by
  obtain ⟨j, hj⟩ := mfind_kv k m
  rw [h] at hj
  simp only [mset, hj, Option.map_none]
  simp [kvM]
theorem mfind_some (k : Int) (m : List (Int × Int)) : (mfind .int (.int .i64 k) (kvM m)).isSome = true := by
  obtain ⟨j, hj⟩ := mfind_kv k m; rw [hj]; rfl
theorem look_kv (k : Int) (m : List (Int × Int)) : lookVal (.int .i64 0) true ((mfind .int (.int .i64 k) (kvM m)).getD none) = .tup [.int .i64 ((findM m k).getD 0), .bool (findM m k).isSome] := by
  obtain ⟨j, hj⟩ := mfind_kv k m; rw [hj]
  cases findM m k <;> rfl

/-- common rows: both grow, all within -/
theorem right_from (a b : List Int) : ∀ (l : List (Int × Int)) (q : Int × Int), rightM a b q l = true → ∀ p ∈ l, q.1 < p.1 ∧ q.2 < p.2 ∧ p.1 < a.length ∧ p.2 < b.length ∧ a[p.1.toNat]? = b[p.2.toNat]?
  | [], _, _ => by simp
  | x :: r, q, h => by
    rw [rightM_cons] at h
    simp only [Bool.and_eq_true] at h
    have h1 := h.1
    simp only [stepM, Bool.and_eq_true, decide_eq_true_eq] at h1
    intro p hp
    rcases List.mem_cons.1 hp with rfl | hp
    · exact ⟨h1.1.1.1.1, h1.1.1.1.2, h1.1.1.2, h1.1.2, h1.2⟩
    · have := right_from a b r x h.2 p hp
      exact ⟨by omega, by omega, this.2.2⟩
theorem findM_none {m : List (Int × Int)} {k : Int} (h : ∀ p ∈ m, p.1 ≠ k) : findM m k = none := by
  induction m with
  | nil => rfl
  | cons p r ih => rw [findM, if_neg (h p (by simp)), ih (fun q hq => h q (by simp [hq]))]
theorem findM_mem {m : List (Int × Int)} {k v : Int} (h : findM m k = some v) : (k, v) ∈ m := by
  induction m with
  | nil => simp [findM] at h
  | cons p r ih =>
    rw [findM] at h
    by_cases hp : p.1 = k
    · rw [if_pos hp] at h; injection h with h; subst hp; subst h; simp
    · rw [if_neg hp] at h; exact List.mem_cons_of_mem _ (ih h)
/-- what came before is smaller -/
theorem right_take (a b : List Int) : ∀ (l : List (Int × Int)) (q : Int × Int), rightM a b q l = true → ∀ (i : Nat) (p : Int × Int), l[i]? = some p → ∀ x ∈ l.take i, x.1 < p.1 ∧ x.2 < p.2
  | [], _, _, _, _, hp => by simp at hp
  | y :: r, q, h, 0, p, hp => by simp
  | y :: r, q, h, i + 1, p, hp => by
    rw [rightM_cons] at h
    simp only [Bool.and_eq_true] at h
    simp only [List.getElem?_cons_succ] at hp
    intro x hx
    simp only [List.take_succ_cons, List.mem_cons] at hx
    rcases hx with rfl | hx
    · have := right_from a b r x h.2 p (List.mem_of_getElem? hp); exact ⟨this.1, this.2.1⟩
    · exact right_take a b r y h.2 i p hp x hx
end Go.Proofs.Ytbmkgpocnkiibaa.Lt
