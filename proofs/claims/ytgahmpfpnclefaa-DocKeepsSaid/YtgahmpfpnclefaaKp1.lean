/- A document's pieces in a box that their reader may write: the second light code of the closure of Plain. -/
import Derived.Test.YtgahmpfpnclefaaDoc5
namespace Go.Proofs.Ytgahmpfpnclefaa.Lt
open Go.Proofs.YtgahmpfpnclefaaW.Abs Go
set_option maxRecDepth 100000
set_option maxHeartbeats 1000000
set_option linter.unusedSimpArgs false
set_option linter.unusedVariables false
variable {W0 : World}

/-- the pieces so far, as a slice of their box -/
def accS (tok : Nat) (acc : List Pc) : AV := if acc = [] then .nils else .sl tok 0 acc.length
@[simp] theorem accS_nil (tok : Nat) : accS tok [] = .nils := rfl
@[simp] theorem accS_one (tok : Nat) (acc : List Pc) : (accS tok acc).one = true := by unfold accS; split <;> rfl
@[simp] theorem accS_cells (tok : Nat) (acc : List Pc) : (accS tok acc).cells = [accS tok acc] := cells_one (accS_one tok acc)
/-- the box of the list, the box of the pieces, and the closure -/
def wb (lid wid : Nat) (t1 t2 : TypeId) (tok : Nat) (acc : List Pc) : Hp := fun i =>
  if i = lid then some (.box t1 [[accS tok acc]]) else if i = wid then some (.box t2 [[.fn (.func 29) [] [.bp lid 0 0, .bp wid 0 0]]])
  else if acc ≠ [] ∧ i = tok then some (.box 43 (acc.map Pc.enc)) else none
@[simp] theorem wb_l (lid wid : Nat) (t1 t2 : TypeId) (tok : Nat) (acc : List Pc) : wb lid wid t1 t2 tok acc lid = some (.box t1 [[accS tok acc]]) := by simp [wb]
theorem wb_w {n lid wid tok : Nat} {acc : List Pc} (h : WOk n lid wid tok acc) (t1 t2 : TypeId) : wb lid wid t1 t2 tok acc wid = some (.box t2 [[.fn (.func 29) [] [.bp lid 0 0, .bp wid 0 0]]]) := by
  simp [wb, h.ne.symm]
theorem wb_t {n lid wid tok : Nat} {acc : List Pc} (h : WOk n lid wid tok acc) (t1 t2 : TypeId) (hne : acc ≠ []) : wb lid wid t1 t2 tok acc tok = some (.box 43 (acc.map Pc.enc)) := by
  have := h.tk hne
  simp [wb, this.2.1, this.2.2, hne]
/-- behind an append: the boxes, and the list's own still as it was -/
def wg (lid wid : Nat) (t1 t2 : TypeId) (tok : Nat) (acc : List Pc) (id : Nat) (p : Pc) : Hp :=
  if acc = [] then upd (wb lid wid t1 t2 tok acc) id (some (.box 43 [p.enc])) else upd (upd (wb lid wid t1 t2 tok acc) tok none) id (some (.box 43 ((acc ++ [p]).map Pc.enc)))
theorem wb_push {n lid wid tok : Nat} {acc : List Pc} (h : WOk n lid wid tok acc) (t1 t2 : TypeId) (p : Pc) {id : Nat} {ts : List AV} {x y : Arg} (hb : (acc.length + 1) * 24 ≤ 140737488355328) (hx : x.ev ts = accS tok acc) (hy : srcElems (wb lid wid t1 t2 tok acc) (y.ev ts) = some [p.enc]) :
    SO.ok id ts (wb lid wid t1 t2 tok acc) (.grow 43 2 24 x y) ∧ SO.val id ts (wb lid wid t1 t2 tok acc) (.grow 43 2 24 x y) = .sl id 0 (acc.length + 1) ∧
    SO.heap id ts (wb lid wid t1 t2 tok acc) (.grow 43 2 24 x y) = wg lid wid t1 t2 tok acc id p := by
  by_cases hac : acc = []
  · subst hac
    rw [accS_nil] at hx
    refine ⟨growsOk_ok ?_, ?_, ?_⟩
    · rw [hx, hy]; simp [growsOk]
    · simp only [SO.val, hx, hy, Option.getD_some]; rfl
    · simp only [SO.heap, hx, hy, Option.getD_some, wg, if_true]
  · have h4 := h.tk hac
    have hx' : x.ev ts = .sl tok 0 acc.length := by rw [hx, accS, if_neg hac]
    refine ⟨growsOk_ok ?_, ?_, ?_⟩
    · rw [hx', hy]; simp only [growsOk, wb_t h t1 t2 hac, growAt]
      refine ⟨by simp, fun e he => ?_, by simpa using hac, trivial, fun e he => ?_, by simpa using hb, by simp; omega⟩
      · simp at he; obtain ⟨q, _, rfl⟩ := he; rfl
      · simp at he; subst he; rfl
    · simp only [SO.val, hx', hy, Option.getD_some]; rfl
    · have e : ((acc.map Pc.enc).take acc.length ++ [p.enc]) = (acc ++ [p]).map Pc.enc := by
        rw [List.take_of_length_le (by simp)]; simp
      simp only [SO.heap, hx', hy, Option.getD_some, wb_t h t1 t2 hac, e, wg, if_neg hac]
theorem wg_l {n lid wid tok : Nat} {acc : List Pc} (h : WOk n lid wid tok acc) (t1 t2 : TypeId) (p : Pc) {id : Nat} (hid : n ≤ id) : wg lid wid t1 t2 tok acc id p lid = some (.box t1 [[accS tok acc]]) := by
  have h1 := h.l
  unfold wg; split
  · rw [upd_ne (by omega)]; simp
  · rename_i hac
    rw [upd_ne (by omega), upd_ne (fun e => (h.tk hac).2.1 e.symm)]; simp
theorem wg_upd {n lid wid tok : Nat} {acc : List Pc} (h : WOk n lid wid tok acc) (t1 t2 : TypeId) (p : Pc) {id : Nat} (hid : n ≤ id) : upd (wg lid wid t1 t2 tok acc id p) lid (some (.box t1 [[.sl id 0 (acc.length + 1)]])) = wb lid wid t1 t2 id (acc ++ [p]) := by
  have h1 := h.l; have h2 := h.w
  funext i
  by_cases h0 : i = lid
  · subst h0; simp [accS]
  · rw [upd_ne h0]
    unfold wg; split
    · rename_i hac; subst hac
      by_cases h3 : i = id
      · subst h3; simp [wb, h0, show i ≠ wid by omega]
      · rw [upd_ne h3]; simp [wb, h0, h3]
    · rename_i hac
      have h4 := h.tk hac
      by_cases h3 : i = id
      · subst h3; simp [wb, h0, show i ≠ wid by omega]
      · rw [upd_ne h3]
        by_cases h6 : i = tok
        · subst h6; simp [wb, h4.2.1, h4.2.2, h3]
        · rw [upd_ne h6]; simp [wb, h0, h3, h6]

abbrev WB (lid wid : Nat) (t1 t2 : TypeId) (acc : List Pc) : AOut → Heap → Prop := fun o τ' => o = .ret (.tup []) ∧ ∃ tok, WOk τ'.next lid wid tok acc ∧ τ'.obj = wb lid wid t1 t2 tok acc
end Go.Proofs.Ytgahmpfpnclefaa.Lt
