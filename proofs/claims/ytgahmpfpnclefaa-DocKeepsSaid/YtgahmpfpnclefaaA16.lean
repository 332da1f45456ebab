/- All that is asked of a program's types, read off the program. -/
import Derived.Test.YtgahmpfpnclefaaA15
namespace Go.Proofs.YtgahmpfpnclefaaW.Abs
open Go.RowKit
set_option linter.unusedVariables false

def tyOf (P : Program) : Tys := fun t =>
  match P.info? t, P.underlying t with
  | some j, some d => match j.zero with
    | some z => match cAV z with
      | some x => some ⟨d, j.size, j.bytes, x⟩
      | none => none
    | none => none
  | _, _ => none

/-- the types of blocks at whose head a variable of a type lies -/
def liesOf (P : Program) (u : TypeId) : List (TypeId × Nat) :=
  ((List.range P.types.size).filter fun t => P.cellsOf t != 0 && rowAt P (sameLayout P P.depth · u) P.depth t 1 0 1).map fun t => (t, P.cellsOf t)
def ctxOf (P : Program) (ids : List FuncId) : Ctx := ⟨tyOf P, fun t => !P.stoodInHeld t && !P.eqGuardType P.depth t, liesOf P, fun f => ids.contains f⟩

theorem tyOf_ok (P : Program) : Tysok P (tyOf P) := ⟨fun t i h => by
  unfold tyOf at h
  split at h
  · rename_i j d h1 h2
    split at h
    · rename_i z hz
      split at h
      · rename_i x hx
        cases h
        exact ⟨h2, j, z, h1, rfl, rfl, hz, fun E => cAV_rep hx E⟩
      · cases h
    · cases h
  · cases h⟩

theorem ctxOf_ok {P : Program} {ids : List FuncId} (h : P.follows .mixedOrders = true) (hi : ∀ f, f ∈ ids → ∀ (v : Value) (w : World), (callFunc f #[v]).run P w = .ok (.value v) w) : (ctxOf P ids).Ok P :=
  ⟨tyOf_ok P, fun t ht => by simpa [ctxOf] using ht, h, fun u t n hm => by
    simp only [ctxOf, liesOf, List.mem_map, List.mem_filter, Bool.and_eq_true, bne_iff_ne, ne_eq] at hm
    obtain ⟨t', ⟨_, h1, h2⟩, h3⟩ := hm
    cases h3
    exact ⟨rfl, h1, h2⟩, fun f hf => hi f (by simpa [ctxOf] using hf)⟩
theorem same_of {P : Program} {f : FuncId} {fn : Func} (hf : P.funcs[f]? = some fn) (hn : (fn.name == "runtime.NumGoroutine") = false) (hb : fn.body.isNone = true) (h1 : Extern.findNext fn = none) (h2 : Extern.find fn = some Extern.AbiNoEscape.same) (v : Value) (w : World) : (callFunc f #[v]).run P w = .ok (.value v) w := by
  rw [run_callFunc_extern hf hn hb h1 h2]
  rw [Lib.run_noEscape]; rfl
end Go.Proofs.YtgahmpfpnclefaaW.Abs
