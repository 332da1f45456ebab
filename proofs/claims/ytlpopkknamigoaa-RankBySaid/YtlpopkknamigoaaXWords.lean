/- Words beside the print's: a call of a function value that stands in a slot. -/
import Derived.Test.YtlpopkknamigoaaWMore
import Derived.Test.YtlpopkknamigoaaWLast
import Derived.Test.YtlpopkknamigoaaWWords
namespace Go.Proofs.YtlpopkknamigoaaW.PrintLast
open Go.RowKit Go.Proofs.YtlpopkknamigoaaW.PrintWords
section
variable {P : Program} {ops : Array Oper} {Q : Exit → Act → World → Prop}
theorem goesV_ {oi : Oper} {N : Option Tmp} {a : Act} {w : World} {K : Act → World → Prop} {f : FuncId} {fn : Func} {as : Array Operand} {ts : Array TypeId} {x : Operand} (hf : P.funcs[f]? = some fn) (hname : (fn.name == "runtime.NumGoroutine") = false) (hb : fn.body.isSome = true) (args : Array Value)
    (hw : Region.wanted oi (yielded ops a.tmps) = true) (hN : oi.dst = N) (hop : oi.op = .call { callee := .value x, args := as, argTypes := ts }) (hargs : as.map a.eval = args)
    (h : Calls P f args w fun e w' => ∃ v, e = .returned v ∧ K (a.put N v) w') (hval : a.eval x = .func (.func f) #[] #[] := by rfl) : if Region.wanted oi (yielded ops a.tmps) = true then Oper.wp P oi a w K Q else K (a.put N undef) w := by
  refine call_ f args hw hN ?_ h
  have he := enters_ hf hname hb args w
  unfold execOp
  simp [hop, resolve, Deferred.ofValue, invoke, hval, hargs, he]
theorem goesLV_ {rest : List Oper} {oi : Oper} {a : Act} {w : World} (N : Option Tmp) (hd : oi.dst = N) (hg : oi.guard = none) {f : FuncId} {fn : Func} {as : Array Operand} {ts : Array TypeId} {x : Operand} (hf : P.funcs[f]? = some fn) (hname : (fn.name == "runtime.NumGoroutine") = false) (hb : fn.body.isSome = true) (args : Array Value)
    (hop : oi.op = .call { callee := .value x, args := as, argTypes := ts }) (hargs : as.map a.eval = args)
    (h : Calls P f args w fun e w' => ∃ v, e = .returned v ∧ wpList P ops Q rest (a.put N v) w') (hval : a.eval x = .func (.func f) #[] #[] := by rfl) : wpList P ops Q (oi :: rest) a w := by
  refine wpList_plain hg fun K hK => ?_
  have he := enters_ hf hname hb args w
  have hrun : (execOp a.eval oi).run P w = .ok (.enter f args) w := by
    unfold execOp
    simp [hop, resolve, Deferred.ofValue, invoke, hval, hargs, he]
  unfold Oper.wp
  rw [hrun, Oper.upon_enter]
  refine h.mono fun e w'' hh => ?_
  obtain ⟨v, rfl, hk⟩ := hh
  subst hd
  exact hK _ _ hk
/-- The operation calls what stands in a slot. -/
theorem gate_calleeV {rest : List Oper} {o : Oper} {a : Act} {W : World} {f : FuncId} {x : Operand} {as : Array Operand} {ts : Array TypeId} (_ho : o.op = .call { callee := .value x, args := as, argTypes := ts }) (_hx : x ≠ .func f := by (intro h_; cases h_)) (h : wpList P ops Q (o :: rest) a W) : wpList P ops Q (o :: rest) a W := h
end
end Go.Proofs.YtlpopkknamigoaaW.PrintLast
namespace Go.Proofs.YtlpopkknamigoaaW.PrintWords
open Go.RowKit
/-- A cut's length, as the slot has it. -/
theorem ReadsRow_lenX {α : Type} {R : α → List Value → Prop} {size : Nat} {w : World} {A : Option Addr} {n m : Nat} {xs : List α} (h : n = m) (hC : ReadsRow R size w A n xs) : ReadsRow R size w A m xs := h ▸ hC
end Go.Proofs.YtlpopkknamigoaaW.PrintWords
namespace Go.Proofs.YtlpopkknamigoaaW.PrintWords
open Go.RowKit
/-- the first so many of a row that is read -/
theorem Kd.few_C {k : IntKind} {w : World} {A : Option Addr} {c m : Nat} {l : List Int} (h : Kd.C (Kd.int k) w A l.length l) (hc : l.length ≤ c) :
    Kd.C (Kd.int k) w A (l.take m).length (l.take m) ∧ (l.take m).length ≤ c := by
  by_cases hm : m ≤ l.length
  · have hl : (l.take m).length = m := by rw [List.length_take]; omega
    rw [hl]
    exact ⟨Kd.C_of_reads (d := (0 : Int)) (h1 := fun _ => rfl) ((Kd.reads_of_C (d := (0 : Int)) h).take_ m hm), by omega⟩
  · rw [List.take_of_length_le (by omega)]
    exact ⟨h, hc⟩
end Go.Proofs.YtlpopkknamigoaaW.PrintWords
