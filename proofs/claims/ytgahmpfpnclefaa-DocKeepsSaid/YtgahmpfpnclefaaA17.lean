/- Calls of functions with a body; small words. -/
import Derived.Test.YtgahmpfpnclefaaA16
namespace Go.Proofs.YtgahmpfpnclefaaW.Abs
open Go.RowKit
set_option linter.unusedVariables false

theorem enters_of {P : Program} {f : FuncId} {fn : Func} (hf : P.funcs[f]? = some fn) (hb : fn.body.isNone = false) (hn : (fn.name == "runtime.NumGoroutine") = false) : Enters P f := by
  intro args w
  have hn' : ¬ fn.name = "runtime.NumGoroutine" := by simpa using hn
  have hb' : fn.body ≠ none := by intro h; simp [h] at hb
  simp [callFunc, hf, hn']
  exact fun h => absurd h hb'
end Go.Proofs.YtgahmpfpnclefaaW.Abs
