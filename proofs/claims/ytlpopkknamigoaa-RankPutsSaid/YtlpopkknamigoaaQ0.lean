-- Written by this repo's pp.py (the kit's print program with additions).
import Derived.Test.YtlpopkknamigoaaProg
import Derived.Below
import Derived.Deep.Draws
import Derived.Deep.AppendLies
import Derived.Maps.AppendAt
import Derived.OwnWalk
import Derived.Laws.BytesArg
import Derived.Laws.MakeOwn
import Derived.Laws.OwnMore
import Derived.Deep.OwnRows
import Derived.Tactics
import Derived.Lib.ConvBytes
import Derived.Laws.Slices
import Derived.WalkKit
import Derived.KernelRfl
import Derived.RowKit3
import Derived.Deep.LoopGhost
import Derived.Deep.QuietTactic
import Derived.BigQuiet
import Derived.WideLaws
import Derived.Deep.DeepCutAuto
import Derived.Deep.CutBlock
import Derived.Deep.RegionHeld3
import Derived.Laws.Rows
import Derived.Lib.AppendStr
import Derived.ArgAppend
import Derived.Laws.IdiomCopy
import Derived.OrdersHeld
import Derived.Laws.BitsLemmas
import Derived.RowKit
import Derived.Test.YtlpopkknamigoaaXWords
import Derived.Test.YtlpopkknamigoaaXStrRow
import Derived.Test.YtlpopkknamigoaaWWords
import Derived.Test.YtlpopkknamigoaaWLast
import Derived.Test.YtlpopkknamigoaaWTab
import Derived.Test.YtlpopkknamigoaaWFour
import Derived.Test.YtlpopkknamigoaaWQPut
import Derived.Test.YtlpopkknamigoaaWApart
import Derived.Test.YtlpopkknamigoaaWArr
import Derived.Test.YtlpopkknamigoaaWZeros
import Derived.Test.YtlpopkknamigoaaWFoot
import Derived.Test.YtlpopkknamigoaaWKept
import Derived.Test.YtlpopkknamigoaaWShare
import Derived.Test.YtlpopkknamigoaaWN
import Derived.Test.YtlpopkknamigoaaWFootNe
import Derived.Test.YtlpopkknamigoaaWAt
import Derived.Test.YtlpopkknamigoaaWEqStruct
import Derived.Test.YtlpopkknamigoaaWRepsOne
import Derived.Test.YtlpopkknamigoaaWInv
import Derived.Test.YtlpopkknamigoaaWInvWords
import Derived.Test.YtlpopkknamigoaaWGuard
import Derived.Test.YtlpopkknamigoaaWNEv
import Derived.Test.YtlpopkknamigoaaWMore
namespace Go.Proofs.Ytlpopkknamigoaa.Q
open Go.RowKit Go.Proofs.YtlpopkknamigoaaW.PrintWords Go.Proofs.YtlpopkknamigoaaW.PrintLast Go.Proofs.YtlpopkknamigoaaW.PrintMore
attribute [local go_sem] max2_int min2_int max_two min_two max_three min_three max_four min_four   -- for this text's walks alone
set_option linter.unusedVariables false
set_option linter.unusedSimpArgs false



def errW : Option Int → Value
  | none => .nilIface
  | some c => .iface 0 (.int .i64 c)
theorem errW_none : errW none = .nilIface := rfl
theorem errW_some (c : Int) : errW (some c) = .iface 0 (.int .i64 c) := rfl

theorem info3 : (Try.prog.info? 3).map (fun i => (i.zero, i.size, i.bytes)) = some (some (.int .i64 0), 1, 8) := by kernel_rfl
theorem info9 : (Try.prog.info? 9).map (fun i => (i.zero, i.size, i.bytes)) = some (some (.string ⟨#[]⟩), 1, 16) := by kernel_rfl
-- the values' own types

end Go.Proofs.Ytlpopkknamigoaa.Q
