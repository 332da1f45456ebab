-- Written by this repo's pp.py (the kit's print program with additions).
import Derived.Test.YtpoeiiimmgnioaaDoorProg
import Derived.Below
import Derived.Deep.Draws
import Derived.Deep.AppendLies
import Derived.Maps.AppendAt
import Derived.OwnWalk
import Derived.Laws.BytesArg
import Derived.Laws.MakeOwn
import Derived.Laws.OwnMore
import Derived.Deep.OwnRows
import Derived.Tactics
import Derived.Lib.ConvBytes
import Derived.Laws.Slices
import Derived.WalkKit
import Derived.KernelRfl
import Derived.RowKit3
import Derived.Deep.LoopGhost
import Derived.Deep.QuietTactic
import Derived.BigQuiet
import Derived.WideLaws
import Derived.Deep.DeepCutAuto
import Derived.Deep.CutBlock
import Derived.Deep.RegionHeld3
import Derived.Laws.Rows
import Derived.Lib.AppendStr
import Derived.ArgAppend
import Derived.Laws.IdiomCopy
import Derived.OrdersHeld
import Derived.Laws.BitsLemmas
import Derived.RowKit
import Derived.Test.YtpoeiiimmgnioaaDoorXWords
import Derived.Test.YtpoeiiimmgnioaaDoorXStrRow
import Derived.Test.YtpoeiiimmgnioaaDoorXBytes
import Derived.Test.YtpoeiiimmgnioaaDoorXUtf
import Derived.Test.YtpoeiiimmgnioaaDoorWWords
import Derived.Test.YtpoeiiimmgnioaaDoorWLast
import Derived.Test.YtpoeiiimmgnioaaDoorWTab
import Derived.Test.YtpoeiiimmgnioaaDoorWFour
import Derived.Test.YtpoeiiimmgnioaaDoorWQPut
import Derived.Test.YtpoeiiimmgnioaaDoorWApart
import Derived.Test.YtpoeiiimmgnioaaDoorWArr
import Derived.Test.YtpoeiiimmgnioaaDoorWZeros
import Derived.Test.YtpoeiiimmgnioaaDoorWFoot
import Derived.Test.YtpoeiiimmgnioaaDoorWKept
import Derived.Test.YtpoeiiimmgnioaaDoorWShare
import Derived.Test.YtpoeiiimmgnioaaDoorWN
import Derived.Test.YtpoeiiimmgnioaaDoorWFootNe
import Derived.Test.YtpoeiiimmgnioaaDoorWAt
import Derived.Test.YtpoeiiimmgnioaaDoorWEqStruct
import Derived.Test.YtpoeiiimmgnioaaDoorWRepsOne
import Derived.Test.YtpoeiiimmgnioaaDoorWInv
import Derived.Test.YtpoeiiimmgnioaaDoorWInvWords
import Derived.Test.YtpoeiiimmgnioaaDoorWGuard
import Derived.Test.YtpoeiiimmgnioaaDoorWNEv
import Derived.Test.YtpoeiiimmgnioaaDoorWMore
namespace Go.Proofs.YtpoeiiimmgnioaaDoor.Q
open Go.RowKit Go.Proofs.YtpoeiiimmgnioaaDoorW.PrintWords Go.Proofs.YtpoeiiimmgnioaaDoorW.PrintLast Go.Proofs.YtpoeiiimmgnioaaDoorW.PrintMore
attribute [local go_sem] max2_int min2_int max_two min_two max_three min_three max_four min_four   -- for this text's walks alone
set_option linter.unusedVariables false
set_option linter.unusedSimpArgs false



def errW : Option Int → Value
  | none => .nilIface
  | some c => .iface 0 (.int .i64 c)
theorem errW_none : errW none = .nilIface := rfl
theorem errW_some (c : Int) : errW (some c) = .iface 0 (.int .i64 c) := rfl

theorem info5 : (Tryd.prog.info? 5).map (fun i => (i.zero, i.size, i.bytes)) = some (some (.int .u8 0), 1, 1) := by kernel_rfl
-- the values' own types

end Go.Proofs.YtpoeiiimmgnioaaDoor.Q
