/- The two tables of unicode/utf8, off the row's own list; a world that meets the list. -/
import Derived.Test.YtpoeiiimmgnioaaDoorXUtf
import Derived.Test.YtpoeiiimmgnioaaDoorRows
import Derived.Lib.LaidIn
import Derived.Lib.LaidU8T
import Derived.LaidHandle
import Derived.LaidLaws
import Derived.Handed
namespace Go.Proofs.YtpoeiiimmgnioaaDoor.Laid
open Go.Shelf Go.Lib
def ren : Ren := ⟨fun x => x, fun | 119 => 50 | 138 => 53 | 139 => 54 | n => n, fun | 3 => 0 | 4 => 1 | n => n⟩
theorem types : U8Types Tryd.prog ren := ⟨by kernel_rfl, by kernel_rfl, by kernel_rfl, by kernel_rfl⟩
theorem extra : U8Extra Tryd.prog ren := ⟨by kernel_rfl, by kernel_rfl, by kernel_rfl, by kernel_rfl, by kernel_rfl, by kernel_rfl, by kernel_rfl⟩
set_option maxRecDepth 100000 in
theorem firstEq : Rows.laid_unicode_utf8_first = Lib.firstData := by kernel_rfl
theorem acceptEq : (Rows.laid_unicode_utf8_acceptRanges : DataW Unit) = Lib.acceptData := by kernel_rfl
def list : List (String × DataW Unit) := [("unicode/utf8.acceptRanges", Rows.laid_unicode_utf8_acceptRanges), ("unicode/utf8.first", Rows.laid_unicode_utf8_first)]
theorem list_eq : list = [("unicode/utf8.acceptRanges", Lib.acceptData), ("unicode/utf8.first", Lib.firstData)] := by
  unfold list; rw [firstEq, acceptEq]
theorem metH_iff {W : World} : laidMetH Tryd.prog list W ↔ laidMet Tryd.prog list W := by
  have e : (list.filter fun x => x.2.handleName?.isSome) = [] := by rw [list_eq]; kernel_rfl
  unfold laidMetH
  rw [e]
theorem glob {W : World} (h : laidMetH Tryd.prog list W) : Q.GLOB W := by
  have h1 := metH_iff.1 h
  rw [list_eq] at h1
  exact utf8Tabs_of_readsT types extra (Lib.laidMet.reads h1 (.tail _ (.head _))) (Lib.laidMet.reads h1 (.head _))
noncomputable def laidWorld (os : Os) : World :=
  let w0 := World.holding Tryd.prog os ⟨#[], #[], []⟩
  let put (h : Array Obj) (g : Nat) (cs : Array Value) : Array Obj := h.modify g fun
    | .cells _ t frozen => .cells cs t frozen
    | o => o
  let h1 := put w0.heap 0 (Lib.firstTab.map fun z => Value.int .u8 z).toArray
  let h2 := put h1 1 ((List.range 16).flatMap fun i => [Value.int .u8 (Lib.accLo i), Value.int .u8 (Lib.accHi i)]).toArray
  { w0 with heap := h2 }
theorem met (os : Os) (args : Array Value) : laidMetH Tryd.prog list ((laidWorld os).forCall (fun _ _ => 0) ⟨#[], args, []⟩).memory := by
  rw [metH_iff, list_eq]
  exact (LaidIn.of_run (l := [("unicode/utf8.acceptRanges", Lib.acceptData), ("unicode/utf8.first", Lib.firstData)]) [1, 0] 8 (by kernel_rfl) (by kernel_rfl) (by kernel_rfl) (by kernel_rfl)).met
end Go.Proofs.YtpoeiiimmgnioaaDoor.Laid
