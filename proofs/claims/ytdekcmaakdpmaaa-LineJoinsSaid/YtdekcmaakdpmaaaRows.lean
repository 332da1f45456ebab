/-
  No cell of these rows narrows 'for every input' (looked for: loops, veiled, ifaces, maps, wideKeys, modest, calm, conditions, laid).
  DERIVED. THE GIVEN ROWS OF THIS SEAT. 5 by the template 'for every input the law returns true; each argument reads behind the call as it read before'; 0 by the template 'total and deterministic' (their statements: YtdekcmaakdpmaaaTotals.lean).
  GIVEN WITH THE SEED: the statements are not yours to turn. If you find one false, say at which input.
  Laid BY PROGRAM, IN A SANDBOX (cutbox-rows.mjs): the forced cells as the released guide's own fill.sh prints them over the translation e68d3a360dfbaaa3… (all of the seat's roots in one cut). By AI agents, Wed Nov 11 2026. No macro, syntax, notation, axiom, sorry.
-/
import Derived.Test.YtdekcmaakdpmaaaChecked
import GoSem.Claim
import GoSem.ClaimJoined
import GoSem.ClaimMapViews
import Derived.JoinedTies
import Derived.KernelRfl
namespace Go.Proofs.Ytdekcmaakdpmaaa
/- THE CELL 'sum', in the pinned program and in every row, IS THE sha256 OF THE DUMP (.gsa) THAT YtdekcmaakdpmaaaProg.lean LOADS. Nothing in Lean hashes anything: it is a label: what it is worth is what the hold of that sum in a sandbox is worth. -/
noncomputable def Try.pinned : Pinned := { name := "ytdekcmaakdpmaaa", sum := "e68d3a360dfbaaa3565a6b7b926353e55a3bfa48967d8bd7a813c64013c25404", checked := Try.checked }
namespace Rows
def none {H : Type} : Left H := { results := [], args := [] }

/-- 'scarflaw02.LineSplits': WHATEVER THE INPUT: true; the input reads as it did. -/
def lineSplitsSpec : ChangeSpec := { name := "lineSplits", fn := fun _ => fun
  | [d] => { results := [.lit (.bool true)], args := [d] }
  | _ => none }
def lineSplitsRow : OpenClaim := { program := "ytdekcmaakdpmaaa", sum := "e68d3a360dfbaaa3565a6b7b926353e55a3bfa48967d8bd7a813c64013c25404", func := "scarf/scarflaw02.LineSplits", spec := "lineSplits", inPlace := ["internal/bytealg.IndexByte"], unfollowed := true, recurses := true, apart := false }
def LineSplitsSaid : Prop := lineSplitsRow.holds Try.pinned (OpenSpec.ofChange lineSplitsSpec)

/-- ITS FALSE NEIGHBOUR: 'it returns false'. Refute it at one input. -/
def lineSplitsWrong : ChangeSpec := { name := "lineSplits", fn := fun _ => fun
  | [d] => { results := [.lit (.bool false)], args := [d] }
  | _ => none }
def LineSplitsWrongFalsely : Prop := lineSplitsRow.holds Try.pinned (OpenSpec.ofChange lineSplitsWrong)

/-- 'scarflaw02.LinePlaces': WHATEVER THE INPUT: true; the input reads as it did. -/
def linePlacesSpec : ChangeSpec := { name := "linePlaces", fn := fun _ => fun
  | [d1, d2, d3] => { results := [.lit (.bool true)], args := [d1, d2, d3] }
  | _ => none }
def linePlacesRow : OpenClaim := { program := "ytdekcmaakdpmaaa", sum := "e68d3a360dfbaaa3565a6b7b926353e55a3bfa48967d8bd7a813c64013c25404", func := "scarf/scarflaw02.LinePlaces", spec := "linePlaces", inPlace := ["internal/bytealg.IndexByte"], unfollowed := true, recurses := true, apart := false }
def LinePlacesSaid : Prop := linePlacesRow.holds Try.pinned (OpenSpec.ofChange linePlacesSpec)

/-- ITS FALSE NEIGHBOUR: 'it returns false'. Refute it at one input. -/
def linePlacesWrong : ChangeSpec := { name := "linePlaces", fn := fun _ => fun
  | [d1, d2, d3] => { results := [.lit (.bool false)], args := [d1, d2, d3] }
  | _ => none }
def LinePlacesWrongFalsely : Prop := linePlacesRow.holds Try.pinned (OpenSpec.ofChange linePlacesWrong)

/-- 'scarflaw02.LineCounts': WHATEVER THE INPUT: true; the input reads as it did. -/
def lineCountsSpec : ChangeSpec := { name := "lineCounts", fn := fun _ => fun
  | [d1, d2, d3] => { results := [.lit (.bool true)], args := [d1, d2, d3] }
  | _ => none }
def lineCountsRow : OpenClaim := { program := "ytdekcmaakdpmaaa", sum := "e68d3a360dfbaaa3565a6b7b926353e55a3bfa48967d8bd7a813c64013c25404", func := "scarf/scarflaw02.LineCounts", spec := "lineCounts", inPlace := ["internal/bytealg.IndexByte"], unfollowed := true, recurses := true, apart := false }
def LineCountsSaid : Prop := lineCountsRow.holds Try.pinned (OpenSpec.ofChange lineCountsSpec)

/-- ITS FALSE NEIGHBOUR: 'it returns false'. Refute it at one input. -/
def lineCountsWrong : ChangeSpec := { name := "lineCounts", fn := fun _ => fun
  | [d1, d2, d3] => { results := [.lit (.bool false)], args := [d1, d2, d3] }
  | _ => none }
def LineCountsWrongFalsely : Prop := lineCountsRow.holds Try.pinned (OpenSpec.ofChange lineCountsWrong)

/-- 'scarflaw02.LineBack': WHATEVER THE INPUT: true; the input reads as it did. -/
def lineBackSpec : ChangeSpec := { name := "lineBack", fn := fun _ => fun
  | [d1, d2] => { results := [.lit (.bool true)], args := [d1, d2] }
  | _ => none }
def lineBackRow : OpenClaim := { program := "ytdekcmaakdpmaaa", sum := "e68d3a360dfbaaa3565a6b7b926353e55a3bfa48967d8bd7a813c64013c25404", func := "scarf/scarflaw02.LineBack", spec := "lineBack", inPlace := ["internal/bytealg.IndexByte"], unfollowed := true, recurses := true, apart := false }
def LineBackSaid : Prop := lineBackRow.holds Try.pinned (OpenSpec.ofChange lineBackSpec)

/-- ITS FALSE NEIGHBOUR: 'it returns false'. Refute it at one input. -/
def lineBackWrong : ChangeSpec := { name := "lineBack", fn := fun _ => fun
  | [d1, d2] => { results := [.lit (.bool false)], args := [d1, d2] }
  | _ => none }
def LineBackWrongFalsely : Prop := lineBackRow.holds Try.pinned (OpenSpec.ofChange lineBackWrong)

/-- 'scarflaw02.LineJoins': WHATEVER THE INPUT: true; the input reads as it did. -/
def lineJoinsSpec : ChangeSpec := { name := "lineJoins", fn := fun _ => fun
  | [d1, d2, d3] => { results := [.lit (.bool true)], args := [d1, d2, d3] }
  | _ => none }
def lineJoinsRow : OpenClaim := { program := "ytdekcmaakdpmaaa", sum := "e68d3a360dfbaaa3565a6b7b926353e55a3bfa48967d8bd7a813c64013c25404", func := "scarf/scarflaw02.LineJoins", spec := "lineJoins", inPlace := ["internal/bytealg.IndexByte"], unfollowed := true, recurses := true, apart := false }
def LineJoinsSaid : Prop := lineJoinsRow.holds Try.pinned (OpenSpec.ofChange lineJoinsSpec)

/-- ITS FALSE NEIGHBOUR: 'it returns false'. Refute it at one input. -/
def lineJoinsWrong : ChangeSpec := { name := "lineJoins", fn := fun _ => fun
  | [d1, d2, d3] => { results := [.lit (.bool false)], args := [d1, d2, d3] }
  | _ => none }
def LineJoinsWrongFalsely : Prop := lineJoinsRow.holds Try.pinned (OpenSpec.ofChange lineJoinsWrong)

/- THE SECOND FORM. 'bulk': how many values and letters a reading holds, each counted each time it is reached (what is shared counts as often as it is met; a slice's spare places count too). A statement '..UptoSaid' is the law's where the arguments, and the package variables that the reading takes, are together of bulk at most 1048576: NARROWER than '..Said'. Prove '..Said' where nothing that the law and all that it calls make is longer than what came in: it says more and counts as full. Else prove '..UptoSaid'. A law counts once. -/
mutual
def uptoBulk {H : Type} : DataW H → Nat
  | .lit (.string bytes) => bytes.length + 1
  | .lit _ => 1
  | .nil => 1
  | .ptr d => uptoBulk d + 1
  | .slice elems spare => uptoBulkAll elems + uptoBulkAll spare + 1
  | .agg parts => uptoBulkAll parts + 1
  | .iface _ d => uptoBulk d + 1
  | .map entries => uptoBulkEntries entries + 1
  | .held _ => 1
def uptoBulkAll {H : Type} : List (DataW H) → Nat
  | [] => 0
  | d :: r => uptoBulk d + uptoBulkAll r
def uptoBulkEntries {H : Type} : List (Lit × DataW H) → Nat
  | [] => 0
  | x :: r => uptoBulkEntry x + uptoBulkEntries r
def uptoBulkEntry {H : Type} : Lit × DataW H → Nat
  | (.string bytes, d) => bytes.length + uptoBulk d + 1
  | (_, d) => uptoBulk d + 1
 end
def uptoSmall : (H : Type) → List (DataW H) → Bool := fun _ ds => decide (uptoBulkAll ds ≤ 1048576)
def OpenSpec.upto (s : _root_.Go.ChangeSpec) : _root_.Go.OpenSpec := { _root_.Go.OpenSpec.ofChange s with cond := some uptoSmall }

/-- 'scarflaw02.LineSplits', WHERE WHAT IT READS IS OF BULK AT MOST 1048576: true; the input reads as it did. -/
def lineSplitsUptoRow : OpenClaim := { program := "ytdekcmaakdpmaaa", sum := "e68d3a360dfbaaa3565a6b7b926353e55a3bfa48967d8bd7a813c64013c25404", func := "scarf/scarflaw02.LineSplits", spec := "lineSplits", inPlace := ["internal/bytealg.IndexByte"], unfollowed := true, recurses := true, apart := false, narrowed := true }
def LineSplitsUptoSaid : Prop := lineSplitsUptoRow.holds Try.pinned (OpenSpec.upto lineSplitsSpec)

/-- 'scarflaw02.LinePlaces', WHERE WHAT IT READS IS OF BULK AT MOST 1048576: true; the input reads as it did. -/
def linePlacesUptoRow : OpenClaim := { program := "ytdekcmaakdpmaaa", sum := "e68d3a360dfbaaa3565a6b7b926353e55a3bfa48967d8bd7a813c64013c25404", func := "scarf/scarflaw02.LinePlaces", spec := "linePlaces", inPlace := ["internal/bytealg.IndexByte"], unfollowed := true, recurses := true, apart := false, narrowed := true }
def LinePlacesUptoSaid : Prop := linePlacesUptoRow.holds Try.pinned (OpenSpec.upto linePlacesSpec)

/-- 'scarflaw02.LineCounts', WHERE WHAT IT READS IS OF BULK AT MOST 1048576: true; the input reads as it did. -/
def lineCountsUptoRow : OpenClaim := { program := "ytdekcmaakdpmaaa", sum := "e68d3a360dfbaaa3565a6b7b926353e55a3bfa48967d8bd7a813c64013c25404", func := "scarf/scarflaw02.LineCounts", spec := "lineCounts", inPlace := ["internal/bytealg.IndexByte"], unfollowed := true, recurses := true, apart := false, narrowed := true }
def LineCountsUptoSaid : Prop := lineCountsUptoRow.holds Try.pinned (OpenSpec.upto lineCountsSpec)

/-- 'scarflaw02.LineBack', WHERE WHAT IT READS IS OF BULK AT MOST 1048576: true; the input reads as it did. -/
def lineBackUptoRow : OpenClaim := { program := "ytdekcmaakdpmaaa", sum := "e68d3a360dfbaaa3565a6b7b926353e55a3bfa48967d8bd7a813c64013c25404", func := "scarf/scarflaw02.LineBack", spec := "lineBack", inPlace := ["internal/bytealg.IndexByte"], unfollowed := true, recurses := true, apart := false, narrowed := true }
def LineBackUptoSaid : Prop := lineBackUptoRow.holds Try.pinned (OpenSpec.upto lineBackSpec)

/-- 'scarflaw02.LineJoins', WHERE WHAT IT READS IS OF BULK AT MOST 1048576: true; the input reads as it did. -/
def lineJoinsUptoRow : OpenClaim := { program := "ytdekcmaakdpmaaa", sum := "e68d3a360dfbaaa3565a6b7b926353e55a3bfa48967d8bd7a813c64013c25404", func := "scarf/scarflaw02.LineJoins", spec := "lineJoins", inPlace := ["internal/bytealg.IndexByte"], unfollowed := true, recurses := true, apart := false, narrowed := true }
def LineJoinsUptoSaid : Prop := lineJoinsUptoRow.holds Try.pinned (OpenSpec.upto lineJoinsSpec)

end Rows
end Go.Proofs.Ytdekcmaakdpmaaa
