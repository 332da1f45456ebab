/-
  No cell of these rows narrows 'for every input' (looked for: loops, veiled, ifaces, maps, wideKeys, modest, calm, conditions, laid).
  DERIVED. THE GIVEN ROWS OF THIS SEAT. 6 by the template 'for every input the law returns true; each argument reads behind the call as it read before'; 0 by the template 'total and deterministic' (their statements: YtinfmkmebemhcaaTotals.lean).
  GIVEN WITH THE SEED: the statements are not yours to turn. If you find one false, say at which input.
  Laid BY PROGRAM, IN A SANDBOX (cutbox-rows.mjs): the forced cells as the released guide's own fill.sh prints them over the translation d2b334e50d8d488c… (all of the seat's roots in one cut). By AI agents, Wed Nov 11 2026. No macro, syntax, notation, axiom, sorry.
-/
import Derived.Test.YtinfmkmebemhcaaChecked
import GoSem.Claim
import GoSem.ClaimJoined
import GoSem.ClaimMapViews
import Derived.JoinedTies
import Derived.KernelRfl
namespace Go.Proofs.Ytinfmkmebemhcaa
/- THE CELL 'sum', in the pinned program and in every row, IS THE sha256 OF THE DUMP (.gsa) THAT YtinfmkmebemhcaaProg.lean LOADS. Nothing in Lean hashes anything: it is a label: what it is worth is what the hold of that sum in a sandbox is worth. -/
noncomputable def Try.pinned : Pinned := { name := "ytinfmkmebemhcaa", sum := "d2b334e50d8d488c5d46b4ffee8c1e79d8d240751067a8e87cd0a6043e18e9da", checked := Try.checked }
namespace Rows
def none {H : Type} : Left H := { results := [], args := [] }

/-- 'scarflaw16.MyersLong': WHATEVER THE INPUT: true; the input reads as it did. -/
def myersLongSpec : ChangeSpec := { name := "myersLong", fn := fun _ => fun
  | [d1, d2, d3] => { results := [.lit (.bool true)], args := [d1, d2, d3] }
  | _ => none }
def myersLongRow : OpenClaim := { program := "ytinfmkmebemhcaa", sum := "d2b334e50d8d488c5d46b4ffee8c1e79d8d240751067a8e87cd0a6043e18e9da", func := "scarf/scarflaw16.MyersLong", spec := "myersLong", recurses := true, apart := false }
def MyersLongSaid : Prop := myersLongRow.holds Try.pinned (OpenSpec.ofChange myersLongSpec)

/-- ITS FALSE NEIGHBOUR: 'it returns false'. Refute it at one input. -/
def myersLongWrong : ChangeSpec := { name := "myersLong", fn := fun _ => fun
  | [d1, d2, d3] => { results := [.lit (.bool false)], args := [d1, d2, d3] }
  | _ => none }
def MyersLongWrongFalsely : Prop := myersLongRow.holds Try.pinned (OpenSpec.ofChange myersLongWrong)

/-- 'scarflaw16.MyersEnds': WHATEVER THE INPUT: true; the input reads as it did. -/
def myersEndsSpec : ChangeSpec := { name := "myersEnds", fn := fun _ => fun
  | [d1, d2, d3, d4] => { results := [.lit (.bool true)], args := [d1, d2, d3, d4] }
  | _ => none }
def myersEndsRow : OpenClaim := { program := "ytinfmkmebemhcaa", sum := "d2b334e50d8d488c5d46b4ffee8c1e79d8d240751067a8e87cd0a6043e18e9da", func := "scarf/scarflaw16.MyersEnds", spec := "myersEnds", recurses := true, apart := false }
def MyersEndsSaid : Prop := myersEndsRow.holds Try.pinned (OpenSpec.ofChange myersEndsSpec)

/-- ITS FALSE NEIGHBOUR: 'it returns false'. Refute it at one input. -/
def myersEndsWrong : ChangeSpec := { name := "myersEnds", fn := fun _ => fun
  | [d1, d2, d3, d4] => { results := [.lit (.bool false)], args := [d1, d2, d3, d4] }
  | _ => none }
def MyersEndsWrongFalsely : Prop := myersEndsRow.holds Try.pinned (OpenSpec.ofChange myersEndsWrong)

/-- 'scarflaw16.MyersRight': WHATEVER THE INPUT: true; the input reads as it did. -/
def myersRightSpec : ChangeSpec := { name := "myersRight", fn := fun _ => fun
  | [d1, d2, d3] => { results := [.lit (.bool true)], args := [d1, d2, d3] }
  | _ => none }
def myersRightRow : OpenClaim := { program := "ytinfmkmebemhcaa", sum := "d2b334e50d8d488c5d46b4ffee8c1e79d8d240751067a8e87cd0a6043e18e9da", func := "scarf/scarflaw16.MyersRight", spec := "myersRight", recurses := true, apart := false }
def MyersRightSaid : Prop := myersRightRow.holds Try.pinned (OpenSpec.ofChange myersRightSpec)

/-- ITS FALSE NEIGHBOUR: 'it returns false'. Refute it at one input. -/
def myersRightWrong : ChangeSpec := { name := "myersRight", fn := fun _ => fun
  | [d1, d2, d3] => { results := [.lit (.bool false)], args := [d1, d2, d3] }
  | _ => none }
def MyersRightWrongFalsely : Prop := myersRightRow.holds Try.pinned (OpenSpec.ofChange myersRightWrong)

/-- 'scarflaw16.MyersNumbers': WHATEVER THE INPUT: true; the input reads as it did. -/
def myersNumbersSpec : ChangeSpec := { name := "myersNumbers", fn := fun _ => fun
  | [d] => { results := [.lit (.bool true)], args := [d] }
  | _ => none }
def myersNumbersRow : OpenClaim := { program := "ytinfmkmebemhcaa", sum := "d2b334e50d8d488c5d46b4ffee8c1e79d8d240751067a8e87cd0a6043e18e9da", func := "scarf/scarflaw16.MyersNumbers", spec := "myersNumbers", recurses := true, apart := false }
def MyersNumbersSaid : Prop := myersNumbersRow.holds Try.pinned (OpenSpec.ofChange myersNumbersSpec)

/-- ITS FALSE NEIGHBOUR: 'it returns false'. Refute it at one input. -/
def myersNumbersWrong : ChangeSpec := { name := "myersNumbers", fn := fun _ => fun
  | [d] => { results := [.lit (.bool false)], args := [d] }
  | _ => none }
def MyersNumbersWrongFalsely : Prop := myersNumbersRow.holds Try.pinned (OpenSpec.ofChange myersNumbersWrong)

/-- 'scarflaw16.MyersMany': WHATEVER THE INPUT: true; the input reads as it did. -/
def myersManySpec : ChangeSpec := { name := "myersMany", fn := fun _ => fun
  | [d1, d2, d3] => { results := [.lit (.bool true)], args := [d1, d2, d3] }
  | _ => none }
def myersManyRow : OpenClaim := { program := "ytinfmkmebemhcaa", sum := "d2b334e50d8d488c5d46b4ffee8c1e79d8d240751067a8e87cd0a6043e18e9da", func := "scarf/scarflaw16.MyersMany", spec := "myersMany", recurses := true, apart := false }
def MyersManySaid : Prop := myersManyRow.holds Try.pinned (OpenSpec.ofChange myersManySpec)

/-- ITS FALSE NEIGHBOUR: 'it returns false'. Refute it at one input. -/
def myersManyWrong : ChangeSpec := { name := "myersMany", fn := fun _ => fun
  | [d1, d2, d3] => { results := [.lit (.bool false)], args := [d1, d2, d3] }
  | _ => none }
def MyersManyWrongFalsely : Prop := myersManyRow.holds Try.pinned (OpenSpec.ofChange myersManyWrong)

/-- 'scarflaw16.MyersTurns': WHATEVER THE INPUT: true; the input reads as it did. -/
def myersTurnsSpec : ChangeSpec := { name := "myersTurns", fn := fun _ => fun
  | [d1, d2] => { results := [.lit (.bool true)], args := [d1, d2] }
  | _ => none }
def myersTurnsRow : OpenClaim := { program := "ytinfmkmebemhcaa", sum := "d2b334e50d8d488c5d46b4ffee8c1e79d8d240751067a8e87cd0a6043e18e9da", func := "scarf/scarflaw16.MyersTurns", spec := "myersTurns", unfollowed := true, recurses := true, apart := false }
def MyersTurnsSaid : Prop := myersTurnsRow.holds Try.pinned (OpenSpec.ofChange myersTurnsSpec)

/-- ITS FALSE NEIGHBOUR: 'it returns false'. Refute it at one input. -/
def myersTurnsWrong : ChangeSpec := { name := "myersTurns", fn := fun _ => fun
  | [d1, d2] => { results := [.lit (.bool false)], args := [d1, d2] }
  | _ => none }
def MyersTurnsWrongFalsely : Prop := myersTurnsRow.holds Try.pinned (OpenSpec.ofChange myersTurnsWrong)

/- THE SECOND FORM. 'bulk': how many values and letters a reading holds, each counted each time it is reached (what is shared counts as often as it is met; a slice's spare places count too). A statement '..UptoSaid' is the law's where the arguments, and the package variables that the reading takes, are together of bulk at most 1048576: NARROWER than '..Said'. Prove '..Said' where nothing that the law and all that it calls make is longer than what came in: it says more and counts as full. Else prove '..UptoSaid'. A law counts once. -/
mutual
def uptoBulk {H : Type} : DataW H → Nat
  | .lit (.string bytes) => bytes.length + 1
  | .lit _ => 1
  | .nil => 1
  | .ptr d => uptoBulk d + 1
  | .slice elems spare => uptoBulkAll elems + uptoBulkAll spare + 1
  | .agg parts => uptoBulkAll parts + 1
  | .iface _ d => uptoBulk d + 1
  | .map entries => uptoBulkEntries entries + 1
  | .held _ => 1
def uptoBulkAll {H : Type} : List (DataW H) → Nat
  | [] => 0
  | d :: r => uptoBulk d + uptoBulkAll r
def uptoBulkEntries {H : Type} : List (Lit × DataW H) → Nat
  | [] => 0
  | x :: r => uptoBulkEntry x + uptoBulkEntries r
def uptoBulkEntry {H : Type} : Lit × DataW H → Nat
  | (.string bytes, d) => bytes.length + uptoBulk d + 1
  | (_, d) => uptoBulk d + 1
 end
def uptoSmall : (H : Type) → List (DataW H) → Bool := fun _ ds => decide (uptoBulkAll ds ≤ 1048576)
def OpenSpec.upto (s : _root_.Go.ChangeSpec) : _root_.Go.OpenSpec := { _root_.Go.OpenSpec.ofChange s with cond := some uptoSmall }

/-- 'scarflaw16.MyersLong', WHERE WHAT IT READS IS OF BULK AT MOST 1048576: true; the input reads as it did. -/
def myersLongUptoRow : OpenClaim := { program := "ytinfmkmebemhcaa", sum := "d2b334e50d8d488c5d46b4ffee8c1e79d8d240751067a8e87cd0a6043e18e9da", func := "scarf/scarflaw16.MyersLong", spec := "myersLong", recurses := true, apart := false, narrowed := true }
def MyersLongUptoSaid : Prop := myersLongUptoRow.holds Try.pinned (OpenSpec.upto myersLongSpec)

/-- 'scarflaw16.MyersEnds', WHERE WHAT IT READS IS OF BULK AT MOST 1048576: true; the input reads as it did. -/
def myersEndsUptoRow : OpenClaim := { program := "ytinfmkmebemhcaa", sum := "d2b334e50d8d488c5d46b4ffee8c1e79d8d240751067a8e87cd0a6043e18e9da", func := "scarf/scarflaw16.MyersEnds", spec := "myersEnds", recurses := true, apart := false, narrowed := true }
def MyersEndsUptoSaid : Prop := myersEndsUptoRow.holds Try.pinned (OpenSpec.upto myersEndsSpec)

/-- 'scarflaw16.MyersRight', WHERE WHAT IT READS IS OF BULK AT MOST 1048576: true; the input reads as it did. -/
def myersRightUptoRow : OpenClaim := { program := "ytinfmkmebemhcaa", sum := "d2b334e50d8d488c5d46b4ffee8c1e79d8d240751067a8e87cd0a6043e18e9da", func := "scarf/scarflaw16.MyersRight", spec := "myersRight", recurses := true, apart := false, narrowed := true }
def MyersRightUptoSaid : Prop := myersRightUptoRow.holds Try.pinned (OpenSpec.upto myersRightSpec)

/-- 'scarflaw16.MyersNumbers', WHERE WHAT IT READS IS OF BULK AT MOST 1048576: true; the input reads as it did. -/
def myersNumbersUptoRow : OpenClaim := { program := "ytinfmkmebemhcaa", sum := "d2b334e50d8d488c5d46b4ffee8c1e79d8d240751067a8e87cd0a6043e18e9da", func := "scarf/scarflaw16.MyersNumbers", spec := "myersNumbers", recurses := true, apart := false, narrowed := true }
def MyersNumbersUptoSaid : Prop := myersNumbersUptoRow.holds Try.pinned (OpenSpec.upto myersNumbersSpec)

/-- 'scarflaw16.MyersMany', WHERE WHAT IT READS IS OF BULK AT MOST 1048576: true; the input reads as it did. -/
def myersManyUptoRow : OpenClaim := { program := "ytinfmkmebemhcaa", sum := "d2b334e50d8d488c5d46b4ffee8c1e79d8d240751067a8e87cd0a6043e18e9da", func := "scarf/scarflaw16.MyersMany", spec := "myersMany", recurses := true, apart := false, narrowed := true }
def MyersManyUptoSaid : Prop := myersManyUptoRow.holds Try.pinned (OpenSpec.upto myersManySpec)

/-- 'scarflaw16.MyersTurns', WHERE WHAT IT READS IS OF BULK AT MOST 1048576: true; the input reads as it did. -/
def myersTurnsUptoRow : OpenClaim := { program := "ytinfmkmebemhcaa", sum := "d2b334e50d8d488c5d46b4ffee8c1e79d8d240751067a8e87cd0a6043e18e9da", func := "scarf/scarflaw16.MyersTurns", spec := "myersTurns", unfollowed := true, recurses := true, apart := false, narrowed := true }
def MyersTurnsUptoSaid : Prop := myersTurnsUptoRow.holds Try.pinned (OpenSpec.upto myersTurnsSpec)

end Rows
end Go.Proofs.Ytinfmkmebemhcaa
