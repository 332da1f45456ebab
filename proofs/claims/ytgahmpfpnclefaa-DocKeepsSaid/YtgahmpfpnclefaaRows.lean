/-
  NARROWER THAN 'FOR EVERY INPUT', by the rows' own cells (each row's printed sentence says how): DocPieces: loops · DocFlats: loops · DocWraps: loops · DocRows: loops · DocKeeps: loops.
  DERIVED. THE GIVEN ROWS OF THIS SEAT. 5 by the template 'for every input the law returns true; each argument reads behind the call as it read before'; 0 by the template 'total and deterministic' (their statements: YtgahmpfpnclefaaTotals.lean).
  GIVEN WITH THE SEED: the statements are not yours to turn. If you find one false, say at which input.
  Laid BY PROGRAM, IN A SANDBOX (cutbox-rows.mjs): the forced cells as the released guide's own fill.sh prints them over the translation ec2463986134b915… (all of the seat's roots in one cut). By AI agents, Wed Nov 11 2026. No macro, syntax, notation, axiom, sorry.
-/
import Derived.Test.YtgahmpfpnclefaaChecked
import GoSem.Claim
import GoSem.ClaimJoined
import GoSem.ClaimMapViews
import Derived.JoinedTies
import Derived.KernelRfl
namespace Go.Proofs.Ytgahmpfpnclefaa
/- THE CELL 'sum', in the pinned program and in every row, IS THE sha256 OF THE DUMP (.gsa) THAT YtgahmpfpnclefaaProg.lean LOADS. Nothing in Lean hashes anything: it is a label: what it is worth is what the hold of that sum in a sandbox is worth. -/
noncomputable def Try.pinned : Pinned := { name := "ytgahmpfpnclefaa", sum := "ec2463986134b915582322ef9ddac6d91ff364e415b2b455022872cbba007f91", checked := Try.checked }
namespace Rows
def none {H : Type} : Left H := { results := [], args := [] }

/-- 'scarflaw07.DocPieces': WHATEVER THE INPUT: true; the input reads as it did. -/
def docPiecesSpec : ChangeSpec := { name := "docPieces", fn := fun _ => fun
  | [d] => { results := [.lit (.bool true)], args := [d] }
  | _ => none }
def docPiecesRow : OpenClaim := { program := "ytgahmpfpnclefaa", sum := "ec2463986134b915582322ef9ddac6d91ff364e415b2b455022872cbba007f91", func := "scarf/scarflaw07.DocPieces", spec := "docPieces", inPlace := ["internal/abi.NoEscape"], unfollowed := true, recurses := true, loops := true, apart := false }
def DocPiecesSaid : Prop := docPiecesRow.holds Try.pinned (OpenSpec.ofChange docPiecesSpec)

/-- ITS FALSE NEIGHBOUR: 'it returns false'. Refute it at one input. -/
def docPiecesWrong : ChangeSpec := { name := "docPieces", fn := fun _ => fun
  | [d] => { results := [.lit (.bool false)], args := [d] }
  | _ => none }
def DocPiecesWrongFalsely : Prop := docPiecesRow.holds Try.pinned (OpenSpec.ofChange docPiecesWrong)

/-- 'scarflaw07.DocFlats': WHATEVER THE INPUT: true; the input reads as it did. -/
def docFlatsSpec : ChangeSpec := { name := "docFlats", fn := fun _ => fun
  | [d1, d2] => { results := [.lit (.bool true)], args := [d1, d2] }
  | _ => none }
def docFlatsRow : OpenClaim := { program := "ytgahmpfpnclefaa", sum := "ec2463986134b915582322ef9ddac6d91ff364e415b2b455022872cbba007f91", func := "scarf/scarflaw07.DocFlats", spec := "docFlats", inPlace := ["internal/abi.NoEscape"], unfollowed := true, recurses := true, loops := true, apart := false }
def DocFlatsSaid : Prop := docFlatsRow.holds Try.pinned (OpenSpec.ofChange docFlatsSpec)

/-- ITS FALSE NEIGHBOUR: 'it returns false'. Refute it at one input. -/
def docFlatsWrong : ChangeSpec := { name := "docFlats", fn := fun _ => fun
  | [d1, d2] => { results := [.lit (.bool false)], args := [d1, d2] }
  | _ => none }
def DocFlatsWrongFalsely : Prop := docFlatsRow.holds Try.pinned (OpenSpec.ofChange docFlatsWrong)

/-- 'scarflaw07.DocWraps': WHATEVER THE INPUT: true; the input reads as it did. -/
def docWrapsSpec : ChangeSpec := { name := "docWraps", fn := fun _ => fun
  | [d] => { results := [.lit (.bool true)], args := [d] }
  | _ => none }
def docWrapsRow : OpenClaim := { program := "ytgahmpfpnclefaa", sum := "ec2463986134b915582322ef9ddac6d91ff364e415b2b455022872cbba007f91", func := "scarf/scarflaw07.DocWraps", spec := "docWraps", inPlace := ["internal/abi.NoEscape"], unfollowed := true, recurses := true, loops := true, apart := false }
def DocWrapsSaid : Prop := docWrapsRow.holds Try.pinned (OpenSpec.ofChange docWrapsSpec)

/-- ITS FALSE NEIGHBOUR: 'it returns false'. Refute it at one input. -/
def docWrapsWrong : ChangeSpec := { name := "docWraps", fn := fun _ => fun
  | [d] => { results := [.lit (.bool false)], args := [d] }
  | _ => none }
def DocWrapsWrongFalsely : Prop := docWrapsRow.holds Try.pinned (OpenSpec.ofChange docWrapsWrong)

/-- 'scarflaw07.DocRows': WHATEVER THE INPUT: true; the input reads as it did. -/
def docRowsSpec : ChangeSpec := { name := "docRows", fn := fun _ => fun
  | [d1, d2, d3, d4] => { results := [.lit (.bool true)], args := [d1, d2, d3, d4] }
  | _ => none }
def docRowsRow : OpenClaim := { program := "ytgahmpfpnclefaa", sum := "ec2463986134b915582322ef9ddac6d91ff364e415b2b455022872cbba007f91", func := "scarf/scarflaw07.DocRows", spec := "docRows", inPlace := ["internal/abi.NoEscape"], unfollowed := true, recurses := true, loops := true, apart := false }
def DocRowsSaid : Prop := docRowsRow.holds Try.pinned (OpenSpec.ofChange docRowsSpec)

/-- ITS FALSE NEIGHBOUR: 'it returns false'. Refute it at one input. -/
def docRowsWrong : ChangeSpec := { name := "docRows", fn := fun _ => fun
  | [d1, d2, d3, d4] => { results := [.lit (.bool false)], args := [d1, d2, d3, d4] }
  | _ => none }
def DocRowsWrongFalsely : Prop := docRowsRow.holds Try.pinned (OpenSpec.ofChange docRowsWrong)

/-- 'scarflaw07.DocKeeps': WHATEVER THE INPUT: true; the input reads as it did. -/
def docKeepsSpec : ChangeSpec := { name := "docKeeps", fn := fun _ => fun
  | [d] => { results := [.lit (.bool true)], args := [d] }
  | _ => none }
def docKeepsRow : OpenClaim := { program := "ytgahmpfpnclefaa", sum := "ec2463986134b915582322ef9ddac6d91ff364e415b2b455022872cbba007f91", func := "scarf/scarflaw07.DocKeeps", spec := "docKeeps", inPlace := ["internal/abi.NoEscape"], unfollowed := true, recurses := true, loops := true, apart := false }
def DocKeepsSaid : Prop := docKeepsRow.holds Try.pinned (OpenSpec.ofChange docKeepsSpec)

/-- ITS FALSE NEIGHBOUR: 'it returns false'. Refute it at one input. -/
def docKeepsWrong : ChangeSpec := { name := "docKeeps", fn := fun _ => fun
  | [d] => { results := [.lit (.bool false)], args := [d] }
  | _ => none }
def DocKeepsWrongFalsely : Prop := docKeepsRow.holds Try.pinned (OpenSpec.ofChange docKeepsWrong)

/- THE SECOND FORM. 'bulk': how many values and letters a reading holds, each counted each time it is reached (what is shared counts as often as it is met; a slice's spare places count too). A statement '..UptoSaid' is the law's where the arguments, and the package variables that the reading takes, are together of bulk at most 1048576: NARROWER than '..Said'. Prove '..Said' where nothing that the law and all that it calls make is longer than what came in: it says more and counts as full. Else prove '..UptoSaid'. A law counts once. -/
mutual
def uptoBulk {H : Type} : DataW H → Nat
  | .lit (.string bytes) => bytes.length + 1
  | .lit _ => 1
  | .nil => 1
  | .ptr d => uptoBulk d + 1
  | .slice elems spare => uptoBulkAll elems + uptoBulkAll spare + 1
  | .agg parts => uptoBulkAll parts + 1
  | .iface _ d => uptoBulk d + 1
  | .map entries => uptoBulkEntries entries + 1
  | .held _ => 1
def uptoBulkAll {H : Type} : List (DataW H) → Nat
  | [] => 0
  | d :: r => uptoBulk d + uptoBulkAll r
def uptoBulkEntries {H : Type} : List (Lit × DataW H) → Nat
  | [] => 0
  | x :: r => uptoBulkEntry x + uptoBulkEntries r
def uptoBulkEntry {H : Type} : Lit × DataW H → Nat
  | (.string bytes, d) => bytes.length + uptoBulk d + 1
  | (_, d) => uptoBulk d + 1
 end
def uptoSmall : (H : Type) → List (DataW H) → Bool := fun _ ds => decide (uptoBulkAll ds ≤ 1048576)
def OpenSpec.upto (s : _root_.Go.ChangeSpec) : _root_.Go.OpenSpec := { _root_.Go.OpenSpec.ofChange s with cond := some uptoSmall }

/-- 'scarflaw07.DocPieces', WHERE WHAT IT READS IS OF BULK AT MOST 1048576: true; the input reads as it did. -/
def docPiecesUptoRow : OpenClaim := { program := "ytgahmpfpnclefaa", sum := "ec2463986134b915582322ef9ddac6d91ff364e415b2b455022872cbba007f91", func := "scarf/scarflaw07.DocPieces", spec := "docPieces", inPlace := ["internal/abi.NoEscape"], unfollowed := true, recurses := true, loops := true, apart := false, narrowed := true }
def DocPiecesUptoSaid : Prop := docPiecesUptoRow.holds Try.pinned (OpenSpec.upto docPiecesSpec)

/-- 'scarflaw07.DocFlats', WHERE WHAT IT READS IS OF BULK AT MOST 1048576: true; the input reads as it did. -/
def docFlatsUptoRow : OpenClaim := { program := "ytgahmpfpnclefaa", sum := "ec2463986134b915582322ef9ddac6d91ff364e415b2b455022872cbba007f91", func := "scarf/scarflaw07.DocFlats", spec := "docFlats", inPlace := ["internal/abi.NoEscape"], unfollowed := true, recurses := true, loops := true, apart := false, narrowed := true }
def DocFlatsUptoSaid : Prop := docFlatsUptoRow.holds Try.pinned (OpenSpec.upto docFlatsSpec)

/-- 'scarflaw07.DocWraps', WHERE WHAT IT READS IS OF BULK AT MOST 1048576: true; the input reads as it did. -/
def docWrapsUptoRow : OpenClaim := { program := "ytgahmpfpnclefaa", sum := "ec2463986134b915582322ef9ddac6d91ff364e415b2b455022872cbba007f91", func := "scarf/scarflaw07.DocWraps", spec := "docWraps", inPlace := ["internal/abi.NoEscape"], unfollowed := true, recurses := true, loops := true, apart := false, narrowed := true }
def DocWrapsUptoSaid : Prop := docWrapsUptoRow.holds Try.pinned (OpenSpec.upto docWrapsSpec)

/-- 'scarflaw07.DocRows', WHERE WHAT IT READS IS OF BULK AT MOST 1048576: true; the input reads as it did. -/
def docRowsUptoRow : OpenClaim := { program := "ytgahmpfpnclefaa", sum := "ec2463986134b915582322ef9ddac6d91ff364e415b2b455022872cbba007f91", func := "scarf/scarflaw07.DocRows", spec := "docRows", inPlace := ["internal/abi.NoEscape"], unfollowed := true, recurses := true, loops := true, apart := false, narrowed := true }
def DocRowsUptoSaid : Prop := docRowsUptoRow.holds Try.pinned (OpenSpec.upto docRowsSpec)

/-- 'scarflaw07.DocKeeps', WHERE WHAT IT READS IS OF BULK AT MOST 1048576: true; the input reads as it did. -/
def docKeepsUptoRow : OpenClaim := { program := "ytgahmpfpnclefaa", sum := "ec2463986134b915582322ef9ddac6d91ff364e415b2b455022872cbba007f91", func := "scarf/scarflaw07.DocKeeps", spec := "docKeeps", inPlace := ["internal/abi.NoEscape"], unfollowed := true, recurses := true, loops := true, apart := false, narrowed := true }
def DocKeepsUptoSaid : Prop := docKeepsUptoRow.holds Try.pinned (OpenSpec.upto docKeepsSpec)

end Rows
end Go.Proofs.Ytgahmpfpnclefaa
