/-
  No cell of these rows narrows 'for every input' (looked for: loops, veiled, ifaces, maps, wideKeys, modest, calm, conditions, laid).
  DERIVED. THE GIVEN ROWS OF THIS SEAT. 6 by the template 'for every input the law returns true; each argument reads behind the call as it read before'; 0 by the template 'total and deterministic' (their statements: YtlpopkknamigoaaTotals.lean).
  GIVEN WITH THE SEED: the statements are not yours to turn. If you find one false, say at which input.
  Laid BY PROGRAM, IN A SANDBOX (cutbox-rows.mjs): the forced cells as the released guide's own fill.sh prints them over the translation c8815623f1d61b8d… (all of the seat's roots in one cut). By AI agents, Wed Nov 11 2026. No macro, syntax, notation, axiom, sorry.
-/
import Derived.Test.YtlpopkknamigoaaChecked
import GoSem.Claim
import GoSem.ClaimJoined
import GoSem.ClaimMapViews
import Derived.JoinedTies
import Derived.KernelRfl
namespace Go.Proofs.Ytlpopkknamigoaa
/- THE CELL 'sum', in the pinned program and in every row, IS THE sha256 OF THE DUMP (.gsa) THAT YtlpopkknamigoaaProg.lean LOADS. Nothing in Lean hashes anything: it is a label: what it is worth is what the hold of that sum in a sandbox is worth. -/
noncomputable def Try.pinned : Pinned := { name := "ytlpopkknamigoaa", sum := "c8815623f1d61b8d975498b2c7a70c5f399bd11edd4914a5d0a74bd63437e574", checked := Try.checked }
namespace Rows
def none {H : Type} : Left H := { results := [], args := [] }

/-- 'scarflaw03.RankInts': WHATEVER THE INPUT: true; the input reads as it did. -/
def rankIntsSpec : ChangeSpec := { name := "rankInts", fn := fun _ => fun
  | [d] => { results := [.lit (.bool true)], args := [d] }
  | _ => none }
def rankIntsRow : OpenClaim := { program := "ytlpopkknamigoaa", sum := "c8815623f1d61b8d975498b2c7a70c5f399bd11edd4914a5d0a74bd63437e574", func := "scarf/scarflaw03.RankInts", spec := "rankInts", unfollowed := true, recurses := true, apart := false }
def RankIntsSaid : Prop := rankIntsRow.holds Try.pinned (OpenSpec.ofChange rankIntsSpec)

/-- ITS FALSE NEIGHBOUR: 'it returns false'. Refute it at one input. -/
def rankIntsWrong : ChangeSpec := { name := "rankInts", fn := fun _ => fun
  | [d] => { results := [.lit (.bool false)], args := [d] }
  | _ => none }
def RankIntsWrongFalsely : Prop := rankIntsRow.holds Try.pinned (OpenSpec.ofChange rankIntsWrong)

/-- 'scarflaw03.RankTexts': WHATEVER THE INPUT: true; the input reads as it did. -/
def rankTextsSpec : ChangeSpec := { name := "rankTexts", fn := fun _ => fun
  | [d] => { results := [.lit (.bool true)], args := [d] }
  | _ => none }
def rankTextsRow : OpenClaim := { program := "ytlpopkknamigoaa", sum := "c8815623f1d61b8d975498b2c7a70c5f399bd11edd4914a5d0a74bd63437e574", func := "scarf/scarflaw03.RankTexts", spec := "rankTexts", unfollowed := true, recurses := true, apart := false }
def RankTextsSaid : Prop := rankTextsRow.holds Try.pinned (OpenSpec.ofChange rankTextsSpec)

/-- ITS FALSE NEIGHBOUR: 'it returns false'. Refute it at one input. -/
def rankTextsWrong : ChangeSpec := { name := "rankTexts", fn := fun _ => fun
  | [d] => { results := [.lit (.bool false)], args := [d] }
  | _ => none }
def RankTextsWrongFalsely : Prop := rankTextsRow.holds Try.pinned (OpenSpec.ofChange rankTextsWrong)

/-- 'scarflaw03.RankBy': WHATEVER THE INPUT: true; the input reads as it did. -/
def rankBySpec : ChangeSpec := { name := "rankBy", fn := fun _ => fun
  | [d1, d2] => { results := [.lit (.bool true)], args := [d1, d2] }
  | _ => none }
def rankByRow : OpenClaim := { program := "ytlpopkknamigoaa", sum := "c8815623f1d61b8d975498b2c7a70c5f399bd11edd4914a5d0a74bd63437e574", func := "scarf/scarflaw03.RankBy", spec := "rankBy", unfollowed := true, recurses := true, apart := false }
def RankBySaid : Prop := rankByRow.holds Try.pinned (OpenSpec.ofChange rankBySpec)

/-- ITS FALSE NEIGHBOUR: 'it returns false'. Refute it at one input. -/
def rankByWrong : ChangeSpec := { name := "rankBy", fn := fun _ => fun
  | [d1, d2] => { results := [.lit (.bool false)], args := [d1, d2] }
  | _ => none }
def RankByWrongFalsely : Prop := rankByRow.holds Try.pinned (OpenSpec.ofChange rankByWrong)

/-- 'scarflaw03.RankPlaces': WHATEVER THE INPUT: true; the input reads as it did. -/
def rankPlacesSpec : ChangeSpec := { name := "rankPlaces", fn := fun _ => fun
  | [d1, d2] => { results := [.lit (.bool true)], args := [d1, d2] }
  | _ => none }
def rankPlacesRow : OpenClaim := { program := "ytlpopkknamigoaa", sum := "c8815623f1d61b8d975498b2c7a70c5f399bd11edd4914a5d0a74bd63437e574", func := "scarf/scarflaw03.RankPlaces", spec := "rankPlaces", unfollowed := true, recurses := true, apart := false }
def RankPlacesSaid : Prop := rankPlacesRow.holds Try.pinned (OpenSpec.ofChange rankPlacesSpec)

/-- ITS FALSE NEIGHBOUR: 'it returns false'. Refute it at one input. -/
def rankPlacesWrong : ChangeSpec := { name := "rankPlaces", fn := fun _ => fun
  | [d1, d2] => { results := [.lit (.bool false)], args := [d1, d2] }
  | _ => none }
def RankPlacesWrongFalsely : Prop := rankPlacesRow.holds Try.pinned (OpenSpec.ofChange rankPlacesWrong)

/-- 'scarflaw03.RankPuts': WHATEVER THE INPUT: true; the input reads as it did. -/
def rankPutsSpec : ChangeSpec := { name := "rankPuts", fn := fun _ => fun
  | [d1, d2] => { results := [.lit (.bool true)], args := [d1, d2] }
  | _ => none }
def rankPutsRow : OpenClaim := { program := "ytlpopkknamigoaa", sum := "c8815623f1d61b8d975498b2c7a70c5f399bd11edd4914a5d0a74bd63437e574", func := "scarf/scarflaw03.RankPuts", spec := "rankPuts", unfollowed := true, recurses := true, apart := false }
def RankPutsSaid : Prop := rankPutsRow.holds Try.pinned (OpenSpec.ofChange rankPutsSpec)

/-- ITS FALSE NEIGHBOUR: 'it returns false'. Refute it at one input. -/
def rankPutsWrong : ChangeSpec := { name := "rankPuts", fn := fun _ => fun
  | [d1, d2] => { results := [.lit (.bool false)], args := [d1, d2] }
  | _ => none }
def RankPutsWrongFalsely : Prop := rankPutsRow.holds Try.pinned (OpenSpec.ofChange rankPutsWrong)

/-- 'scarflaw03.RankTables': WHATEVER THE INPUT: true; the input reads as it did. -/
def rankTablesSpec : ChangeSpec := { name := "rankTables", fn := fun _ => fun
  | [d1, d2, d3] => { results := [.lit (.bool true)], args := [d1, d2, d3] }
  | _ => none }
def rankTablesRow : OpenClaim := { program := "ytlpopkknamigoaa", sum := "c8815623f1d61b8d975498b2c7a70c5f399bd11edd4914a5d0a74bd63437e574", func := "scarf/scarflaw03.RankTables", spec := "rankTables", unfollowed := true, recurses := true, apart := false }
def RankTablesSaid : Prop := rankTablesRow.holds Try.pinned (OpenSpec.ofChange rankTablesSpec)

/-- ITS FALSE NEIGHBOUR: 'it returns false'. Refute it at one input. -/
def rankTablesWrong : ChangeSpec := { name := "rankTables", fn := fun _ => fun
  | [d1, d2, d3] => { results := [.lit (.bool false)], args := [d1, d2, d3] }
  | _ => none }
def RankTablesWrongFalsely : Prop := rankTablesRow.holds Try.pinned (OpenSpec.ofChange rankTablesWrong)

/- THE SECOND FORM. 'bulk': how many values and letters a reading holds, each counted each time it is reached (what is shared counts as often as it is met; a slice's spare places count too). A statement '..UptoSaid' is the law's where the arguments, and the package variables that the reading takes, are together of bulk at most 1048576: NARROWER than '..Said'. Prove '..Said' where nothing that the law and all that it calls make is longer than what came in: it says more and counts as full. Else prove '..UptoSaid'. A law counts once. -/
mutual
def uptoBulk {H : Type} : DataW H → Nat
  | .lit (.string bytes) => bytes.length + 1
  | .lit _ => 1
  | .nil => 1
  | .ptr d => uptoBulk d + 1
  | .slice elems spare => uptoBulkAll elems + uptoBulkAll spare + 1
  | .agg parts => uptoBulkAll parts + 1
  | .iface _ d => uptoBulk d + 1
  | .map entries => uptoBulkEntries entries + 1
  | .held _ => 1
def uptoBulkAll {H : Type} : List (DataW H) → Nat
  | [] => 0
  | d :: r => uptoBulk d + uptoBulkAll r
def uptoBulkEntries {H : Type} : List (Lit × DataW H) → Nat
  | [] => 0
  | x :: r => uptoBulkEntry x + uptoBulkEntries r
def uptoBulkEntry {H : Type} : Lit × DataW H → Nat
  | (.string bytes, d) => bytes.length + uptoBulk d + 1
  | (_, d) => uptoBulk d + 1
 end
def uptoSmall : (H : Type) → List (DataW H) → Bool := fun _ ds => decide (uptoBulkAll ds ≤ 1048576)
def OpenSpec.upto (s : _root_.Go.ChangeSpec) : _root_.Go.OpenSpec := { _root_.Go.OpenSpec.ofChange s with cond := some uptoSmall }

/-- 'scarflaw03.RankInts', WHERE WHAT IT READS IS OF BULK AT MOST 1048576: true; the input reads as it did. -/
def rankIntsUptoRow : OpenClaim := { program := "ytlpopkknamigoaa", sum := "c8815623f1d61b8d975498b2c7a70c5f399bd11edd4914a5d0a74bd63437e574", func := "scarf/scarflaw03.RankInts", spec := "rankInts", unfollowed := true, recurses := true, apart := false, narrowed := true }
def RankIntsUptoSaid : Prop := rankIntsUptoRow.holds Try.pinned (OpenSpec.upto rankIntsSpec)

/-- 'scarflaw03.RankTexts', WHERE WHAT IT READS IS OF BULK AT MOST 1048576: true; the input reads as it did. -/
def rankTextsUptoRow : OpenClaim := { program := "ytlpopkknamigoaa", sum := "c8815623f1d61b8d975498b2c7a70c5f399bd11edd4914a5d0a74bd63437e574", func := "scarf/scarflaw03.RankTexts", spec := "rankTexts", unfollowed := true, recurses := true, apart := false, narrowed := true }
def RankTextsUptoSaid : Prop := rankTextsUptoRow.holds Try.pinned (OpenSpec.upto rankTextsSpec)

/-- 'scarflaw03.RankBy', WHERE WHAT IT READS IS OF BULK AT MOST 1048576: true; the input reads as it did. -/
def rankByUptoRow : OpenClaim := { program := "ytlpopkknamigoaa", sum := "c8815623f1d61b8d975498b2c7a70c5f399bd11edd4914a5d0a74bd63437e574", func := "scarf/scarflaw03.RankBy", spec := "rankBy", unfollowed := true, recurses := true, apart := false, narrowed := true }
def RankByUptoSaid : Prop := rankByUptoRow.holds Try.pinned (OpenSpec.upto rankBySpec)

/-- 'scarflaw03.RankPlaces', WHERE WHAT IT READS IS OF BULK AT MOST 1048576: true; the input reads as it did. -/
def rankPlacesUptoRow : OpenClaim := { program := "ytlpopkknamigoaa", sum := "c8815623f1d61b8d975498b2c7a70c5f399bd11edd4914a5d0a74bd63437e574", func := "scarf/scarflaw03.RankPlaces", spec := "rankPlaces", unfollowed := true, recurses := true, apart := false, narrowed := true }
def RankPlacesUptoSaid : Prop := rankPlacesUptoRow.holds Try.pinned (OpenSpec.upto rankPlacesSpec)

/-- 'scarflaw03.RankPuts', WHERE WHAT IT READS IS OF BULK AT MOST 1048576: true; the input reads as it did. -/
def rankPutsUptoRow : OpenClaim := { program := "ytlpopkknamigoaa", sum := "c8815623f1d61b8d975498b2c7a70c5f399bd11edd4914a5d0a74bd63437e574", func := "scarf/scarflaw03.RankPuts", spec := "rankPuts", unfollowed := true, recurses := true, apart := false, narrowed := true }
def RankPutsUptoSaid : Prop := rankPutsUptoRow.holds Try.pinned (OpenSpec.upto rankPutsSpec)

/-- 'scarflaw03.RankTables', WHERE WHAT IT READS IS OF BULK AT MOST 1048576: true; the input reads as it did. -/
def rankTablesUptoRow : OpenClaim := { program := "ytlpopkknamigoaa", sum := "c8815623f1d61b8d975498b2c7a70c5f399bd11edd4914a5d0a74bd63437e574", func := "scarf/scarflaw03.RankTables", spec := "rankTables", unfollowed := true, recurses := true, apart := false, narrowed := true }
def RankTablesUptoSaid : Prop := rankTablesUptoRow.holds Try.pinned (OpenSpec.upto rankTablesSpec)

end Rows
end Go.Proofs.Ytlpopkknamigoaa
