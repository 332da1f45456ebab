/-
  NARROWER THAN 'FOR EVERY INPUT', by the rows' own cells (each row's printed sentence says how): LayoutPages: loops · LayoutWords: loops · LayoutJoins: loops · LayoutTwice: loops · LayoutFlat: loops.
  DERIVED. THE GIVEN ROWS OF THIS SEAT. 6 by the template 'for every input the law returns true; each argument reads behind the call as it read before'; 0 by the template 'total and deterministic' (their statements: YtoeonamjbohokaaTotals.lean).
  GIVEN WITH THE SEED: the statements are not yours to turn. If you find one false, say at which input.
  Laid BY PROGRAM, IN A SANDBOX (cutbox-rows.mjs): the forced cells as the released guide's own fill.sh prints them over the translation 059a7e1e8be03fc6… (all of the seat's roots in one cut). By AI agents, Wed Nov 11 2026. No macro, syntax, notation, axiom, sorry.
-/
import Derived.Test.YtoeonamjbohokaaChecked
import GoSem.Claim
import GoSem.ClaimJoined
import GoSem.ClaimMapViews
import Derived.JoinedTies
import Derived.KernelRfl
namespace Go.Proofs.Ytoeonamjbohokaa
/- THE CELL 'sum', in the pinned program and in every row, IS THE sha256 OF THE DUMP (.gsa) THAT YtoeonamjbohokaaProg.lean LOADS. Nothing in Lean hashes anything: it is a label: what it is worth is what the hold of that sum in a sandbox is worth. -/
noncomputable def Try.pinned : Pinned := { name := "ytoeonamjbohokaa", sum := "059a7e1e8be03fc658e28f559b8d7ea4aa6006cb2dd91cbe3ea8ddcc94f22225", checked := Try.checked }
namespace Rows
def none {H : Type} : Left H := { results := [], args := [] }

/-- 'scarflaw08.LayoutWidths': WHATEVER THE INPUT: true; the input reads as it did. -/
def layoutWidthsSpec : ChangeSpec := { name := "layoutWidths", fn := fun _ => fun
  | [d1, d2] => { results := [.lit (.bool true)], args := [d1, d2] }
  | _ => none }
def layoutWidthsRow : OpenClaim := { program := "ytoeonamjbohokaa", sum := "059a7e1e8be03fc658e28f559b8d7ea4aa6006cb2dd91cbe3ea8ddcc94f22225", func := "scarf/scarflaw08.LayoutWidths", spec := "layoutWidths", inPlace := ["internal/abi.NoEscape", "internal/bytealg.MakeNoZero"], unfollowed := true, recurses := true, apart := false }
def LayoutWidthsSaid : Prop := layoutWidthsRow.holds Try.pinned (OpenSpec.ofChange layoutWidthsSpec)

/-- ITS FALSE NEIGHBOUR: 'it returns false'. Refute it at one input. -/
def layoutWidthsWrong : ChangeSpec := { name := "layoutWidths", fn := fun _ => fun
  | [d1, d2] => { results := [.lit (.bool false)], args := [d1, d2] }
  | _ => none }
def LayoutWidthsWrongFalsely : Prop := layoutWidthsRow.holds Try.pinned (OpenSpec.ofChange layoutWidthsWrong)

/-- 'scarflaw08.LayoutPages': WHATEVER THE INPUT: true; the input reads as it did. -/
def layoutPagesSpec : ChangeSpec := { name := "layoutPages", fn := fun _ => fun
  | [d1, d2] => { results := [.lit (.bool true)], args := [d1, d2] }
  | _ => none }
def layoutPagesRow : OpenClaim := { program := "ytoeonamjbohokaa", sum := "059a7e1e8be03fc658e28f559b8d7ea4aa6006cb2dd91cbe3ea8ddcc94f22225", func := "scarf/scarflaw08.LayoutPages", spec := "layoutPages", inPlace := ["internal/abi.NoEscape", "internal/bytealg.MakeNoZero"], unfollowed := true, recurses := true, loops := true, apart := false }
def LayoutPagesSaid : Prop := layoutPagesRow.holds Try.pinned (OpenSpec.ofChange layoutPagesSpec)

/-- ITS FALSE NEIGHBOUR: 'it returns false'. Refute it at one input. -/
def layoutPagesWrong : ChangeSpec := { name := "layoutPages", fn := fun _ => fun
  | [d1, d2] => { results := [.lit (.bool false)], args := [d1, d2] }
  | _ => none }
def LayoutPagesWrongFalsely : Prop := layoutPagesRow.holds Try.pinned (OpenSpec.ofChange layoutPagesWrong)

/-- 'scarflaw08.LayoutWords': WHATEVER THE INPUT: true; the input reads as it did. -/
def layoutWordsSpec : ChangeSpec := { name := "layoutWords", fn := fun _ => fun
  | [d1, d2, d3] => { results := [.lit (.bool true)], args := [d1, d2, d3] }
  | _ => none }
def layoutWordsRow : OpenClaim := { program := "ytoeonamjbohokaa", sum := "059a7e1e8be03fc658e28f559b8d7ea4aa6006cb2dd91cbe3ea8ddcc94f22225", func := "scarf/scarflaw08.LayoutWords", spec := "layoutWords", inPlace := ["internal/abi.NoEscape", "internal/bytealg.MakeNoZero"], unfollowed := true, recurses := true, loops := true, apart := false }
def LayoutWordsSaid : Prop := layoutWordsRow.holds Try.pinned (OpenSpec.ofChange layoutWordsSpec)

/-- ITS FALSE NEIGHBOUR: 'it returns false'. Refute it at one input. -/
def layoutWordsWrong : ChangeSpec := { name := "layoutWords", fn := fun _ => fun
  | [d1, d2, d3] => { results := [.lit (.bool false)], args := [d1, d2, d3] }
  | _ => none }
def LayoutWordsWrongFalsely : Prop := layoutWordsRow.holds Try.pinned (OpenSpec.ofChange layoutWordsWrong)

/-- 'scarflaw08.LayoutJoins': WHATEVER THE INPUT: true; the input reads as it did. -/
def layoutJoinsSpec : ChangeSpec := { name := "layoutJoins", fn := fun _ => fun
  | [d1, d2, d3] => { results := [.lit (.bool true)], args := [d1, d2, d3] }
  | _ => none }
def layoutJoinsRow : OpenClaim := { program := "ytoeonamjbohokaa", sum := "059a7e1e8be03fc658e28f559b8d7ea4aa6006cb2dd91cbe3ea8ddcc94f22225", func := "scarf/scarflaw08.LayoutJoins", spec := "layoutJoins", inPlace := ["internal/abi.NoEscape", "internal/bytealg.MakeNoZero"], unfollowed := true, recurses := true, loops := true, apart := false }
def LayoutJoinsSaid : Prop := layoutJoinsRow.holds Try.pinned (OpenSpec.ofChange layoutJoinsSpec)

/-- ITS FALSE NEIGHBOUR: 'it returns false'. Refute it at one input. -/
def layoutJoinsWrong : ChangeSpec := { name := "layoutJoins", fn := fun _ => fun
  | [d1, d2, d3] => { results := [.lit (.bool false)], args := [d1, d2, d3] }
  | _ => none }
def LayoutJoinsWrongFalsely : Prop := layoutJoinsRow.holds Try.pinned (OpenSpec.ofChange layoutJoinsWrong)

/-- 'scarflaw08.LayoutTwice': WHATEVER THE INPUT: true; the input reads as it did. -/
def layoutTwiceSpec : ChangeSpec := { name := "layoutTwice", fn := fun _ => fun
  | [d1, d2] => { results := [.lit (.bool true)], args := [d1, d2] }
  | _ => none }
def layoutTwiceRow : OpenClaim := { program := "ytoeonamjbohokaa", sum := "059a7e1e8be03fc658e28f559b8d7ea4aa6006cb2dd91cbe3ea8ddcc94f22225", func := "scarf/scarflaw08.LayoutTwice", spec := "layoutTwice", inPlace := ["internal/abi.NoEscape", "internal/bytealg.MakeNoZero"], unfollowed := true, recurses := true, loops := true, apart := false }
def LayoutTwiceSaid : Prop := layoutTwiceRow.holds Try.pinned (OpenSpec.ofChange layoutTwiceSpec)

/-- ITS FALSE NEIGHBOUR: 'it returns false'. Refute it at one input. -/
def layoutTwiceWrong : ChangeSpec := { name := "layoutTwice", fn := fun _ => fun
  | [d1, d2] => { results := [.lit (.bool false)], args := [d1, d2] }
  | _ => none }
def LayoutTwiceWrongFalsely : Prop := layoutTwiceRow.holds Try.pinned (OpenSpec.ofChange layoutTwiceWrong)

/-- 'scarflaw08.LayoutFlat': WHATEVER THE INPUT: true; the input reads as it did. -/
def layoutFlatSpec : ChangeSpec := { name := "layoutFlat", fn := fun _ => fun
  | [d1, d2] => { results := [.lit (.bool true)], args := [d1, d2] }
  | _ => none }
def layoutFlatRow : OpenClaim := { program := "ytoeonamjbohokaa", sum := "059a7e1e8be03fc658e28f559b8d7ea4aa6006cb2dd91cbe3ea8ddcc94f22225", func := "scarf/scarflaw08.LayoutFlat", spec := "layoutFlat", inPlace := ["internal/abi.NoEscape", "internal/bytealg.MakeNoZero"], unfollowed := true, recurses := true, loops := true, apart := false }
def LayoutFlatSaid : Prop := layoutFlatRow.holds Try.pinned (OpenSpec.ofChange layoutFlatSpec)

/-- ITS FALSE NEIGHBOUR: 'it returns false'. Refute it at one input. -/
def layoutFlatWrong : ChangeSpec := { name := "layoutFlat", fn := fun _ => fun
  | [d1, d2] => { results := [.lit (.bool false)], args := [d1, d2] }
  | _ => none }
def LayoutFlatWrongFalsely : Prop := layoutFlatRow.holds Try.pinned (OpenSpec.ofChange layoutFlatWrong)

/- THE SECOND FORM. 'bulk': how many values and letters a reading holds, each counted each time it is reached (what is shared counts as often as it is met; a slice's spare places count too). A statement '..UptoSaid' is the law's where the arguments, and the package variables that the reading takes, are together of bulk at most 1048576: NARROWER than '..Said'. Prove '..Said' where nothing that the law and all that it calls make is longer than what came in: it says more and counts as full. Else prove '..UptoSaid'. A law counts once. -/
mutual
def uptoBulk {H : Type} : DataW H → Nat
  | .lit (.string bytes) => bytes.length + 1
  | .lit _ => 1
  | .nil => 1
  | .ptr d => uptoBulk d + 1
  | .slice elems spare => uptoBulkAll elems + uptoBulkAll spare + 1
  | .agg parts => uptoBulkAll parts + 1
  | .iface _ d => uptoBulk d + 1
  | .map entries => uptoBulkEntries entries + 1
  | .held _ => 1
def uptoBulkAll {H : Type} : List (DataW H) → Nat
  | [] => 0
  | d :: r => uptoBulk d + uptoBulkAll r
def uptoBulkEntries {H : Type} : List (Lit × DataW H) → Nat
  | [] => 0
  | x :: r => uptoBulkEntry x + uptoBulkEntries r
def uptoBulkEntry {H : Type} : Lit × DataW H → Nat
  | (.string bytes, d) => bytes.length + uptoBulk d + 1
  | (_, d) => uptoBulk d + 1
 end
def uptoSmall : (H : Type) → List (DataW H) → Bool := fun _ ds => decide (uptoBulkAll ds ≤ 1048576)
def OpenSpec.upto (s : _root_.Go.ChangeSpec) : _root_.Go.OpenSpec := { _root_.Go.OpenSpec.ofChange s with cond := some uptoSmall }

/-- 'scarflaw08.LayoutWidths', WHERE WHAT IT READS IS OF BULK AT MOST 1048576: true; the input reads as it did. -/
def layoutWidthsUptoRow : OpenClaim := { program := "ytoeonamjbohokaa", sum := "059a7e1e8be03fc658e28f559b8d7ea4aa6006cb2dd91cbe3ea8ddcc94f22225", func := "scarf/scarflaw08.LayoutWidths", spec := "layoutWidths", inPlace := ["internal/abi.NoEscape", "internal/bytealg.MakeNoZero"], unfollowed := true, recurses := true, apart := false, narrowed := true }
def LayoutWidthsUptoSaid : Prop := layoutWidthsUptoRow.holds Try.pinned (OpenSpec.upto layoutWidthsSpec)

/-- 'scarflaw08.LayoutPages', WHERE WHAT IT READS IS OF BULK AT MOST 1048576: true; the input reads as it did. -/
def layoutPagesUptoRow : OpenClaim := { program := "ytoeonamjbohokaa", sum := "059a7e1e8be03fc658e28f559b8d7ea4aa6006cb2dd91cbe3ea8ddcc94f22225", func := "scarf/scarflaw08.LayoutPages", spec := "layoutPages", inPlace := ["internal/abi.NoEscape", "internal/bytealg.MakeNoZero"], unfollowed := true, recurses := true, loops := true, apart := false, narrowed := true }
def LayoutPagesUptoSaid : Prop := layoutPagesUptoRow.holds Try.pinned (OpenSpec.upto layoutPagesSpec)

/-- 'scarflaw08.LayoutWords', WHERE WHAT IT READS IS OF BULK AT MOST 1048576: true; the input reads as it did. -/
def layoutWordsUptoRow : OpenClaim := { program := "ytoeonamjbohokaa", sum := "059a7e1e8be03fc658e28f559b8d7ea4aa6006cb2dd91cbe3ea8ddcc94f22225", func := "scarf/scarflaw08.LayoutWords", spec := "layoutWords", inPlace := ["internal/abi.NoEscape", "internal/bytealg.MakeNoZero"], unfollowed := true, recurses := true, loops := true, apart := false, narrowed := true }
def LayoutWordsUptoSaid : Prop := layoutWordsUptoRow.holds Try.pinned (OpenSpec.upto layoutWordsSpec)

/-- 'scarflaw08.LayoutJoins', WHERE WHAT IT READS IS OF BULK AT MOST 1048576: true; the input reads as it did. -/
def layoutJoinsUptoRow : OpenClaim := { program := "ytoeonamjbohokaa", sum := "059a7e1e8be03fc658e28f559b8d7ea4aa6006cb2dd91cbe3ea8ddcc94f22225", func := "scarf/scarflaw08.LayoutJoins", spec := "layoutJoins", inPlace := ["internal/abi.NoEscape", "internal/bytealg.MakeNoZero"], unfollowed := true, recurses := true, loops := true, apart := false, narrowed := true }
def LayoutJoinsUptoSaid : Prop := layoutJoinsUptoRow.holds Try.pinned (OpenSpec.upto layoutJoinsSpec)

/-- 'scarflaw08.LayoutTwice', WHERE WHAT IT READS IS OF BULK AT MOST 1048576: true; the input reads as it did. -/
def layoutTwiceUptoRow : OpenClaim := { program := "ytoeonamjbohokaa", sum := "059a7e1e8be03fc658e28f559b8d7ea4aa6006cb2dd91cbe3ea8ddcc94f22225", func := "scarf/scarflaw08.LayoutTwice", spec := "layoutTwice", inPlace := ["internal/abi.NoEscape", "internal/bytealg.MakeNoZero"], unfollowed := true, recurses := true, loops := true, apart := false, narrowed := true }
def LayoutTwiceUptoSaid : Prop := layoutTwiceUptoRow.holds Try.pinned (OpenSpec.upto layoutTwiceSpec)

/-- 'scarflaw08.LayoutFlat', WHERE WHAT IT READS IS OF BULK AT MOST 1048576: true; the input reads as it did. -/
def layoutFlatUptoRow : OpenClaim := { program := "ytoeonamjbohokaa", sum := "059a7e1e8be03fc658e28f559b8d7ea4aa6006cb2dd91cbe3ea8ddcc94f22225", func := "scarf/scarflaw08.LayoutFlat", spec := "layoutFlat", inPlace := ["internal/abi.NoEscape", "internal/bytealg.MakeNoZero"], unfollowed := true, recurses := true, loops := true, apart := false, narrowed := true }
def LayoutFlatUptoSaid : Prop := layoutFlatUptoRow.holds Try.pinned (OpenSpec.upto layoutFlatSpec)

end Rows
end Go.Proofs.Ytoeonamjbohokaa
