/-
  No cell of these rows narrows 'for every input' (looked for: loops, veiled, ifaces, maps, wideKeys, modest, calm, conditions, laid).
  DERIVED. THE GIVEN ROWS OF THIS SEAT. 4 by the template 'for every input the law returns true; each argument reads behind the call as it read before'; 0 by the template 'total and deterministic' (their statements: YtbmkgpocnkiibaaTotals.lean).
  GIVEN WITH THE SEED: the statements are not yours to turn. If you find one false, say at which input.
  Laid BY PROGRAM, IN A SANDBOX (cutbox-rows.mjs): the forced cells as the released guide's own fill.sh prints them over the translation 9de40883d6f01099… (all of the seat's roots in one cut). By AI agents, Wed Nov 11 2026. No macro, syntax, notation, axiom, sorry.
-/
import Derived.Test.YtbmkgpocnkiibaaChecked
import GoSem.Claim
import GoSem.ClaimJoined
import GoSem.ClaimMapViews
import Derived.JoinedTies
import Derived.KernelRfl
namespace Go.Proofs.Ytbmkgpocnkiibaa
/- THE CELL 'sum', in the pinned program and in every row, IS THE sha256 OF THE DUMP (.gsa) THAT YtbmkgpocnkiibaaProg.lean LOADS. Nothing in Lean hashes anything: it is a label: what it is worth is what the hold of that sum in a sandbox is worth. -/
noncomputable def Try.pinned : Pinned := { name := "ytbmkgpocnkiibaa", sum := "9de40883d6f01099344c40d5d26d45e8ddf531ab3819f2704fc3f7aefc6cf2e9", checked := Try.checked }
namespace Rows
def none {H : Type} : Left H := { results := [], args := [] }

/-- 'scarflaw17.ChunkCovers': WHATEVER THE INPUT: true; the input reads as it did. -/
def chunkCoversSpec : ChangeSpec := { name := "chunkCovers", fn := fun _ => fun
  | [d1, d2, d3, d4, d5] => { results := [.lit (.bool true)], args := [d1, d2, d3, d4, d5] }
  | _ => none }
def chunkCoversRow : OpenClaim := { program := "ytbmkgpocnkiibaa", sum := "9de40883d6f01099344c40d5d26d45e8ddf531ab3819f2704fc3f7aefc6cf2e9", func := "scarf/scarflaw17.ChunkCovers", spec := "chunkCovers", unfollowed := true, recurses := true, apart := false }
def ChunkCoversSaid : Prop := chunkCoversRow.holds Try.pinned (OpenSpec.ofChange chunkCoversSpec)

/-- ITS FALSE NEIGHBOUR: 'it returns false'. Refute it at one input. -/
def chunkCoversWrong : ChangeSpec := { name := "chunkCovers", fn := fun _ => fun
  | [d1, d2, d3, d4, d5] => { results := [.lit (.bool false)], args := [d1, d2, d3, d4, d5] }
  | _ => none }
def ChunkCoversWrongFalsely : Prop := chunkCoversRow.holds Try.pinned (OpenSpec.ofChange chunkCoversWrong)

/-- 'scarflaw17.ChunkTurns': WHATEVER THE INPUT: true; the input reads as it did. -/
def chunkTurnsSpec : ChangeSpec := { name := "chunkTurns", fn := fun _ => fun
  | [d1, d2, d3, d4, d5] => { results := [.lit (.bool true)], args := [d1, d2, d3, d4, d5] }
  | _ => none }
def chunkTurnsRow : OpenClaim := { program := "ytbmkgpocnkiibaa", sum := "9de40883d6f01099344c40d5d26d45e8ddf531ab3819f2704fc3f7aefc6cf2e9", func := "scarf/scarflaw17.ChunkTurns", spec := "chunkTurns", unfollowed := true, recurses := true, apart := false }
def ChunkTurnsSaid : Prop := chunkTurnsRow.holds Try.pinned (OpenSpec.ofChange chunkTurnsSpec)

/-- ITS FALSE NEIGHBOUR: 'it returns false'. Refute it at one input. -/
def chunkTurnsWrong : ChangeSpec := { name := "chunkTurns", fn := fun _ => fun
  | [d1, d2, d3, d4, d5] => { results := [.lit (.bool false)], args := [d1, d2, d3, d4, d5] }
  | _ => none }
def ChunkTurnsWrongFalsely : Prop := chunkTurnsRow.holds Try.pinned (OpenSpec.ofChange chunkTurnsWrong)

/-- 'scarflaw17.ChunkSelf': WHATEVER THE INPUT: true; the input reads as it did. -/
def chunkSelfSpec : ChangeSpec := { name := "chunkSelf", fn := fun _ => fun
  | [d] => { results := [.lit (.bool true)], args := [d] }
  | _ => none }
def chunkSelfRow : OpenClaim := { program := "ytbmkgpocnkiibaa", sum := "9de40883d6f01099344c40d5d26d45e8ddf531ab3819f2704fc3f7aefc6cf2e9", func := "scarf/scarflaw17.ChunkSelf", spec := "chunkSelf", unfollowed := true, recurses := true, apart := false }
def ChunkSelfSaid : Prop := chunkSelfRow.holds Try.pinned (OpenSpec.ofChange chunkSelfSpec)

/-- ITS FALSE NEIGHBOUR: 'it returns false'. Refute it at one input. -/
def chunkSelfWrong : ChangeSpec := { name := "chunkSelf", fn := fun _ => fun
  | [d] => { results := [.lit (.bool false)], args := [d] }
  | _ => none }
def ChunkSelfWrongFalsely : Prop := chunkSelfRow.holds Try.pinned (OpenSpec.ofChange chunkSelfWrong)

/-- 'scarflaw17.ChunkRows': WHATEVER THE INPUT: true; the input reads as it did. -/
def chunkRowsSpec : ChangeSpec := { name := "chunkRows", fn := fun _ => fun
  | [d1, d2, d3, d4, d5, d6] => { results := [.lit (.bool true)], args := [d1, d2, d3, d4, d5, d6] }
  | _ => none }
def chunkRowsRow : OpenClaim := { program := "ytbmkgpocnkiibaa", sum := "9de40883d6f01099344c40d5d26d45e8ddf531ab3819f2704fc3f7aefc6cf2e9", func := "scarf/scarflaw17.ChunkRows", spec := "chunkRows", unfollowed := true, recurses := true, apart := false }
def ChunkRowsSaid : Prop := chunkRowsRow.holds Try.pinned (OpenSpec.ofChange chunkRowsSpec)

/-- ITS FALSE NEIGHBOUR: 'it returns false'. Refute it at one input. -/
def chunkRowsWrong : ChangeSpec := { name := "chunkRows", fn := fun _ => fun
  | [d1, d2, d3, d4, d5, d6] => { results := [.lit (.bool false)], args := [d1, d2, d3, d4, d5, d6] }
  | _ => none }
def ChunkRowsWrongFalsely : Prop := chunkRowsRow.holds Try.pinned (OpenSpec.ofChange chunkRowsWrong)

/- THE SECOND FORM. 'bulk': how many values and letters a reading holds, each counted each time it is reached (what is shared counts as often as it is met; a slice's spare places count too). A statement '..UptoSaid' is the law's where the arguments, and the package variables that the reading takes, are together of bulk at most 1048576: NARROWER than '..Said'. Prove '..Said' where nothing that the law and all that it calls make is longer than what came in: it says more and counts as full. Else prove '..UptoSaid'. A law counts once. -/
mutual
def uptoBulk {H : Type} : DataW H → Nat
  | .lit (.string bytes) => bytes.length + 1
  | .lit _ => 1
  | .nil => 1
  | .ptr d => uptoBulk d + 1
  | .slice elems spare => uptoBulkAll elems + uptoBulkAll spare + 1
  | .agg parts => uptoBulkAll parts + 1
  | .iface _ d => uptoBulk d + 1
  | .map entries => uptoBulkEntries entries + 1
  | .held _ => 1
def uptoBulkAll {H : Type} : List (DataW H) → Nat
  | [] => 0
  | d :: r => uptoBulk d + uptoBulkAll r
def uptoBulkEntries {H : Type} : List (Lit × DataW H) → Nat
  | [] => 0
  | x :: r => uptoBulkEntry x + uptoBulkEntries r
def uptoBulkEntry {H : Type} : Lit × DataW H → Nat
  | (.string bytes, d) => bytes.length + uptoBulk d + 1
  | (_, d) => uptoBulk d + 1
 end
def uptoSmall : (H : Type) → List (DataW H) → Bool := fun _ ds => decide (uptoBulkAll ds ≤ 1048576)
def OpenSpec.upto (s : _root_.Go.ChangeSpec) : _root_.Go.OpenSpec := { _root_.Go.OpenSpec.ofChange s with cond := some uptoSmall }

/-- 'scarflaw17.ChunkCovers', WHERE WHAT IT READS IS OF BULK AT MOST 1048576: true; the input reads as it did. -/
def chunkCoversUptoRow : OpenClaim := { program := "ytbmkgpocnkiibaa", sum := "9de40883d6f01099344c40d5d26d45e8ddf531ab3819f2704fc3f7aefc6cf2e9", func := "scarf/scarflaw17.ChunkCovers", spec := "chunkCovers", unfollowed := true, recurses := true, apart := false, narrowed := true }
def ChunkCoversUptoSaid : Prop := chunkCoversUptoRow.holds Try.pinned (OpenSpec.upto chunkCoversSpec)

/-- 'scarflaw17.ChunkTurns', WHERE WHAT IT READS IS OF BULK AT MOST 1048576: true; the input reads as it did. -/
def chunkTurnsUptoRow : OpenClaim := { program := "ytbmkgpocnkiibaa", sum := "9de40883d6f01099344c40d5d26d45e8ddf531ab3819f2704fc3f7aefc6cf2e9", func := "scarf/scarflaw17.ChunkTurns", spec := "chunkTurns", unfollowed := true, recurses := true, apart := false, narrowed := true }
def ChunkTurnsUptoSaid : Prop := chunkTurnsUptoRow.holds Try.pinned (OpenSpec.upto chunkTurnsSpec)

/-- 'scarflaw17.ChunkSelf', WHERE WHAT IT READS IS OF BULK AT MOST 1048576: true; the input reads as it did. -/
def chunkSelfUptoRow : OpenClaim := { program := "ytbmkgpocnkiibaa", sum := "9de40883d6f01099344c40d5d26d45e8ddf531ab3819f2704fc3f7aefc6cf2e9", func := "scarf/scarflaw17.ChunkSelf", spec := "chunkSelf", unfollowed := true, recurses := true, apart := false, narrowed := true }
def ChunkSelfUptoSaid : Prop := chunkSelfUptoRow.holds Try.pinned (OpenSpec.upto chunkSelfSpec)

/-- 'scarflaw17.ChunkRows', WHERE WHAT IT READS IS OF BULK AT MOST 1048576: true; the input reads as it did. -/
def chunkRowsUptoRow : OpenClaim := { program := "ytbmkgpocnkiibaa", sum := "9de40883d6f01099344c40d5d26d45e8ddf531ab3819f2704fc3f7aefc6cf2e9", func := "scarf/scarflaw17.ChunkRows", spec := "chunkRows", unfollowed := true, recurses := true, apart := false, narrowed := true }
def ChunkRowsUptoSaid : Prop := chunkRowsUptoRow.holds Try.pinned (OpenSpec.upto chunkRowsSpec)

end Rows
end Go.Proofs.Ytbmkgpocnkiibaa
