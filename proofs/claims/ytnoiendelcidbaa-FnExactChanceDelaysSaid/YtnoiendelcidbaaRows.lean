/-
  No cell of these rows narrows 'for every input' (looked for: loops, veiled, ifaces, maps, wideKeys, modest, calm, conditions, laid).
  DERIVED. THE GIVEN ROWS OF THIS SEAT. 9 by the template 'for every input the law returns true; each argument reads behind the call as it read before'; 0 by the template 'total and deterministic' (their statements: YtnoiendelcidbaaTotals.lean).
  GIVEN WITH THE SEED: the statements are not yours to turn. If you find one false, say at which input.
  Laid BY PROGRAM, IN A SANDBOX (cutbox-rows.mjs): the forced cells as the released guide's own fill.sh prints them over the translation e5ed29eb47ab6b1b… (all of the seat's roots in one cut). By AI agents, Wed Nov 11 2026. No macro, syntax, notation, axiom, sorry.
-/
import Derived.Test.YtnoiendelcidbaaChecked
import GoSem.Claim
import GoSem.ClaimJoined
import GoSem.ClaimMapViews
import Derived.JoinedTies
import Derived.KernelRfl
namespace Go.Proofs.Ytnoiendelcidbaa
/- THE CELL 'sum', in the pinned program and in every row, IS THE sha256 OF THE DUMP (.gsa) THAT YtnoiendelcidbaaProg.lean LOADS. Nothing in Lean hashes anything: it is a label: what it is worth is what the hold of that sum in a sandbox is worth. -/
noncomputable def Try.pinned : Pinned := { name := "ytnoiendelcidbaa", sum := "e5ed29eb47ab6b1b248cedee4651b1a0a355882d9c8cb346e61767ac74c75e7d", checked := Try.checked }
namespace Rows
def none {H : Type} : Left H := { results := [], args := [] }

/-- 'laws.FnExactFitsWindow': WHATEVER THE INPUT: true; the input reads as it did. -/
def fnExactFitsWindowSpec : ChangeSpec := { name := "fnExactFitsWindow", fn := fun _ => fun
  | [d1, d2] => { results := [.lit (.bool true)], args := [d1, d2] }
  | _ => none }
def fnExactFitsWindowRow : OpenClaim := { program := "ytnoiendelcidbaa", sum := "e5ed29eb47ab6b1b248cedee4651b1a0a355882d9c8cb346e61767ac74c75e7d", func := "loop.example/g01274/laws.FnExactFitsWindow", spec := "fnExactFitsWindow", plainKeys := false, apart := false }
def FnExactFitsWindowSaid : Prop := fnExactFitsWindowRow.holds Try.pinned (OpenSpec.ofChange fnExactFitsWindowSpec)

/-- ITS FALSE NEIGHBOUR: 'it returns false'. Refute it at one input. -/
def fnExactFitsWindowWrong : ChangeSpec := { name := "fnExactFitsWindow", fn := fun _ => fun
  | [d1, d2] => { results := [.lit (.bool false)], args := [d1, d2] }
  | _ => none }
def FnExactFitsWindowWrongFalsely : Prop := fnExactFitsWindowRow.holds Try.pinned (OpenSpec.ofChange fnExactFitsWindowWrong)

/-- 'laws.FnExactSameWindows': WHATEVER THE INPUT: true; the input reads as it did. -/
def fnExactSameWindowsSpec : ChangeSpec := { name := "fnExactSameWindows", fn := fun _ => fun
  | [d1, d2] => { results := [.lit (.bool true)], args := [d1, d2] }
  | _ => none }
def fnExactSameWindowsRow : OpenClaim := { program := "ytnoiendelcidbaa", sum := "e5ed29eb47ab6b1b248cedee4651b1a0a355882d9c8cb346e61767ac74c75e7d", func := "loop.example/g01274/laws.FnExactSameWindows", spec := "fnExactSameWindows", plainKeys := false, apart := false }
def FnExactSameWindowsSaid : Prop := fnExactSameWindowsRow.holds Try.pinned (OpenSpec.ofChange fnExactSameWindowsSpec)

/-- ITS FALSE NEIGHBOUR: 'it returns false'. Refute it at one input. -/
def fnExactSameWindowsWrong : ChangeSpec := { name := "fnExactSameWindows", fn := fun _ => fun
  | [d1, d2] => { results := [.lit (.bool false)], args := [d1, d2] }
  | _ => none }
def FnExactSameWindowsWrongFalsely : Prop := fnExactSameWindowsRow.holds Try.pinned (OpenSpec.ofChange fnExactSameWindowsWrong)

/-- 'laws.FnExactNarrowSpan': WHATEVER THE INPUT: true; the input reads as it did. -/
def fnExactNarrowSpanSpec : ChangeSpec := { name := "fnExactNarrowSpan", fn := fun _ => fun
  | [d1, d2, d3, d4] => { results := [.lit (.bool true)], args := [d1, d2, d3, d4] }
  | _ => none }
def fnExactNarrowSpanRow : OpenClaim := { program := "ytnoiendelcidbaa", sum := "e5ed29eb47ab6b1b248cedee4651b1a0a355882d9c8cb346e61767ac74c75e7d", func := "loop.example/g01274/laws.FnExactNarrowSpan", spec := "fnExactNarrowSpan", unfollowed := true, recurses := true, plainKeys := false, apart := false }
def FnExactNarrowSpanSaid : Prop := fnExactNarrowSpanRow.holds Try.pinned (OpenSpec.ofChange fnExactNarrowSpanSpec)

/-- ITS FALSE NEIGHBOUR: 'it returns false'. Refute it at one input. -/
def fnExactNarrowSpanWrong : ChangeSpec := { name := "fnExactNarrowSpan", fn := fun _ => fun
  | [d1, d2, d3, d4] => { results := [.lit (.bool false)], args := [d1, d2, d3, d4] }
  | _ => none }
def FnExactNarrowSpanWrongFalsely : Prop := fnExactNarrowSpanRow.holds Try.pinned (OpenSpec.ofChange fnExactNarrowSpanWrong)

/-- 'laws.FnExactFitsWindows': WHATEVER THE INPUT: true; the input reads as it did. -/
def fnExactFitsWindowsSpec : ChangeSpec := { name := "fnExactFitsWindows", fn := fun _ => fun
  | [d1, d2] => { results := [.lit (.bool true)], args := [d1, d2] }
  | _ => none }
def fnExactFitsWindowsRow : OpenClaim := { program := "ytnoiendelcidbaa", sum := "e5ed29eb47ab6b1b248cedee4651b1a0a355882d9c8cb346e61767ac74c75e7d", func := "loop.example/g01274/laws.FnExactFitsWindows", spec := "fnExactFitsWindows", plainKeys := false, apart := false }
def FnExactFitsWindowsSaid : Prop := fnExactFitsWindowsRow.holds Try.pinned (OpenSpec.ofChange fnExactFitsWindowsSpec)

/-- ITS FALSE NEIGHBOUR: 'it returns false'. Refute it at one input. -/
def fnExactFitsWindowsWrong : ChangeSpec := { name := "fnExactFitsWindows", fn := fun _ => fun
  | [d1, d2] => { results := [.lit (.bool false)], args := [d1, d2] }
  | _ => none }
def FnExactFitsWindowsWrongFalsely : Prop := fnExactFitsWindowsRow.holds Try.pinned (OpenSpec.ofChange fnExactFitsWindowsWrong)

/-- 'laws.FnExactValidSpans': WHATEVER THE INPUT: true; the input reads as it did. -/
def fnExactValidSpansSpec : ChangeSpec := { name := "fnExactValidSpans", fn := fun _ => fun
  | [d1, d2] => { results := [.lit (.bool true)], args := [d1, d2] }
  | _ => none }
def fnExactValidSpansRow : OpenClaim := { program := "ytnoiendelcidbaa", sum := "e5ed29eb47ab6b1b248cedee4651b1a0a355882d9c8cb346e61767ac74c75e7d", func := "loop.example/g01274/laws.FnExactValidSpans", spec := "fnExactValidSpans", unfollowed := true, recurses := true, plainKeys := false, apart := false }
def FnExactValidSpansSaid : Prop := fnExactValidSpansRow.holds Try.pinned (OpenSpec.ofChange fnExactValidSpansSpec)

/-- ITS FALSE NEIGHBOUR: 'it returns false'. Refute it at one input. -/
def fnExactValidSpansWrong : ChangeSpec := { name := "fnExactValidSpans", fn := fun _ => fun
  | [d1, d2] => { results := [.lit (.bool false)], args := [d1, d2] }
  | _ => none }
def FnExactValidSpansWrongFalsely : Prop := fnExactValidSpansRow.holds Try.pinned (OpenSpec.ofChange fnExactValidSpansWrong)

/-- 'laws.FnExactSpansAround': WHATEVER THE INPUT: true; the input reads as it did. -/
def fnExactSpansAroundSpec : ChangeSpec := { name := "fnExactSpansAround", fn := fun _ => fun
  | [d1, d2, d3] => { results := [.lit (.bool true)], args := [d1, d2, d3] }
  | _ => none }
def fnExactSpansAroundRow : OpenClaim := { program := "ytnoiendelcidbaa", sum := "e5ed29eb47ab6b1b248cedee4651b1a0a355882d9c8cb346e61767ac74c75e7d", func := "loop.example/g01274/laws.FnExactSpansAround", spec := "fnExactSpansAround", plainKeys := false, apart := false }
def FnExactSpansAroundSaid : Prop := fnExactSpansAroundRow.holds Try.pinned (OpenSpec.ofChange fnExactSpansAroundSpec)

/-- ITS FALSE NEIGHBOUR: 'it returns false'. Refute it at one input. -/
def fnExactSpansAroundWrong : ChangeSpec := { name := "fnExactSpansAround", fn := fun _ => fun
  | [d1, d2, d3] => { results := [.lit (.bool false)], args := [d1, d2, d3] }
  | _ => none }
def FnExactSpansAroundWrongFalsely : Prop := fnExactSpansAroundRow.holds Try.pinned (OpenSpec.ofChange fnExactSpansAroundWrong)

/-- 'laws.FnExactWithoutPieces': WHATEVER THE INPUT: true; the input reads as it did. -/
def fnExactWithoutPiecesSpec : ChangeSpec := { name := "fnExactWithoutPieces", fn := fun _ => fun
  | [d1, d2] => { results := [.lit (.bool true)], args := [d1, d2] }
  | _ => none }
def fnExactWithoutPiecesRow : OpenClaim := { program := "ytnoiendelcidbaa", sum := "e5ed29eb47ab6b1b248cedee4651b1a0a355882d9c8cb346e61767ac74c75e7d", func := "loop.example/g01274/laws.FnExactWithoutPieces", spec := "fnExactWithoutPieces", plainKeys := false, apart := false }
def FnExactWithoutPiecesSaid : Prop := fnExactWithoutPiecesRow.holds Try.pinned (OpenSpec.ofChange fnExactWithoutPiecesSpec)

/-- ITS FALSE NEIGHBOUR: 'it returns false'. Refute it at one input. -/
def fnExactWithoutPiecesWrong : ChangeSpec := { name := "fnExactWithoutPieces", fn := fun _ => fun
  | [d1, d2] => { results := [.lit (.bool false)], args := [d1, d2] }
  | _ => none }
def FnExactWithoutPiecesWrongFalsely : Prop := fnExactWithoutPiecesRow.holds Try.pinned (OpenSpec.ofChange fnExactWithoutPiecesWrong)

/-- 'laws.FnExactChanceDelays': WHATEVER THE INPUT: true; the input reads as it did. -/
def fnExactChanceDelaysSpec : ChangeSpec := { name := "fnExactChanceDelays", fn := fun _ => fun
  | [d1, d2, d3] => { results := [.lit (.bool true)], args := [d1, d2, d3] }
  | _ => none }
def fnExactChanceDelaysRow : OpenClaim := { program := "ytnoiendelcidbaa", sum := "e5ed29eb47ab6b1b248cedee4651b1a0a355882d9c8cb346e61767ac74c75e7d", func := "loop.example/g01274/laws.FnExactChanceDelays", spec := "fnExactChanceDelays", unfollowed := true, recurses := true, plainKeys := false, apart := false }
def FnExactChanceDelaysSaid : Prop := fnExactChanceDelaysRow.holds Try.pinned (OpenSpec.ofChange fnExactChanceDelaysSpec)

/-- ITS FALSE NEIGHBOUR: 'it returns false'. Refute it at one input. -/
def fnExactChanceDelaysWrong : ChangeSpec := { name := "fnExactChanceDelays", fn := fun _ => fun
  | [d1, d2, d3] => { results := [.lit (.bool false)], args := [d1, d2, d3] }
  | _ => none }
def FnExactChanceDelaysWrongFalsely : Prop := fnExactChanceDelaysRow.holds Try.pinned (OpenSpec.ofChange fnExactChanceDelaysWrong)

/-- 'laws.FnExactLongerCells': WHATEVER THE INPUT: true; the input reads as it did. -/
def fnExactLongerCellsSpec : ChangeSpec := { name := "fnExactLongerCells", fn := fun _ => fun
  | [d1, d2] => { results := [.lit (.bool true)], args := [d1, d2] }
  | _ => none }
def fnExactLongerCellsRow : OpenClaim := { program := "ytnoiendelcidbaa", sum := "e5ed29eb47ab6b1b248cedee4651b1a0a355882d9c8cb346e61767ac74c75e7d", func := "loop.example/g01274/laws.FnExactLongerCells", spec := "fnExactLongerCells", inPlace := ["slices.overlaps[loop.example/g01274/impl.Cell]"], unfollowed := true, recurses := true, plainKeys := false, apart := false }
def FnExactLongerCellsSaid : Prop := fnExactLongerCellsRow.holds Try.pinned (OpenSpec.ofChange fnExactLongerCellsSpec)

/-- ITS FALSE NEIGHBOUR: 'it returns false'. Refute it at one input. -/
def fnExactLongerCellsWrong : ChangeSpec := { name := "fnExactLongerCells", fn := fun _ => fun
  | [d1, d2] => { results := [.lit (.bool false)], args := [d1, d2] }
  | _ => none }
def FnExactLongerCellsWrongFalsely : Prop := fnExactLongerCellsRow.holds Try.pinned (OpenSpec.ofChange fnExactLongerCellsWrong)

/- THE SECOND FORM. 'bulk': how many values and letters a reading holds, each counted each time it is reached (what is shared counts as often as it is met; a slice's spare places count too). A statement '..UptoSaid' is the law's where the arguments, and the package variables that the reading takes, are together of bulk at most 1048576: NARROWER than '..Said'. Prove '..Said' where nothing that the law and all that it calls make is longer than what came in: it says more and counts as full. Else prove '..UptoSaid'. A law counts once. -/
mutual
def uptoBulk {H : Type} : DataW H → Nat
  | .lit (.string bytes) => bytes.length + 1
  | .lit _ => 1
  | .nil => 1
  | .ptr d => uptoBulk d + 1
  | .slice elems spare => uptoBulkAll elems + uptoBulkAll spare + 1
  | .agg parts => uptoBulkAll parts + 1
  | .iface _ d => uptoBulk d + 1
  | .map entries => uptoBulkEntries entries + 1
  | .held _ => 1
def uptoBulkAll {H : Type} : List (DataW H) → Nat
  | [] => 0
  | d :: r => uptoBulk d + uptoBulkAll r
def uptoBulkEntries {H : Type} : List (Lit × DataW H) → Nat
  | [] => 0
  | x :: r => uptoBulkEntry x + uptoBulkEntries r
def uptoBulkEntry {H : Type} : Lit × DataW H → Nat
  | (.string bytes, d) => bytes.length + uptoBulk d + 1
  | (_, d) => uptoBulk d + 1
 end
def uptoSmall : (H : Type) → List (DataW H) → Bool := fun _ ds => decide (uptoBulkAll ds ≤ 1048576)
def OpenSpec.upto (s : _root_.Go.ChangeSpec) : _root_.Go.OpenSpec := { _root_.Go.OpenSpec.ofChange s with cond := some uptoSmall }

/-- 'laws.FnExactFitsWindow', WHERE WHAT IT READS IS OF BULK AT MOST 1048576: true; the input reads as it did. -/
def fnExactFitsWindowUptoRow : OpenClaim := { program := "ytnoiendelcidbaa", sum := "e5ed29eb47ab6b1b248cedee4651b1a0a355882d9c8cb346e61767ac74c75e7d", func := "loop.example/g01274/laws.FnExactFitsWindow", spec := "fnExactFitsWindow", plainKeys := false, apart := false, narrowed := true }
def FnExactFitsWindowUptoSaid : Prop := fnExactFitsWindowUptoRow.holds Try.pinned (OpenSpec.upto fnExactFitsWindowSpec)

/-- 'laws.FnExactSameWindows', WHERE WHAT IT READS IS OF BULK AT MOST 1048576: true; the input reads as it did. -/
def fnExactSameWindowsUptoRow : OpenClaim := { program := "ytnoiendelcidbaa", sum := "e5ed29eb47ab6b1b248cedee4651b1a0a355882d9c8cb346e61767ac74c75e7d", func := "loop.example/g01274/laws.FnExactSameWindows", spec := "fnExactSameWindows", plainKeys := false, apart := false, narrowed := true }
def FnExactSameWindowsUptoSaid : Prop := fnExactSameWindowsUptoRow.holds Try.pinned (OpenSpec.upto fnExactSameWindowsSpec)

/-- 'laws.FnExactNarrowSpan', WHERE WHAT IT READS IS OF BULK AT MOST 1048576: true; the input reads as it did. -/
def fnExactNarrowSpanUptoRow : OpenClaim := { program := "ytnoiendelcidbaa", sum := "e5ed29eb47ab6b1b248cedee4651b1a0a355882d9c8cb346e61767ac74c75e7d", func := "loop.example/g01274/laws.FnExactNarrowSpan", spec := "fnExactNarrowSpan", unfollowed := true, recurses := true, plainKeys := false, apart := false, narrowed := true }
def FnExactNarrowSpanUptoSaid : Prop := fnExactNarrowSpanUptoRow.holds Try.pinned (OpenSpec.upto fnExactNarrowSpanSpec)

/-- 'laws.FnExactFitsWindows', WHERE WHAT IT READS IS OF BULK AT MOST 1048576: true; the input reads as it did. -/
def fnExactFitsWindowsUptoRow : OpenClaim := { program := "ytnoiendelcidbaa", sum := "e5ed29eb47ab6b1b248cedee4651b1a0a355882d9c8cb346e61767ac74c75e7d", func := "loop.example/g01274/laws.FnExactFitsWindows", spec := "fnExactFitsWindows", plainKeys := false, apart := false, narrowed := true }
def FnExactFitsWindowsUptoSaid : Prop := fnExactFitsWindowsUptoRow.holds Try.pinned (OpenSpec.upto fnExactFitsWindowsSpec)

/-- 'laws.FnExactValidSpans', WHERE WHAT IT READS IS OF BULK AT MOST 1048576: true; the input reads as it did. -/
def fnExactValidSpansUptoRow : OpenClaim := { program := "ytnoiendelcidbaa", sum := "e5ed29eb47ab6b1b248cedee4651b1a0a355882d9c8cb346e61767ac74c75e7d", func := "loop.example/g01274/laws.FnExactValidSpans", spec := "fnExactValidSpans", unfollowed := true, recurses := true, plainKeys := false, apart := false, narrowed := true }
def FnExactValidSpansUptoSaid : Prop := fnExactValidSpansUptoRow.holds Try.pinned (OpenSpec.upto fnExactValidSpansSpec)

/-- 'laws.FnExactSpansAround', WHERE WHAT IT READS IS OF BULK AT MOST 1048576: true; the input reads as it did. -/
def fnExactSpansAroundUptoRow : OpenClaim := { program := "ytnoiendelcidbaa", sum := "e5ed29eb47ab6b1b248cedee4651b1a0a355882d9c8cb346e61767ac74c75e7d", func := "loop.example/g01274/laws.FnExactSpansAround", spec := "fnExactSpansAround", plainKeys := false, apart := false, narrowed := true }
def FnExactSpansAroundUptoSaid : Prop := fnExactSpansAroundUptoRow.holds Try.pinned (OpenSpec.upto fnExactSpansAroundSpec)

/-- 'laws.FnExactWithoutPieces', WHERE WHAT IT READS IS OF BULK AT MOST 1048576: true; the input reads as it did. -/
def fnExactWithoutPiecesUptoRow : OpenClaim := { program := "ytnoiendelcidbaa", sum := "e5ed29eb47ab6b1b248cedee4651b1a0a355882d9c8cb346e61767ac74c75e7d", func := "loop.example/g01274/laws.FnExactWithoutPieces", spec := "fnExactWithoutPieces", plainKeys := false, apart := false, narrowed := true }
def FnExactWithoutPiecesUptoSaid : Prop := fnExactWithoutPiecesUptoRow.holds Try.pinned (OpenSpec.upto fnExactWithoutPiecesSpec)

/-- 'laws.FnExactChanceDelays', WHERE WHAT IT READS IS OF BULK AT MOST 1048576: true; the input reads as it did. -/
def fnExactChanceDelaysUptoRow : OpenClaim := { program := "ytnoiendelcidbaa", sum := "e5ed29eb47ab6b1b248cedee4651b1a0a355882d9c8cb346e61767ac74c75e7d", func := "loop.example/g01274/laws.FnExactChanceDelays", spec := "fnExactChanceDelays", unfollowed := true, recurses := true, plainKeys := false, apart := false, narrowed := true }
def FnExactChanceDelaysUptoSaid : Prop := fnExactChanceDelaysUptoRow.holds Try.pinned (OpenSpec.upto fnExactChanceDelaysSpec)

/-- 'laws.FnExactLongerCells', WHERE WHAT IT READS IS OF BULK AT MOST 1048576: true; the input reads as it did. -/
def fnExactLongerCellsUptoRow : OpenClaim := { program := "ytnoiendelcidbaa", sum := "e5ed29eb47ab6b1b248cedee4651b1a0a355882d9c8cb346e61767ac74c75e7d", func := "loop.example/g01274/laws.FnExactLongerCells", spec := "fnExactLongerCells", inPlace := ["slices.overlaps[loop.example/g01274/impl.Cell]"], unfollowed := true, recurses := true, plainKeys := false, apart := false, narrowed := true }
def FnExactLongerCellsUptoSaid : Prop := fnExactLongerCellsUptoRow.holds Try.pinned (OpenSpec.upto fnExactLongerCellsSpec)

end Rows
end Go.Proofs.Ytnoiendelcidbaa
