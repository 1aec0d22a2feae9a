/-
  No cell of these rows narrows 'for every input' (looked for: loops, veiled, ifaces, maps, wideKeys, modest, calm, conditions, laid).
  DERIVED. THE GIVEN ROWS OF THIS SEAT. 4 by the template 'for every input the law returns true; each argument reads behind the call as it read before'; 0 by the template 'total and deterministic' (their statements: YtemnglkenaklnaaTotals.lean).
  GIVEN WITH THE SEED: the statements are not yours to turn. If you find one false, say at which input.
  Laid BY PROGRAM, IN A SANDBOX (cutbox-rows.mjs): the forced cells as the released guide's own fill.sh prints them over the translation f6a50d075da7b823… (all of the seat's roots in one cut). By AI agents, Wed Nov 11 2026. No macro, syntax, notation, axiom, sorry.
-/
import Derived.Test.YtemnglkenaklnaaChecked
import GoSem.Claim
import GoSem.ClaimJoined
import GoSem.ClaimMapViews
import Derived.JoinedTies
import Derived.KernelRfl
namespace Go.Proofs.Ytemnglkenaklnaa
/- THE CELL 'sum', in the pinned program and in every row, IS THE sha256 OF THE DUMP (.gsa) THAT YtemnglkenaklnaaProg.lean LOADS. Nothing in Lean hashes anything: it is a label: what it is worth is what the hold of that sum in a sandbox is worth. -/
noncomputable def Try.pinned : Pinned := { name := "ytemnglkenaklnaa", sum := "f6a50d075da7b823411d6f0f94adeed7c8f51ab7db1e866bce15180a8c04138b", checked := Try.checked }
namespace Rows
def none {H : Type} : Left H := { results := [], args := [] }

/-- 'laws.FnExactLongerCells': WHATEVER THE INPUT: true; the input reads as it did. -/
def fnExactLongerCellsSpec : ChangeSpec := { name := "fnExactLongerCells", fn := fun _ => fun
  | [d1, d2] => { results := [.lit (.bool true)], args := [d1, d2] }
  | _ => none }
def fnExactLongerCellsRow : OpenClaim := { program := "ytemnglkenaklnaa", sum := "f6a50d075da7b823411d6f0f94adeed7c8f51ab7db1e866bce15180a8c04138b", func := "loop.example/g01274/laws.FnExactLongerCells", spec := "fnExactLongerCells", inPlace := ["slices.overlaps[loop.example/g01274/impl.Cell]"], unfollowed := true, recurses := true, plainKeys := false, apart := false }
def FnExactLongerCellsSaid : Prop := fnExactLongerCellsRow.holds Try.pinned (OpenSpec.ofChange fnExactLongerCellsSpec)

/-- ITS FALSE NEIGHBOUR: 'it returns false'. Refute it at one input. -/
def fnExactLongerCellsWrong : ChangeSpec := { name := "fnExactLongerCells", fn := fun _ => fun
  | [d1, d2] => { results := [.lit (.bool false)], args := [d1, d2] }
  | _ => none }
def FnExactLongerCellsWrongFalsely : Prop := fnExactLongerCellsRow.holds Try.pinned (OpenSpec.ofChange fnExactLongerCellsWrong)

/-- 'laws.FnExactLayLine': WHATEVER THE INPUT: true; the input reads as it did. -/
def fnExactLayLineSpec : ChangeSpec := { name := "fnExactLayLine", fn := fun _ => fun
  | [d1, d2] => { results := [.lit (.bool true)], args := [d1, d2] }
  | _ => none }
def fnExactLayLineRow : OpenClaim := { program := "ytemnglkenaklnaa", sum := "f6a50d075da7b823411d6f0f94adeed7c8f51ab7db1e866bce15180a8c04138b", func := "loop.example/g01274/laws.FnExactLayLine", spec := "fnExactLayLine", unfollowed := true, recurses := true, plainKeys := false, apart := false }
def FnExactLayLineSaid : Prop := fnExactLayLineRow.holds Try.pinned (OpenSpec.ofChange fnExactLayLineSpec)

/-- ITS FALSE NEIGHBOUR: 'it returns false'. Refute it at one input. -/
def fnExactLayLineWrong : ChangeSpec := { name := "fnExactLayLine", fn := fun _ => fun
  | [d1, d2] => { results := [.lit (.bool false)], args := [d1, d2] }
  | _ => none }
def FnExactLayLineWrongFalsely : Prop := fnExactLayLineRow.holds Try.pinned (OpenSpec.ofChange fnExactLayLineWrong)

/-- 'laws.FnExactSureWidth': WHATEVER THE INPUT: true; the input reads as it did. -/
def fnExactSureWidthSpec : ChangeSpec := { name := "fnExactSureWidth", fn := fun _ => fun
  | [d1, d2, d3] => { results := [.lit (.bool true)], args := [d1, d2, d3] }
  | _ => none }
def fnExactSureWidthRow : OpenClaim := { program := "ytemnglkenaklnaa", sum := "f6a50d075da7b823411d6f0f94adeed7c8f51ab7db1e866bce15180a8c04138b", func := "loop.example/g01274/laws.FnExactSureWidth", spec := "fnExactSureWidth", unfollowed := true, recurses := true, plainKeys := false, apart := false }
def FnExactSureWidthSaid : Prop := fnExactSureWidthRow.holds Try.pinned (OpenSpec.ofChange fnExactSureWidthSpec)

/-- ITS FALSE NEIGHBOUR: 'it returns false'. Refute it at one input. -/
def fnExactSureWidthWrong : ChangeSpec := { name := "fnExactSureWidth", fn := fun _ => fun
  | [d1, d2, d3] => { results := [.lit (.bool false)], args := [d1, d2, d3] }
  | _ => none }
def FnExactSureWidthWrongFalsely : Prop := fnExactSureWidthRow.holds Try.pinned (OpenSpec.ofChange fnExactSureWidthWrong)

/-- 'laws.FnExactIslandsOf': WHATEVER THE INPUT: true; the input reads as it did. -/
def fnExactIslandsOfSpec : ChangeSpec := { name := "fnExactIslandsOf", fn := fun _ => fun
  | [d] => { results := [.lit (.bool true)], args := [d] }
  | _ => none }
def fnExactIslandsOfRow : OpenClaim := { program := "ytemnglkenaklnaa", sum := "f6a50d075da7b823411d6f0f94adeed7c8f51ab7db1e866bce15180a8c04138b", func := "loop.example/g01274/laws.FnExactIslandsOf", spec := "fnExactIslandsOf", unfollowed := true, recurses := true, plainKeys := false, apart := false }
def FnExactIslandsOfSaid : Prop := fnExactIslandsOfRow.holds Try.pinned (OpenSpec.ofChange fnExactIslandsOfSpec)

/-- ITS FALSE NEIGHBOUR: 'it returns false'. Refute it at one input. -/
def fnExactIslandsOfWrong : ChangeSpec := { name := "fnExactIslandsOf", fn := fun _ => fun
  | [d] => { results := [.lit (.bool false)], args := [d] }
  | _ => none }
def FnExactIslandsOfWrongFalsely : Prop := fnExactIslandsOfRow.holds Try.pinned (OpenSpec.ofChange fnExactIslandsOfWrong)

/- THE SECOND FORM. 'bulk': how many values and letters a reading holds, each counted each time it is reached (what is shared counts as often as it is met; a slice's spare places count too). A statement '..UptoSaid' is the law's where the arguments, and the package variables that the reading takes, are together of bulk at most 1048576: NARROWER than '..Said'. Prove '..Said' where nothing that the law and all that it calls make is longer than what came in: it says more and counts as full. Else prove '..UptoSaid'. A law counts once. -/
mutual
def uptoBulk {H : Type} : DataW H → Nat
  | .lit (.string bytes) => bytes.length + 1
  | .lit _ => 1
  | .nil => 1
  | .ptr d => uptoBulk d + 1
  | .slice elems spare => uptoBulkAll elems + uptoBulkAll spare + 1
  | .agg parts => uptoBulkAll parts + 1
  | .iface _ d => uptoBulk d + 1
  | .map entries => uptoBulkEntries entries + 1
  | .held _ => 1
def uptoBulkAll {H : Type} : List (DataW H) → Nat
  | [] => 0
  | d :: r => uptoBulk d + uptoBulkAll r
def uptoBulkEntries {H : Type} : List (Lit × DataW H) → Nat
  | [] => 0
  | x :: r => uptoBulkEntry x + uptoBulkEntries r
def uptoBulkEntry {H : Type} : Lit × DataW H → Nat
  | (.string bytes, d) => bytes.length + uptoBulk d + 1
  | (_, d) => uptoBulk d + 1
 end
def uptoSmall : (H : Type) → List (DataW H) → Bool := fun _ ds => decide (uptoBulkAll ds ≤ 1048576)
def OpenSpec.upto (s : _root_.Go.ChangeSpec) : _root_.Go.OpenSpec := { _root_.Go.OpenSpec.ofChange s with cond := some uptoSmall }

/-- 'laws.FnExactLongerCells', WHERE WHAT IT READS IS OF BULK AT MOST 1048576: true; the input reads as it did. -/
def fnExactLongerCellsUptoRow : OpenClaim := { program := "ytemnglkenaklnaa", sum := "f6a50d075da7b823411d6f0f94adeed7c8f51ab7db1e866bce15180a8c04138b", func := "loop.example/g01274/laws.FnExactLongerCells", spec := "fnExactLongerCells", inPlace := ["slices.overlaps[loop.example/g01274/impl.Cell]"], unfollowed := true, recurses := true, plainKeys := false, apart := false, narrowed := true }
def FnExactLongerCellsUptoSaid : Prop := fnExactLongerCellsUptoRow.holds Try.pinned (OpenSpec.upto fnExactLongerCellsSpec)

/-- 'laws.FnExactLayLine', WHERE WHAT IT READS IS OF BULK AT MOST 1048576: true; the input reads as it did. -/
def fnExactLayLineUptoRow : OpenClaim := { program := "ytemnglkenaklnaa", sum := "f6a50d075da7b823411d6f0f94adeed7c8f51ab7db1e866bce15180a8c04138b", func := "loop.example/g01274/laws.FnExactLayLine", spec := "fnExactLayLine", unfollowed := true, recurses := true, plainKeys := false, apart := false, narrowed := true }
def FnExactLayLineUptoSaid : Prop := fnExactLayLineUptoRow.holds Try.pinned (OpenSpec.upto fnExactLayLineSpec)

/-- 'laws.FnExactSureWidth', WHERE WHAT IT READS IS OF BULK AT MOST 1048576: true; the input reads as it did. -/
def fnExactSureWidthUptoRow : OpenClaim := { program := "ytemnglkenaklnaa", sum := "f6a50d075da7b823411d6f0f94adeed7c8f51ab7db1e866bce15180a8c04138b", func := "loop.example/g01274/laws.FnExactSureWidth", spec := "fnExactSureWidth", unfollowed := true, recurses := true, plainKeys := false, apart := false, narrowed := true }
def FnExactSureWidthUptoSaid : Prop := fnExactSureWidthUptoRow.holds Try.pinned (OpenSpec.upto fnExactSureWidthSpec)

/-- 'laws.FnExactIslandsOf', WHERE WHAT IT READS IS OF BULK AT MOST 1048576: true; the input reads as it did. -/
def fnExactIslandsOfUptoRow : OpenClaim := { program := "ytemnglkenaklnaa", sum := "f6a50d075da7b823411d6f0f94adeed7c8f51ab7db1e866bce15180a8c04138b", func := "loop.example/g01274/laws.FnExactIslandsOf", spec := "fnExactIslandsOf", unfollowed := true, recurses := true, plainKeys := false, apart := false, narrowed := true }
def FnExactIslandsOfUptoSaid : Prop := fnExactIslandsOfUptoRow.holds Try.pinned (OpenSpec.upto fnExactIslandsOfSpec)

end Rows
end Go.Proofs.Ytemnglkenaklnaa
