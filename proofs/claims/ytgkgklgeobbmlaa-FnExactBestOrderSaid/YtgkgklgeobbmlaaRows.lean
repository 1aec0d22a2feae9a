/-
  No cell of these rows narrows 'for every input' (looked for: loops, veiled, ifaces, maps, wideKeys, modest, calm, conditions, laid).
  DERIVED. THE GIVEN ROWS OF THIS SEAT. 4 by the template 'for every input the law returns true; each argument reads behind the call as it read before'; 0 by the template 'total and deterministic' (their statements: YtgkgklgeobbmlaaTotals.lean).
  GIVEN WITH THE SEED: the statements are not yours to turn. If you find one false, say at which input.
  Laid BY PROGRAM, IN A SANDBOX (cutbox-rows.mjs): the forced cells as the released guide's own fill.sh prints them over the translation 26ea65fb848cab58… (all of the seat's roots in one cut). By AI agents, Wed Nov 11 2026. No macro, syntax, notation, axiom, sorry.
-/
import Derived.Test.YtgkgklgeobbmlaaChecked
import GoSem.Claim
import GoSem.ClaimJoined
import GoSem.ClaimMapViews
import Derived.JoinedTies
import Derived.KernelRfl
namespace Go.Proofs.Ytgkgklgeobbmlaa
/- THE CELL 'sum', in the pinned program and in every row, IS THE sha256 OF THE DUMP (.gsa) THAT YtgkgklgeobbmlaaProg.lean LOADS. Nothing in Lean hashes anything: it is a label: what it is worth is what the hold of that sum in a sandbox is worth. -/
noncomputable def Try.pinned : Pinned := { name := "ytgkgklgeobbmlaa", sum := "26ea65fb848cab582dedcb45bb5c3400f7948be69d0b3f9c832104abba5a0af7", checked := Try.checked }
namespace Rows
def none {H : Type} : Left H := { results := [], args := [] }

/-- 'laws.FnExactLayLine': WHATEVER THE INPUT: true; the input reads as it did. -/
def fnExactLayLineSpec : ChangeSpec := { name := "fnExactLayLine", fn := fun _ => fun
  | [d1, d2] => { results := [.lit (.bool true)], args := [d1, d2] }
  | _ => none }
def fnExactLayLineRow : OpenClaim := { program := "ytgkgklgeobbmlaa", sum := "26ea65fb848cab582dedcb45bb5c3400f7948be69d0b3f9c832104abba5a0af7", func := "loop.example/g01274/laws.FnExactLayLine", spec := "fnExactLayLine", unfollowed := true, recurses := true, plainKeys := false, apart := false }
def FnExactLayLineSaid : Prop := fnExactLayLineRow.holds Try.pinned (OpenSpec.ofChange fnExactLayLineSpec)

/-- ITS FALSE NEIGHBOUR: 'it returns false'. Refute it at one input. -/
def fnExactLayLineWrong : ChangeSpec := { name := "fnExactLayLine", fn := fun _ => fun
  | [d1, d2] => { results := [.lit (.bool false)], args := [d1, d2] }
  | _ => none }
def FnExactLayLineWrongFalsely : Prop := fnExactLayLineRow.holds Try.pinned (OpenSpec.ofChange fnExactLayLineWrong)

/-- 'laws.FnExactLayAll': WHATEVER THE INPUT: true; the input reads as it did. -/
def fnExactLayAllSpec : ChangeSpec := { name := "fnExactLayAll", fn := fun _ => fun
  | [d1, d2] => { results := [.lit (.bool true)], args := [d1, d2] }
  | _ => none }
def fnExactLayAllRow : OpenClaim := { program := "ytgkgklgeobbmlaa", sum := "26ea65fb848cab582dedcb45bb5c3400f7948be69d0b3f9c832104abba5a0af7", func := "loop.example/g01274/laws.FnExactLayAll", spec := "fnExactLayAll", unfollowed := true, recurses := true, plainKeys := false, apart := false }
def FnExactLayAllSaid : Prop := fnExactLayAllRow.holds Try.pinned (OpenSpec.ofChange fnExactLayAllSpec)

/-- ITS FALSE NEIGHBOUR: 'it returns false'. Refute it at one input. -/
def fnExactLayAllWrong : ChangeSpec := { name := "fnExactLayAll", fn := fun _ => fun
  | [d1, d2] => { results := [.lit (.bool false)], args := [d1, d2] }
  | _ => none }
def FnExactLayAllWrongFalsely : Prop := fnExactLayAllRow.holds Try.pinned (OpenSpec.ofChange fnExactLayAllWrong)

/-- 'laws.FnExactBestOrder': WHATEVER THE INPUT: true; the input reads as it did. -/
def fnExactBestOrderSpec : ChangeSpec := { name := "fnExactBestOrder", fn := fun _ => fun
  | [d1, d2] => { results := [.lit (.bool true)], args := [d1, d2] }
  | _ => none }
def fnExactBestOrderRow : OpenClaim := { program := "ytgkgklgeobbmlaa", sum := "26ea65fb848cab582dedcb45bb5c3400f7948be69d0b3f9c832104abba5a0af7", func := "loop.example/g01274/laws.FnExactBestOrder", spec := "fnExactBestOrder", unfollowed := true, recurses := true, plainKeys := false, apart := false }
def FnExactBestOrderSaid : Prop := fnExactBestOrderRow.holds Try.pinned (OpenSpec.ofChange fnExactBestOrderSpec)

/-- ITS FALSE NEIGHBOUR: 'it returns false'. Refute it at one input. -/
def fnExactBestOrderWrong : ChangeSpec := { name := "fnExactBestOrder", fn := fun _ => fun
  | [d1, d2] => { results := [.lit (.bool false)], args := [d1, d2] }
  | _ => none }
def FnExactBestOrderWrongFalsely : Prop := fnExactBestOrderRow.holds Try.pinned (OpenSpec.ofChange fnExactBestOrderWrong)

/-- 'laws.FnExactLayWithDelay': WHATEVER THE INPUT: true; the input reads as it did. -/
def fnExactLayWithDelaySpec : ChangeSpec := { name := "fnExactLayWithDelay", fn := fun _ => fun
  | [d1, d2, d3] => { results := [.lit (.bool true)], args := [d1, d2, d3] }
  | _ => none }
def fnExactLayWithDelayRow : OpenClaim := { program := "ytgkgklgeobbmlaa", sum := "26ea65fb848cab582dedcb45bb5c3400f7948be69d0b3f9c832104abba5a0af7", func := "loop.example/g01274/laws.FnExactLayWithDelay", spec := "fnExactLayWithDelay", inPlace := ["slices.overlaps[loop.example/g01274/impl.Cell]"], unfollowed := true, recurses := true, plainKeys := false, apart := false }
def FnExactLayWithDelaySaid : Prop := fnExactLayWithDelayRow.holds Try.pinned (OpenSpec.ofChange fnExactLayWithDelaySpec)

/-- ITS FALSE NEIGHBOUR: 'it returns false'. Refute it at one input. -/
def fnExactLayWithDelayWrong : ChangeSpec := { name := "fnExactLayWithDelay", fn := fun _ => fun
  | [d1, d2, d3] => { results := [.lit (.bool false)], args := [d1, d2, d3] }
  | _ => none }
def FnExactLayWithDelayWrongFalsely : Prop := fnExactLayWithDelayRow.holds Try.pinned (OpenSpec.ofChange fnExactLayWithDelayWrong)

/- THE SECOND FORM. 'bulk': how many values and letters a reading holds, each counted each time it is reached (what is shared counts as often as it is met; a slice's spare places count too). A statement '..UptoSaid' is the law's where the arguments, and the package variables that the reading takes, are together of bulk at most 1048576: NARROWER than '..Said'. Prove '..Said' where nothing that the law and all that it calls make is longer than what came in: it says more and counts as full. Else prove '..UptoSaid'. A law counts once. -/
mutual
def uptoBulk {H : Type} : DataW H → Nat
  | .lit (.string bytes) => bytes.length + 1
  | .lit _ => 1
  | .nil => 1
  | .ptr d => uptoBulk d + 1
  | .slice elems spare => uptoBulkAll elems + uptoBulkAll spare + 1
  | .agg parts => uptoBulkAll parts + 1
  | .iface _ d => uptoBulk d + 1
  | .map entries => uptoBulkEntries entries + 1
  | .held _ => 1
def uptoBulkAll {H : Type} : List (DataW H) → Nat
  | [] => 0
  | d :: r => uptoBulk d + uptoBulkAll r
def uptoBulkEntries {H : Type} : List (Lit × DataW H) → Nat
  | [] => 0
  | x :: r => uptoBulkEntry x + uptoBulkEntries r
def uptoBulkEntry {H : Type} : Lit × DataW H → Nat
  | (.string bytes, d) => bytes.length + uptoBulk d + 1
  | (_, d) => uptoBulk d + 1
 end
def uptoSmall : (H : Type) → List (DataW H) → Bool := fun _ ds => decide (uptoBulkAll ds ≤ 1048576)
def OpenSpec.upto (s : _root_.Go.ChangeSpec) : _root_.Go.OpenSpec := { _root_.Go.OpenSpec.ofChange s with cond := some uptoSmall }

/-- 'laws.FnExactLayLine', WHERE WHAT IT READS IS OF BULK AT MOST 1048576: true; the input reads as it did. -/
def fnExactLayLineUptoRow : OpenClaim := { program := "ytgkgklgeobbmlaa", sum := "26ea65fb848cab582dedcb45bb5c3400f7948be69d0b3f9c832104abba5a0af7", func := "loop.example/g01274/laws.FnExactLayLine", spec := "fnExactLayLine", unfollowed := true, recurses := true, plainKeys := false, apart := false, narrowed := true }
def FnExactLayLineUptoSaid : Prop := fnExactLayLineUptoRow.holds Try.pinned (OpenSpec.upto fnExactLayLineSpec)

/-- 'laws.FnExactLayAll', WHERE WHAT IT READS IS OF BULK AT MOST 1048576: true; the input reads as it did. -/
def fnExactLayAllUptoRow : OpenClaim := { program := "ytgkgklgeobbmlaa", sum := "26ea65fb848cab582dedcb45bb5c3400f7948be69d0b3f9c832104abba5a0af7", func := "loop.example/g01274/laws.FnExactLayAll", spec := "fnExactLayAll", unfollowed := true, recurses := true, plainKeys := false, apart := false, narrowed := true }
def FnExactLayAllUptoSaid : Prop := fnExactLayAllUptoRow.holds Try.pinned (OpenSpec.upto fnExactLayAllSpec)

/-- 'laws.FnExactBestOrder', WHERE WHAT IT READS IS OF BULK AT MOST 1048576: true; the input reads as it did. -/
def fnExactBestOrderUptoRow : OpenClaim := { program := "ytgkgklgeobbmlaa", sum := "26ea65fb848cab582dedcb45bb5c3400f7948be69d0b3f9c832104abba5a0af7", func := "loop.example/g01274/laws.FnExactBestOrder", spec := "fnExactBestOrder", unfollowed := true, recurses := true, plainKeys := false, apart := false, narrowed := true }
def FnExactBestOrderUptoSaid : Prop := fnExactBestOrderUptoRow.holds Try.pinned (OpenSpec.upto fnExactBestOrderSpec)

/-- 'laws.FnExactLayWithDelay', WHERE WHAT IT READS IS OF BULK AT MOST 1048576: true; the input reads as it did. -/
def fnExactLayWithDelayUptoRow : OpenClaim := { program := "ytgkgklgeobbmlaa", sum := "26ea65fb848cab582dedcb45bb5c3400f7948be69d0b3f9c832104abba5a0af7", func := "loop.example/g01274/laws.FnExactLayWithDelay", spec := "fnExactLayWithDelay", inPlace := ["slices.overlaps[loop.example/g01274/impl.Cell]"], unfollowed := true, recurses := true, plainKeys := false, apart := false, narrowed := true }
def FnExactLayWithDelayUptoSaid : Prop := fnExactLayWithDelayUptoRow.holds Try.pinned (OpenSpec.upto fnExactLayWithDelaySpec)

end Rows
end Go.Proofs.Ytgkgklgeobbmlaa
