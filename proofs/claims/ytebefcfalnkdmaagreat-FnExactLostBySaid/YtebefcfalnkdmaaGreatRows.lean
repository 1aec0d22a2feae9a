/-
  No cell of these rows narrows 'for every input' (looked for: loops, veiled, ifaces, maps, wideKeys, modest, calm, conditions, laid).
  DERIVED. THE GIVEN ROWS OF THIS SEAT. 5 by the template 'for every input the law returns true; each argument reads behind the call as it read before'; 0 by the template 'total and deterministic' (their statements: YtebefcfalnkdmaaGreatTotals.lean).
  GIVEN WITH THE SEED: the statements are not yours to turn. If you find one false, say at which input.
  Laid BY PROGRAM, IN A SANDBOX (cutbox-rows.mjs): the forced cells as the released guide's own fill.sh prints them over the translation bac31c276920cb1a… (all of the seat's roots in one cut). By AI agents, Wed Nov 11 2026. No macro, syntax, notation, axiom, sorry.
-/
import Derived.Test.YtebefcfalnkdmaaGreatChecked
import GoSem.Claim
import GoSem.ClaimJoined
import GoSem.ClaimMapViews
import Derived.JoinedTies
import Derived.KernelRfl
namespace Go.Proofs.YtebefcfalnkdmaaGreat
/- THE CELL 'sum', in the pinned program and in every row, IS THE sha256 OF THE DUMP (.gsa) THAT YtebefcfalnkdmaaGreatProg.lean LOADS. Nothing in Lean hashes anything: it is a label: what it is worth is what the hold of that sum in a sandbox is worth. -/
noncomputable def Tryz.pinned : Pinned := { name := "ytebefcfalnkdmaagreat", sum := "bac31c276920cb1accb331b2befd0d73fd8dc13d42a0ac6d849ebdfda996591b", checked := Tryz.checked }
namespace Rows
def none {H : Type} : Left H := { results := [], args := [] }

/-- 'laws.FnExactPeakOf': WHATEVER THE INPUT: true; the input reads as it did. -/
def fnExactPeakOfSpec : ChangeSpec := { name := "fnExactPeakOf", fn := fun _ => fun
  | [d1, d2] => { results := [.lit (.bool true)], args := [d1, d2] }
  | _ => none }
def fnExactPeakOfRow : OpenClaim := { program := "ytebefcfalnkdmaagreat", sum := "bac31c276920cb1accb331b2befd0d73fd8dc13d42a0ac6d849ebdfda996591b", func := "loop.example/g01274/laws.FnExactPeakOf", spec := "fnExactPeakOf", inPlace := ["slices.overlaps[int]"], unfollowed := true, recurses := true, plainKeys := false, apart := false }
def FnExactPeakOfSaid : Prop := fnExactPeakOfRow.holds Tryz.pinned (OpenSpec.ofChange fnExactPeakOfSpec)

/-- ITS FALSE NEIGHBOUR: 'it returns false'. Refute it at one input. -/
def fnExactPeakOfWrong : ChangeSpec := { name := "fnExactPeakOf", fn := fun _ => fun
  | [d1, d2] => { results := [.lit (.bool false)], args := [d1, d2] }
  | _ => none }
def FnExactPeakOfWrongFalsely : Prop := fnExactPeakOfRow.holds Tryz.pinned (OpenSpec.ofChange fnExactPeakOfWrong)

/-- 'laws.FnExactWorstsOf': WHATEVER THE INPUT: true; the input reads as it did. -/
def fnExactWorstsOfSpec : ChangeSpec := { name := "fnExactWorstsOf", fn := fun _ => fun
  | [d1, d2] => { results := [.lit (.bool true)], args := [d1, d2] }
  | _ => none }
def fnExactWorstsOfRow : OpenClaim := { program := "ytebefcfalnkdmaagreat", sum := "bac31c276920cb1accb331b2befd0d73fd8dc13d42a0ac6d849ebdfda996591b", func := "loop.example/g01274/laws.FnExactWorstsOf", spec := "fnExactWorstsOf", inPlace := ["slices.overlaps[int]"], unfollowed := true, recurses := true, plainKeys := false, apart := false }
def FnExactWorstsOfSaid : Prop := fnExactWorstsOfRow.holds Tryz.pinned (OpenSpec.ofChange fnExactWorstsOfSpec)

/-- ITS FALSE NEIGHBOUR: 'it returns false'. Refute it at one input. -/
def fnExactWorstsOfWrong : ChangeSpec := { name := "fnExactWorstsOf", fn := fun _ => fun
  | [d1, d2] => { results := [.lit (.bool false)], args := [d1, d2] }
  | _ => none }
def FnExactWorstsOfWrongFalsely : Prop := fnExactWorstsOfRow.holds Tryz.pinned (OpenSpec.ofChange fnExactWorstsOfWrong)

/-- 'laws.FnExactFewestGaps': WHATEVER THE INPUT: true; the input reads as it did. -/
def fnExactFewestGapsSpec : ChangeSpec := { name := "fnExactFewestGaps", fn := fun _ => fun
  | [d1, d2, d3, d4] => { results := [.lit (.bool true)], args := [d1, d2, d3, d4] }
  | _ => none }
def fnExactFewestGapsRow : OpenClaim := { program := "ytebefcfalnkdmaagreat", sum := "bac31c276920cb1accb331b2befd0d73fd8dc13d42a0ac6d849ebdfda996591b", func := "loop.example/g01274/laws.FnExactFewestGaps", spec := "fnExactFewestGaps", inPlace := ["slices.overlaps[int]"], unfollowed := true, recurses := true, plainKeys := false, apart := false }
def FnExactFewestGapsSaid : Prop := fnExactFewestGapsRow.holds Tryz.pinned (OpenSpec.ofChange fnExactFewestGapsSpec)

/-- ITS FALSE NEIGHBOUR: 'it returns false'. Refute it at one input. -/
def fnExactFewestGapsWrong : ChangeSpec := { name := "fnExactFewestGaps", fn := fun _ => fun
  | [d1, d2, d3, d4] => { results := [.lit (.bool false)], args := [d1, d2, d3, d4] }
  | _ => none }
def FnExactFewestGapsWrongFalsely : Prop := fnExactFewestGapsRow.holds Tryz.pinned (OpenSpec.ofChange fnExactFewestGapsWrong)

/-- 'laws.FnExactSetUp': WHATEVER THE INPUT: true; the input reads as it did. -/
def fnExactSetUpSpec : ChangeSpec := { name := "fnExactSetUp", fn := fun _ => fun
  | [d1, d2, d3] => { results := [.lit (.bool true)], args := [d1, d2, d3] }
  | _ => none }
def fnExactSetUpRow : OpenClaim := { program := "ytebefcfalnkdmaagreat", sum := "bac31c276920cb1accb331b2befd0d73fd8dc13d42a0ac6d849ebdfda996591b", func := "loop.example/g01274/laws.FnExactSetUp", spec := "fnExactSetUp", inPlace := ["slices.overlaps[int]"], unfollowed := true, recurses := true, plainKeys := false, apart := false }
def FnExactSetUpSaid : Prop := fnExactSetUpRow.holds Tryz.pinned (OpenSpec.ofChange fnExactSetUpSpec)

/-- ITS FALSE NEIGHBOUR: 'it returns false'. Refute it at one input. -/
def fnExactSetUpWrong : ChangeSpec := { name := "fnExactSetUp", fn := fun _ => fun
  | [d1, d2, d3] => { results := [.lit (.bool false)], args := [d1, d2, d3] }
  | _ => none }
def FnExactSetUpWrongFalsely : Prop := fnExactSetUpRow.holds Tryz.pinned (OpenSpec.ofChange fnExactSetUpWrong)

/-- 'laws.FnExactLostBy': WHATEVER THE INPUT: true; the input reads as it did. -/
def fnExactLostBySpec : ChangeSpec := { name := "fnExactLostBy", fn := fun _ => fun
  | [d1, d2, d3] => { results := [.lit (.bool true)], args := [d1, d2, d3] }
  | _ => none }
def fnExactLostByRow : OpenClaim := { program := "ytebefcfalnkdmaagreat", sum := "bac31c276920cb1accb331b2befd0d73fd8dc13d42a0ac6d849ebdfda996591b", func := "loop.example/g01274/laws.FnExactLostBy", spec := "fnExactLostBy", inPlace := ["slices.overlaps[int]"], unfollowed := true, recurses := true, plainKeys := false, apart := false }
def FnExactLostBySaid : Prop := fnExactLostByRow.holds Tryz.pinned (OpenSpec.ofChange fnExactLostBySpec)

/-- ITS FALSE NEIGHBOUR: 'it returns false'. Refute it at one input. -/
def fnExactLostByWrong : ChangeSpec := { name := "fnExactLostBy", fn := fun _ => fun
  | [d1, d2, d3] => { results := [.lit (.bool false)], args := [d1, d2, d3] }
  | _ => none }
def FnExactLostByWrongFalsely : Prop := fnExactLostByRow.holds Tryz.pinned (OpenSpec.ofChange fnExactLostByWrong)

/- THE SECOND FORM. 'bulk': how many values and letters a reading holds, each counted each time it is reached (what is shared counts as often as it is met; a slice's spare places count too). A statement '..UptoSaid' is the law's where the arguments, and the package variables that the reading takes, are together of bulk at most 1048576: NARROWER than '..Said'. Prove '..Said' where nothing that the law and all that it calls make is longer than what came in: it says more and counts as full. Else prove '..UptoSaid'. A law counts once. -/
mutual
def uptoBulk {H : Type} : DataW H → Nat
  | .lit (.string bytes) => bytes.length + 1
  | .lit _ => 1
  | .nil => 1
  | .ptr d => uptoBulk d + 1
  | .slice elems spare => uptoBulkAll elems + uptoBulkAll spare + 1
  | .agg parts => uptoBulkAll parts + 1
  | .iface _ d => uptoBulk d + 1
  | .map entries => uptoBulkEntries entries + 1
  | .held _ => 1
def uptoBulkAll {H : Type} : List (DataW H) → Nat
  | [] => 0
  | d :: r => uptoBulk d + uptoBulkAll r
def uptoBulkEntries {H : Type} : List (Lit × DataW H) → Nat
  | [] => 0
  | x :: r => uptoBulkEntry x + uptoBulkEntries r
def uptoBulkEntry {H : Type} : Lit × DataW H → Nat
  | (.string bytes, d) => bytes.length + uptoBulk d + 1
  | (_, d) => uptoBulk d + 1
 end
def uptoSmall : (H : Type) → List (DataW H) → Bool := fun _ ds => decide (uptoBulkAll ds ≤ 1048576)
def OpenSpec.upto (s : _root_.Go.ChangeSpec) : _root_.Go.OpenSpec := { _root_.Go.OpenSpec.ofChange s with cond := some uptoSmall }

/-- 'laws.FnExactPeakOf', WHERE WHAT IT READS IS OF BULK AT MOST 1048576: true; the input reads as it did. -/
def fnExactPeakOfUptoRow : OpenClaim := { program := "ytebefcfalnkdmaagreat", sum := "bac31c276920cb1accb331b2befd0d73fd8dc13d42a0ac6d849ebdfda996591b", func := "loop.example/g01274/laws.FnExactPeakOf", spec := "fnExactPeakOf", inPlace := ["slices.overlaps[int]"], unfollowed := true, recurses := true, plainKeys := false, apart := false, narrowed := true }
def FnExactPeakOfUptoSaid : Prop := fnExactPeakOfUptoRow.holds Tryz.pinned (OpenSpec.upto fnExactPeakOfSpec)

/-- 'laws.FnExactWorstsOf', WHERE WHAT IT READS IS OF BULK AT MOST 1048576: true; the input reads as it did. -/
def fnExactWorstsOfUptoRow : OpenClaim := { program := "ytebefcfalnkdmaagreat", sum := "bac31c276920cb1accb331b2befd0d73fd8dc13d42a0ac6d849ebdfda996591b", func := "loop.example/g01274/laws.FnExactWorstsOf", spec := "fnExactWorstsOf", inPlace := ["slices.overlaps[int]"], unfollowed := true, recurses := true, plainKeys := false, apart := false, narrowed := true }
def FnExactWorstsOfUptoSaid : Prop := fnExactWorstsOfUptoRow.holds Tryz.pinned (OpenSpec.upto fnExactWorstsOfSpec)

/-- 'laws.FnExactFewestGaps', WHERE WHAT IT READS IS OF BULK AT MOST 1048576: true; the input reads as it did. -/
def fnExactFewestGapsUptoRow : OpenClaim := { program := "ytebefcfalnkdmaagreat", sum := "bac31c276920cb1accb331b2befd0d73fd8dc13d42a0ac6d849ebdfda996591b", func := "loop.example/g01274/laws.FnExactFewestGaps", spec := "fnExactFewestGaps", inPlace := ["slices.overlaps[int]"], unfollowed := true, recurses := true, plainKeys := false, apart := false, narrowed := true }
def FnExactFewestGapsUptoSaid : Prop := fnExactFewestGapsUptoRow.holds Tryz.pinned (OpenSpec.upto fnExactFewestGapsSpec)

/-- 'laws.FnExactSetUp', WHERE WHAT IT READS IS OF BULK AT MOST 1048576: true; the input reads as it did. -/
def fnExactSetUpUptoRow : OpenClaim := { program := "ytebefcfalnkdmaagreat", sum := "bac31c276920cb1accb331b2befd0d73fd8dc13d42a0ac6d849ebdfda996591b", func := "loop.example/g01274/laws.FnExactSetUp", spec := "fnExactSetUp", inPlace := ["slices.overlaps[int]"], unfollowed := true, recurses := true, plainKeys := false, apart := false, narrowed := true }
def FnExactSetUpUptoSaid : Prop := fnExactSetUpUptoRow.holds Tryz.pinned (OpenSpec.upto fnExactSetUpSpec)

/-- 'laws.FnExactLostBy', WHERE WHAT IT READS IS OF BULK AT MOST 1048576: true; the input reads as it did. -/
def fnExactLostByUptoRow : OpenClaim := { program := "ytebefcfalnkdmaagreat", sum := "bac31c276920cb1accb331b2befd0d73fd8dc13d42a0ac6d849ebdfda996591b", func := "loop.example/g01274/laws.FnExactLostBy", spec := "fnExactLostBy", inPlace := ["slices.overlaps[int]"], unfollowed := true, recurses := true, plainKeys := false, apart := false, narrowed := true }
def FnExactLostByUptoSaid : Prop := fnExactLostByUptoRow.holds Tryz.pinned (OpenSpec.upto fnExactLostBySpec)

end Rows
end Go.Proofs.YtebefcfalnkdmaaGreat
