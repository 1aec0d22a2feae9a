/-
  No cell of these rows narrows 'for every input' (looked for: loops, veiled, ifaces, maps, wideKeys, modest, calm, conditions, laid).
  DERIVED. THE GIVEN ROWS OF THIS SEAT. 4 by the template 'for every input the law returns true; each argument reads behind the call as it read before'; 0 by the template 'total and deterministic' (their statements: YtnabedhhflfepaaGreatTotals.lean).
  GIVEN WITH THE SEED: the statements are not yours to turn. If you find one false, say at which input.
  Laid BY PROGRAM, IN A SANDBOX (cutbox-rows.mjs): the forced cells as the released guide's own fill.sh prints them over the translation d64a6ddd8f28bdfe… (all of the seat's roots in one cut). By AI agents, Wed Nov 11 2026. No macro, syntax, notation, axiom, sorry.
-/
import Derived.Test.YtnabedhhflfepaaGreatChecked
import GoSem.Claim
import GoSem.ClaimJoined
import GoSem.ClaimMapViews
import Derived.JoinedTies
import Derived.KernelRfl
namespace Go.Proofs.YtnabedhhflfepaaGreat
/- THE CELL 'sum', in the pinned program and in every row, IS THE sha256 OF THE DUMP (.gsa) THAT YtnabedhhflfepaaGreatProg.lean LOADS. Nothing in Lean hashes anything: it is a label: what it is worth is what the hold of that sum in a sandbox is worth. -/
noncomputable def Tryz.pinned : Pinned := { name := "ytnabedhhflfepaagreat", sum := "d64a6ddd8f28bdfe7d554135cd25c4a5c2164fab48bad41f31144ceb553a2a15", checked := Tryz.checked }
namespace Rows
def none {H : Type} : Left H := { results := [], args := [] }

/-- 'laws.FnExactWidestSpan': WHATEVER THE INPUT: true; the input reads as it did. -/
def fnExactWidestSpanSpec : ChangeSpec := { name := "fnExactWidestSpan", fn := fun _ => fun
  | [d1, d2, d3] => { results := [.lit (.bool true)], args := [d1, d2, d3] }
  | _ => none }
def fnExactWidestSpanRow : OpenClaim := { program := "ytnabedhhflfepaagreat", sum := "d64a6ddd8f28bdfe7d554135cd25c4a5c2164fab48bad41f31144ceb553a2a15", func := "loop.example/g01274/laws.FnExactWidestSpan", spec := "fnExactWidestSpan", unfollowed := true, recurses := true, plainKeys := false, apart := false }
def FnExactWidestSpanSaid : Prop := fnExactWidestSpanRow.holds Tryz.pinned (OpenSpec.ofChange fnExactWidestSpanSpec)

/-- ITS FALSE NEIGHBOUR: 'it returns false'. Refute it at one input. -/
def fnExactWidestSpanWrong : ChangeSpec := { name := "fnExactWidestSpan", fn := fun _ => fun
  | [d1, d2, d3] => { results := [.lit (.bool false)], args := [d1, d2, d3] }
  | _ => none }
def FnExactWidestSpanWrongFalsely : Prop := fnExactWidestSpanRow.holds Tryz.pinned (OpenSpec.ofChange fnExactWidestSpanWrong)

/-- 'laws.FnExactSlackFor': WHATEVER THE INPUT: true; the input reads as it did. -/
def fnExactSlackForSpec : ChangeSpec := { name := "fnExactSlackFor", fn := fun _ => fun
  | [d1, d2, d3, d4, d5] => { results := [.lit (.bool true)], args := [d1, d2, d3, d4, d5] }
  | _ => none }
def fnExactSlackForRow : OpenClaim := { program := "ytnabedhhflfepaagreat", sum := "d64a6ddd8f28bdfe7d554135cd25c4a5c2164fab48bad41f31144ceb553a2a15", func := "loop.example/g01274/laws.FnExactSlackFor", spec := "fnExactSlackFor", unfollowed := true, recurses := true, plainKeys := false, apart := false }
def FnExactSlackForSaid : Prop := fnExactSlackForRow.holds Tryz.pinned (OpenSpec.ofChange fnExactSlackForSpec)

/-- ITS FALSE NEIGHBOUR: 'it returns false'. Refute it at one input. -/
def fnExactSlackForWrong : ChangeSpec := { name := "fnExactSlackFor", fn := fun _ => fun
  | [d1, d2, d3, d4, d5] => { results := [.lit (.bool false)], args := [d1, d2, d3, d4, d5] }
  | _ => none }
def FnExactSlackForWrongFalsely : Prop := fnExactSlackForRow.holds Tryz.pinned (OpenSpec.ofChange fnExactSlackForWrong)

/-- 'laws.FnExactCriticalWay': WHATEVER THE INPUT: true; the input reads as it did. -/
def fnExactCriticalWaySpec : ChangeSpec := { name := "fnExactCriticalWay", fn := fun _ => fun
  | [d1, d2, d3, d4] => { results := [.lit (.bool true)], args := [d1, d2, d3, d4] }
  | _ => none }
def fnExactCriticalWayRow : OpenClaim := { program := "ytnabedhhflfepaagreat", sum := "d64a6ddd8f28bdfe7d554135cd25c4a5c2164fab48bad41f31144ceb553a2a15", func := "loop.example/g01274/laws.FnExactCriticalWay", spec := "fnExactCriticalWay", unfollowed := true, recurses := true, plainKeys := false, apart := false }
def FnExactCriticalWaySaid : Prop := fnExactCriticalWayRow.holds Tryz.pinned (OpenSpec.ofChange fnExactCriticalWaySpec)

/-- ITS FALSE NEIGHBOUR: 'it returns false'. Refute it at one input. -/
def fnExactCriticalWayWrong : ChangeSpec := { name := "fnExactCriticalWay", fn := fun _ => fun
  | [d1, d2, d3, d4] => { results := [.lit (.bool false)], args := [d1, d2, d3, d4] }
  | _ => none }
def FnExactCriticalWayWrongFalsely : Prop := fnExactCriticalWayRow.holds Tryz.pinned (OpenSpec.ofChange fnExactCriticalWayWrong)

/-- 'laws.FnExactRacesOf': WHATEVER THE INPUT: true; the input reads as it did. -/
def fnExactRacesOfSpec : ChangeSpec := { name := "fnExactRacesOf", fn := fun _ => fun
  | [d1, d2, d3] => { results := [.lit (.bool true)], args := [d1, d2, d3] }
  | _ => none }
def fnExactRacesOfRow : OpenClaim := { program := "ytnabedhhflfepaagreat", sum := "d64a6ddd8f28bdfe7d554135cd25c4a5c2164fab48bad41f31144ceb553a2a15", func := "loop.example/g01274/laws.FnExactRacesOf", spec := "fnExactRacesOf", unfollowed := true, recurses := true, plainKeys := false, apart := false }
def FnExactRacesOfSaid : Prop := fnExactRacesOfRow.holds Tryz.pinned (OpenSpec.ofChange fnExactRacesOfSpec)

/-- ITS FALSE NEIGHBOUR: 'it returns false'. Refute it at one input. -/
def fnExactRacesOfWrong : ChangeSpec := { name := "fnExactRacesOf", fn := fun _ => fun
  | [d1, d2, d3] => { results := [.lit (.bool false)], args := [d1, d2, d3] }
  | _ => none }
def FnExactRacesOfWrongFalsely : Prop := fnExactRacesOfRow.holds Tryz.pinned (OpenSpec.ofChange fnExactRacesOfWrong)

/- THE SECOND FORM. 'bulk': how many values and letters a reading holds, each counted each time it is reached (what is shared counts as often as it is met; a slice's spare places count too). A statement '..UptoSaid' is the law's where the arguments, and the package variables that the reading takes, are together of bulk at most 1048576: NARROWER than '..Said'. Prove '..Said' where nothing that the law and all that it calls make is longer than what came in: it says more and counts as full. Else prove '..UptoSaid'. A law counts once. -/
mutual
def uptoBulk {H : Type} : DataW H → Nat
  | .lit (.string bytes) => bytes.length + 1
  | .lit _ => 1
  | .nil => 1
  | .ptr d => uptoBulk d + 1
  | .slice elems spare => uptoBulkAll elems + uptoBulkAll spare + 1
  | .agg parts => uptoBulkAll parts + 1
  | .iface _ d => uptoBulk d + 1
  | .map entries => uptoBulkEntries entries + 1
  | .held _ => 1
def uptoBulkAll {H : Type} : List (DataW H) → Nat
  | [] => 0
  | d :: r => uptoBulk d + uptoBulkAll r
def uptoBulkEntries {H : Type} : List (Lit × DataW H) → Nat
  | [] => 0
  | x :: r => uptoBulkEntry x + uptoBulkEntries r
def uptoBulkEntry {H : Type} : Lit × DataW H → Nat
  | (.string bytes, d) => bytes.length + uptoBulk d + 1
  | (_, d) => uptoBulk d + 1
 end
def uptoSmall : (H : Type) → List (DataW H) → Bool := fun _ ds => decide (uptoBulkAll ds ≤ 1048576)
def OpenSpec.upto (s : _root_.Go.ChangeSpec) : _root_.Go.OpenSpec := { _root_.Go.OpenSpec.ofChange s with cond := some uptoSmall }

/-- 'laws.FnExactWidestSpan', WHERE WHAT IT READS IS OF BULK AT MOST 1048576: true; the input reads as it did. -/
def fnExactWidestSpanUptoRow : OpenClaim := { program := "ytnabedhhflfepaagreat", sum := "d64a6ddd8f28bdfe7d554135cd25c4a5c2164fab48bad41f31144ceb553a2a15", func := "loop.example/g01274/laws.FnExactWidestSpan", spec := "fnExactWidestSpan", unfollowed := true, recurses := true, plainKeys := false, apart := false, narrowed := true }
def FnExactWidestSpanUptoSaid : Prop := fnExactWidestSpanUptoRow.holds Tryz.pinned (OpenSpec.upto fnExactWidestSpanSpec)

/-- 'laws.FnExactSlackFor', WHERE WHAT IT READS IS OF BULK AT MOST 1048576: true; the input reads as it did. -/
def fnExactSlackForUptoRow : OpenClaim := { program := "ytnabedhhflfepaagreat", sum := "d64a6ddd8f28bdfe7d554135cd25c4a5c2164fab48bad41f31144ceb553a2a15", func := "loop.example/g01274/laws.FnExactSlackFor", spec := "fnExactSlackFor", unfollowed := true, recurses := true, plainKeys := false, apart := false, narrowed := true }
def FnExactSlackForUptoSaid : Prop := fnExactSlackForUptoRow.holds Tryz.pinned (OpenSpec.upto fnExactSlackForSpec)

/-- 'laws.FnExactCriticalWay', WHERE WHAT IT READS IS OF BULK AT MOST 1048576: true; the input reads as it did. -/
def fnExactCriticalWayUptoRow : OpenClaim := { program := "ytnabedhhflfepaagreat", sum := "d64a6ddd8f28bdfe7d554135cd25c4a5c2164fab48bad41f31144ceb553a2a15", func := "loop.example/g01274/laws.FnExactCriticalWay", spec := "fnExactCriticalWay", unfollowed := true, recurses := true, plainKeys := false, apart := false, narrowed := true }
def FnExactCriticalWayUptoSaid : Prop := fnExactCriticalWayUptoRow.holds Tryz.pinned (OpenSpec.upto fnExactCriticalWaySpec)

/-- 'laws.FnExactRacesOf', WHERE WHAT IT READS IS OF BULK AT MOST 1048576: true; the input reads as it did. -/
def fnExactRacesOfUptoRow : OpenClaim := { program := "ytnabedhhflfepaagreat", sum := "d64a6ddd8f28bdfe7d554135cd25c4a5c2164fab48bad41f31144ceb553a2a15", func := "loop.example/g01274/laws.FnExactRacesOf", spec := "fnExactRacesOf", unfollowed := true, recurses := true, plainKeys := false, apart := false, narrowed := true }
def FnExactRacesOfUptoSaid : Prop := fnExactRacesOfUptoRow.holds Tryz.pinned (OpenSpec.upto fnExactRacesOfSpec)

end Rows
end Go.Proofs.YtnabedhhflfepaaGreat
