/-
  No cell of these rows narrows 'for every input' (looked for: loops, veiled, ifaces, maps, wideKeys, modest, calm, conditions, laid).
  DERIVED. THE GIVEN ROWS OF THIS SEAT. 7 by the template 'for every input the law returns true; each argument reads behind the call as it read before'; 0 by the template 'total and deterministic' (their statements: YtphlehimeekgoaaGreatTotals.lean).
  GIVEN WITH THE SEED: the statements are not yours to turn. If you find one false, say at which input.
  Laid BY PROGRAM, IN A SANDBOX (cutbox-rows.mjs): the forced cells as the released guide's own fill.sh prints them over the translation 4cd45344a37558aa… (all of the seat's roots in one cut). By AI agents, Wed Nov 11 2026. No macro, syntax, notation, axiom, sorry.
-/
import Derived.Test.YtphlehimeekgoaaGreatChecked
import GoSem.Claim
import GoSem.ClaimJoined
import GoSem.ClaimMapViews
import Derived.JoinedTies
import Derived.KernelRfl
namespace Go.Proofs.YtphlehimeekgoaaGreat
/- THE CELL 'sum', in the pinned program and in every row, IS THE sha256 OF THE DUMP (.gsa) THAT YtphlehimeekgoaaGreatProg.lean LOADS. Nothing in Lean hashes anything: it is a label: what it is worth is what the hold of that sum in a sandbox is worth. -/
noncomputable def Tryz.pinned : Pinned := { name := "ytphlehimeekgoaagreat", sum := "4cd45344a37558aa1ab289b590e06728fb298bb8e634cc34dfab498773bc4016", checked := Tryz.checked }
namespace Rows
def none {H : Type} : Left H := { results := [], args := [] }

/-- 'laws.FnExactFollowBlocks': WHATEVER THE INPUT: true; the input reads as it did. -/
def fnExactFollowBlocksSpec : ChangeSpec := { name := "fnExactFollowBlocks", fn := fun _ => fun
  | [d1, d2, d3] => { results := [.lit (.bool true)], args := [d1, d2, d3] }
  | _ => none }
def fnExactFollowBlocksRow : OpenClaim := { program := "ytphlehimeekgoaagreat", sum := "4cd45344a37558aa1ab289b590e06728fb298bb8e634cc34dfab498773bc4016", func := "loop.example/wholecheck/laws.FnExactFollowBlocks", spec := "fnExactFollowBlocks", inPlace := ["slices.overlaps[[]int]"], unfollowed := true, recurses := true, plainKeys := false, apart := false }
def FnExactFollowBlocksSaid : Prop := fnExactFollowBlocksRow.holds Tryz.pinned (OpenSpec.ofChange fnExactFollowBlocksSpec)

/-- ITS FALSE NEIGHBOUR: 'it returns false'. Refute it at one input. -/
def fnExactFollowBlocksWrong : ChangeSpec := { name := "fnExactFollowBlocks", fn := fun _ => fun
  | [d1, d2, d3] => { results := [.lit (.bool false)], args := [d1, d2, d3] }
  | _ => none }
def FnExactFollowBlocksWrongFalsely : Prop := fnExactFollowBlocksRow.holds Tryz.pinned (OpenSpec.ofChange fnExactFollowBlocksWrong)

/-- 'laws.FnExactSplitFor': WHATEVER THE INPUT: true; the input reads as it did. -/
def fnExactSplitForSpec : ChangeSpec := { name := "fnExactSplitFor", fn := fun _ => fun
  | [d1, d2, d3, d4] => { results := [.lit (.bool true)], args := [d1, d2, d3, d4] }
  | _ => none }
def fnExactSplitForRow : OpenClaim := { program := "ytphlehimeekgoaagreat", sum := "4cd45344a37558aa1ab289b590e06728fb298bb8e634cc34dfab498773bc4016", func := "loop.example/wholecheck/laws.FnExactSplitFor", spec := "fnExactSplitFor", inPlace := ["slices.overlaps[[]int]"], unfollowed := true, recurses := true, plainKeys := false, apart := false }
def FnExactSplitForSaid : Prop := fnExactSplitForRow.holds Tryz.pinned (OpenSpec.ofChange fnExactSplitForSpec)

/-- ITS FALSE NEIGHBOUR: 'it returns false'. Refute it at one input. -/
def fnExactSplitForWrong : ChangeSpec := { name := "fnExactSplitFor", fn := fun _ => fun
  | [d1, d2, d3, d4] => { results := [.lit (.bool false)], args := [d1, d2, d3, d4] }
  | _ => none }
def FnExactSplitForWrongFalsely : Prop := fnExactSplitForRow.holds Tryz.pinned (OpenSpec.ofChange fnExactSplitForWrong)

/-- 'laws.FnExactWayTrace': WHATEVER THE INPUT: true; the input reads as it did. -/
def fnExactWayTraceSpec : ChangeSpec := { name := "fnExactWayTrace", fn := fun _ => fun
  | [d1, d2, d3, d4] => { results := [.lit (.bool true)], args := [d1, d2, d3, d4] }
  | _ => none }
def fnExactWayTraceRow : OpenClaim := { program := "ytphlehimeekgoaagreat", sum := "4cd45344a37558aa1ab289b590e06728fb298bb8e634cc34dfab498773bc4016", func := "loop.example/wholecheck/laws.FnExactWayTrace", spec := "fnExactWayTrace", inPlace := ["slices.overlaps[[]int]"], unfollowed := true, recurses := true, plainKeys := false, apart := false }
def FnExactWayTraceSaid : Prop := fnExactWayTraceRow.holds Tryz.pinned (OpenSpec.ofChange fnExactWayTraceSpec)

/-- ITS FALSE NEIGHBOUR: 'it returns false'. Refute it at one input. -/
def fnExactWayTraceWrong : ChangeSpec := { name := "fnExactWayTrace", fn := fun _ => fun
  | [d1, d2, d3, d4] => { results := [.lit (.bool false)], args := [d1, d2, d3, d4] }
  | _ => none }
def FnExactWayTraceWrongFalsely : Prop := fnExactWayTraceRow.holds Tryz.pinned (OpenSpec.ofChange fnExactWayTraceWrong)

/-- 'laws.FnExactBlockSteps': WHATEVER THE INPUT: true; the input reads as it did. -/
def fnExactBlockStepsSpec : ChangeSpec := { name := "fnExactBlockSteps", fn := fun _ => fun
  | [d1, d2] => { results := [.lit (.bool true)], args := [d1, d2] }
  | _ => none }
def fnExactBlockStepsRow : OpenClaim := { program := "ytphlehimeekgoaagreat", sum := "4cd45344a37558aa1ab289b590e06728fb298bb8e634cc34dfab498773bc4016", func := "loop.example/wholecheck/laws.FnExactBlockSteps", spec := "fnExactBlockSteps", inPlace := ["slices.overlaps[[]int]"], unfollowed := true, recurses := true, plainKeys := false, apart := false }
def FnExactBlockStepsSaid : Prop := fnExactBlockStepsRow.holds Tryz.pinned (OpenSpec.ofChange fnExactBlockStepsSpec)

/-- ITS FALSE NEIGHBOUR: 'it returns false'. Refute it at one input. -/
def fnExactBlockStepsWrong : ChangeSpec := { name := "fnExactBlockSteps", fn := fun _ => fun
  | [d1, d2] => { results := [.lit (.bool false)], args := [d1, d2] }
  | _ => none }
def FnExactBlockStepsWrongFalsely : Prop := fnExactBlockStepsRow.holds Tryz.pinned (OpenSpec.ofChange fnExactBlockStepsWrong)

/-- 'laws.FnExactAlwaysByBlocks': WHATEVER THE INPUT: true; the input reads as it did. -/
def fnExactAlwaysByBlocksSpec : ChangeSpec := { name := "fnExactAlwaysByBlocks", fn := fun _ => fun
  | [d1, d2, d3] => { results := [.lit (.bool true)], args := [d1, d2, d3] }
  | _ => none }
def fnExactAlwaysByBlocksRow : OpenClaim := { program := "ytphlehimeekgoaagreat", sum := "4cd45344a37558aa1ab289b590e06728fb298bb8e634cc34dfab498773bc4016", func := "loop.example/wholecheck/laws.FnExactAlwaysByBlocks", spec := "fnExactAlwaysByBlocks", inPlace := ["slices.overlaps[[]int]"], unfollowed := true, recurses := true, plainKeys := false, apart := false }
def FnExactAlwaysByBlocksSaid : Prop := fnExactAlwaysByBlocksRow.holds Tryz.pinned (OpenSpec.ofChange fnExactAlwaysByBlocksSpec)

/-- ITS FALSE NEIGHBOUR: 'it returns false'. Refute it at one input. -/
def fnExactAlwaysByBlocksWrong : ChangeSpec := { name := "fnExactAlwaysByBlocks", fn := fun _ => fun
  | [d1, d2, d3] => { results := [.lit (.bool false)], args := [d1, d2, d3] }
  | _ => none }
def FnExactAlwaysByBlocksWrongFalsely : Prop := fnExactAlwaysByBlocksRow.holds Tryz.pinned (OpenSpec.ofChange fnExactAlwaysByBlocksWrong)

/-- 'laws.FnExactBlockReach': WHATEVER THE INPUT: true; the input reads as it did. -/
def fnExactBlockReachSpec : ChangeSpec := { name := "fnExactBlockReach", fn := fun _ => fun
  | [d1, d2] => { results := [.lit (.bool true)], args := [d1, d2] }
  | _ => none }
def fnExactBlockReachRow : OpenClaim := { program := "ytphlehimeekgoaagreat", sum := "4cd45344a37558aa1ab289b590e06728fb298bb8e634cc34dfab498773bc4016", func := "loop.example/wholecheck/laws.FnExactBlockReach", spec := "fnExactBlockReach", inPlace := ["slices.overlaps[[]int]"], unfollowed := true, recurses := true, plainKeys := false, apart := false }
def FnExactBlockReachSaid : Prop := fnExactBlockReachRow.holds Tryz.pinned (OpenSpec.ofChange fnExactBlockReachSpec)

/-- ITS FALSE NEIGHBOUR: 'it returns false'. Refute it at one input. -/
def fnExactBlockReachWrong : ChangeSpec := { name := "fnExactBlockReach", fn := fun _ => fun
  | [d1, d2] => { results := [.lit (.bool false)], args := [d1, d2] }
  | _ => none }
def FnExactBlockReachWrongFalsely : Prop := fnExactBlockReachRow.holds Tryz.pinned (OpenSpec.ofChange fnExactBlockReachWrong)

/-- 'laws.FnExactBlockWay': WHATEVER THE INPUT: true; the input reads as it did. -/
def fnExactBlockWaySpec : ChangeSpec := { name := "fnExactBlockWay", fn := fun _ => fun
  | [d1, d2, d3] => { results := [.lit (.bool true)], args := [d1, d2, d3] }
  | _ => none }
def fnExactBlockWayRow : OpenClaim := { program := "ytphlehimeekgoaagreat", sum := "4cd45344a37558aa1ab289b590e06728fb298bb8e634cc34dfab498773bc4016", func := "loop.example/wholecheck/laws.FnExactBlockWay", spec := "fnExactBlockWay", inPlace := ["slices.overlaps[[]int]"], unfollowed := true, recurses := true, plainKeys := false, apart := false }
def FnExactBlockWaySaid : Prop := fnExactBlockWayRow.holds Tryz.pinned (OpenSpec.ofChange fnExactBlockWaySpec)

/-- ITS FALSE NEIGHBOUR: 'it returns false'. Refute it at one input. -/
def fnExactBlockWayWrong : ChangeSpec := { name := "fnExactBlockWay", fn := fun _ => fun
  | [d1, d2, d3] => { results := [.lit (.bool false)], args := [d1, d2, d3] }
  | _ => none }
def FnExactBlockWayWrongFalsely : Prop := fnExactBlockWayRow.holds Tryz.pinned (OpenSpec.ofChange fnExactBlockWayWrong)

/- THE SECOND FORM. 'bulk': how many values and letters a reading holds, each counted each time it is reached (what is shared counts as often as it is met; a slice's spare places count too). A statement '..UptoSaid' is the law's where the arguments, and the package variables that the reading takes, are together of bulk at most 1048576: NARROWER than '..Said'. Prove '..Said' where nothing that the law and all that it calls make is longer than what came in: it says more and counts as full. Else prove '..UptoSaid'. A law counts once. -/
mutual
def uptoBulk {H : Type} : DataW H → Nat
  | .lit (.string bytes) => bytes.length + 1
  | .lit _ => 1
  | .nil => 1
  | .ptr d => uptoBulk d + 1
  | .slice elems spare => uptoBulkAll elems + uptoBulkAll spare + 1
  | .agg parts => uptoBulkAll parts + 1
  | .iface _ d => uptoBulk d + 1
  | .map entries => uptoBulkEntries entries + 1
  | .held _ => 1
def uptoBulkAll {H : Type} : List (DataW H) → Nat
  | [] => 0
  | d :: r => uptoBulk d + uptoBulkAll r
def uptoBulkEntries {H : Type} : List (Lit × DataW H) → Nat
  | [] => 0
  | x :: r => uptoBulkEntry x + uptoBulkEntries r
def uptoBulkEntry {H : Type} : Lit × DataW H → Nat
  | (.string bytes, d) => bytes.length + uptoBulk d + 1
  | (_, d) => uptoBulk d + 1
 end
def uptoSmall : (H : Type) → List (DataW H) → Bool := fun _ ds => decide (uptoBulkAll ds ≤ 1048576)
def OpenSpec.upto (s : _root_.Go.ChangeSpec) : _root_.Go.OpenSpec := { _root_.Go.OpenSpec.ofChange s with cond := some uptoSmall }

/-- 'laws.FnExactFollowBlocks', WHERE WHAT IT READS IS OF BULK AT MOST 1048576: true; the input reads as it did. -/
def fnExactFollowBlocksUptoRow : OpenClaim := { program := "ytphlehimeekgoaagreat", sum := "4cd45344a37558aa1ab289b590e06728fb298bb8e634cc34dfab498773bc4016", func := "loop.example/wholecheck/laws.FnExactFollowBlocks", spec := "fnExactFollowBlocks", inPlace := ["slices.overlaps[[]int]"], unfollowed := true, recurses := true, plainKeys := false, apart := false, narrowed := true }
def FnExactFollowBlocksUptoSaid : Prop := fnExactFollowBlocksUptoRow.holds Tryz.pinned (OpenSpec.upto fnExactFollowBlocksSpec)

/-- 'laws.FnExactSplitFor', WHERE WHAT IT READS IS OF BULK AT MOST 1048576: true; the input reads as it did. -/
def fnExactSplitForUptoRow : OpenClaim := { program := "ytphlehimeekgoaagreat", sum := "4cd45344a37558aa1ab289b590e06728fb298bb8e634cc34dfab498773bc4016", func := "loop.example/wholecheck/laws.FnExactSplitFor", spec := "fnExactSplitFor", inPlace := ["slices.overlaps[[]int]"], unfollowed := true, recurses := true, plainKeys := false, apart := false, narrowed := true }
def FnExactSplitForUptoSaid : Prop := fnExactSplitForUptoRow.holds Tryz.pinned (OpenSpec.upto fnExactSplitForSpec)

/-- 'laws.FnExactWayTrace', WHERE WHAT IT READS IS OF BULK AT MOST 1048576: true; the input reads as it did. -/
def fnExactWayTraceUptoRow : OpenClaim := { program := "ytphlehimeekgoaagreat", sum := "4cd45344a37558aa1ab289b590e06728fb298bb8e634cc34dfab498773bc4016", func := "loop.example/wholecheck/laws.FnExactWayTrace", spec := "fnExactWayTrace", inPlace := ["slices.overlaps[[]int]"], unfollowed := true, recurses := true, plainKeys := false, apart := false, narrowed := true }
def FnExactWayTraceUptoSaid : Prop := fnExactWayTraceUptoRow.holds Tryz.pinned (OpenSpec.upto fnExactWayTraceSpec)

/-- 'laws.FnExactBlockSteps', WHERE WHAT IT READS IS OF BULK AT MOST 1048576: true; the input reads as it did. -/
def fnExactBlockStepsUptoRow : OpenClaim := { program := "ytphlehimeekgoaagreat", sum := "4cd45344a37558aa1ab289b590e06728fb298bb8e634cc34dfab498773bc4016", func := "loop.example/wholecheck/laws.FnExactBlockSteps", spec := "fnExactBlockSteps", inPlace := ["slices.overlaps[[]int]"], unfollowed := true, recurses := true, plainKeys := false, apart := false, narrowed := true }
def FnExactBlockStepsUptoSaid : Prop := fnExactBlockStepsUptoRow.holds Tryz.pinned (OpenSpec.upto fnExactBlockStepsSpec)

/-- 'laws.FnExactAlwaysByBlocks', WHERE WHAT IT READS IS OF BULK AT MOST 1048576: true; the input reads as it did. -/
def fnExactAlwaysByBlocksUptoRow : OpenClaim := { program := "ytphlehimeekgoaagreat", sum := "4cd45344a37558aa1ab289b590e06728fb298bb8e634cc34dfab498773bc4016", func := "loop.example/wholecheck/laws.FnExactAlwaysByBlocks", spec := "fnExactAlwaysByBlocks", inPlace := ["slices.overlaps[[]int]"], unfollowed := true, recurses := true, plainKeys := false, apart := false, narrowed := true }
def FnExactAlwaysByBlocksUptoSaid : Prop := fnExactAlwaysByBlocksUptoRow.holds Tryz.pinned (OpenSpec.upto fnExactAlwaysByBlocksSpec)

/-- 'laws.FnExactBlockReach', WHERE WHAT IT READS IS OF BULK AT MOST 1048576: true; the input reads as it did. -/
def fnExactBlockReachUptoRow : OpenClaim := { program := "ytphlehimeekgoaagreat", sum := "4cd45344a37558aa1ab289b590e06728fb298bb8e634cc34dfab498773bc4016", func := "loop.example/wholecheck/laws.FnExactBlockReach", spec := "fnExactBlockReach", inPlace := ["slices.overlaps[[]int]"], unfollowed := true, recurses := true, plainKeys := false, apart := false, narrowed := true }
def FnExactBlockReachUptoSaid : Prop := fnExactBlockReachUptoRow.holds Tryz.pinned (OpenSpec.upto fnExactBlockReachSpec)

/-- 'laws.FnExactBlockWay', WHERE WHAT IT READS IS OF BULK AT MOST 1048576: true; the input reads as it did. -/
def fnExactBlockWayUptoRow : OpenClaim := { program := "ytphlehimeekgoaagreat", sum := "4cd45344a37558aa1ab289b590e06728fb298bb8e634cc34dfab498773bc4016", func := "loop.example/wholecheck/laws.FnExactBlockWay", spec := "fnExactBlockWay", inPlace := ["slices.overlaps[[]int]"], unfollowed := true, recurses := true, plainKeys := false, apart := false, narrowed := true }
def FnExactBlockWayUptoSaid : Prop := fnExactBlockWayUptoRow.holds Tryz.pinned (OpenSpec.upto fnExactBlockWaySpec)

end Rows
end Go.Proofs.YtphlehimeekgoaaGreat
