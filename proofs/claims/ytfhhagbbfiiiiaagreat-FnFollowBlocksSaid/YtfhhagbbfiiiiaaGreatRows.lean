/-
  No cell of these rows narrows 'for every input' (looked for: loops, veiled, ifaces, maps, wideKeys, modest, calm, conditions, laid).
  DERIVED. THE GIVEN ROWS OF THIS SEAT. 4 by the template 'for every input the law returns true; each argument reads behind the call as it read before'; 0 by the template 'total and deterministic' (their statements: YtfhhagbbfiiiiaaGreatTotals.lean).
  GIVEN WITH THE SEED: the statements are not yours to turn. If you find one false, say at which input.
  Laid BY PROGRAM, IN A SANDBOX (cutbox-rows.mjs): the forced cells as the released guide's own fill.sh prints them over the translation 017536738858b728… (all of the seat's roots in one cut). By AI agents, Wed Nov 11 2026. No macro, syntax, notation, axiom, sorry.
-/
import Derived.Test.YtfhhagbbfiiiiaaGreatChecked
import GoSem.Claim
import GoSem.ClaimJoined
import GoSem.ClaimMapViews
import Derived.JoinedTies
import Derived.KernelRfl
namespace Go.Proofs.YtfhhagbbfiiiiaaGreat
/- THE CELL 'sum', in the pinned program and in every row, IS THE sha256 OF THE DUMP (.gsa) THAT YtfhhagbbfiiiiaaGreatProg.lean LOADS. Nothing in Lean hashes anything: it is a label: what it is worth is what the hold of that sum in a sandbox is worth. -/
noncomputable def Tryz.pinned : Pinned := { name := "ytfhhagbbfiiiiaagreat", sum := "017536738858b728e792791863201161ba7c9bab25f37e85fc14dfaae27252af", checked := Tryz.checked }
namespace Rows
def none {H : Type} : Left H := { results := [], args := [] }

/-- 'laws.FnSplitBlocks': WHATEVER THE INPUT: true; the input reads as it did. -/
def fnSplitBlocksSpec : ChangeSpec := { name := "fnSplitBlocks", fn := fun _ => fun
  | [d] => { results := [.lit (.bool true)], args := [d] }
  | _ => none }
def fnSplitBlocksRow : OpenClaim := { program := "ytfhhagbbfiiiiaagreat", sum := "017536738858b728e792791863201161ba7c9bab25f37e85fc14dfaae27252af", func := "loop.example/wholecheck/laws.FnSplitBlocks", spec := "fnSplitBlocks", inPlace := ["slices.overlaps[[]int]"], unfollowed := true, recurses := true, plainKeys := false, apart := false }
def FnSplitBlocksSaid : Prop := fnSplitBlocksRow.holds Tryz.pinned (OpenSpec.ofChange fnSplitBlocksSpec)

/-- ITS FALSE NEIGHBOUR: 'it returns false'. Refute it at one input. -/
def fnSplitBlocksWrong : ChangeSpec := { name := "fnSplitBlocks", fn := fun _ => fun
  | [d] => { results := [.lit (.bool false)], args := [d] }
  | _ => none }
def FnSplitBlocksWrongFalsely : Prop := fnSplitBlocksRow.holds Tryz.pinned (OpenSpec.ofChange fnSplitBlocksWrong)

/-- 'laws.FnFollowBlocks': WHATEVER THE INPUT: true; the input reads as it did. -/
def fnFollowBlocksSpec : ChangeSpec := { name := "fnFollowBlocks", fn := fun _ => fun
  | [d] => { results := [.lit (.bool true)], args := [d] }
  | _ => none }
def fnFollowBlocksRow : OpenClaim := { program := "ytfhhagbbfiiiiaagreat", sum := "017536738858b728e792791863201161ba7c9bab25f37e85fc14dfaae27252af", func := "loop.example/wholecheck/laws.FnFollowBlocks", spec := "fnFollowBlocks", inPlace := ["slices.overlaps[[]int]"], unfollowed := true, recurses := true, plainKeys := false, apart := false }
def FnFollowBlocksSaid : Prop := fnFollowBlocksRow.holds Tryz.pinned (OpenSpec.ofChange fnFollowBlocksSpec)

/-- ITS FALSE NEIGHBOUR: 'it returns false'. Refute it at one input. -/
def fnFollowBlocksWrong : ChangeSpec := { name := "fnFollowBlocks", fn := fun _ => fun
  | [d] => { results := [.lit (.bool false)], args := [d] }
  | _ => none }
def FnFollowBlocksWrongFalsely : Prop := fnFollowBlocksRow.holds Tryz.pinned (OpenSpec.ofChange fnFollowBlocksWrong)

/-- 'laws.FnBlockSteps': WHATEVER THE INPUT: true; the input reads as it did. -/
def fnBlockStepsSpec : ChangeSpec := { name := "fnBlockSteps", fn := fun _ => fun
  | [d] => { results := [.lit (.bool true)], args := [d] }
  | _ => none }
def fnBlockStepsRow : OpenClaim := { program := "ytfhhagbbfiiiiaagreat", sum := "017536738858b728e792791863201161ba7c9bab25f37e85fc14dfaae27252af", func := "loop.example/wholecheck/laws.FnBlockSteps", spec := "fnBlockSteps", inPlace := ["slices.overlaps[[]int]"], unfollowed := true, recurses := true, plainKeys := false, apart := false }
def FnBlockStepsSaid : Prop := fnBlockStepsRow.holds Tryz.pinned (OpenSpec.ofChange fnBlockStepsSpec)

/-- ITS FALSE NEIGHBOUR: 'it returns false'. Refute it at one input. -/
def fnBlockStepsWrong : ChangeSpec := { name := "fnBlockSteps", fn := fun _ => fun
  | [d] => { results := [.lit (.bool false)], args := [d] }
  | _ => none }
def FnBlockStepsWrongFalsely : Prop := fnBlockStepsRow.holds Tryz.pinned (OpenSpec.ofChange fnBlockStepsWrong)

/-- 'laws.FnBlockReach': WHATEVER THE INPUT: true; the input reads as it did. -/
def fnBlockReachSpec : ChangeSpec := { name := "fnBlockReach", fn := fun _ => fun
  | [d] => { results := [.lit (.bool true)], args := [d] }
  | _ => none }
def fnBlockReachRow : OpenClaim := { program := "ytfhhagbbfiiiiaagreat", sum := "017536738858b728e792791863201161ba7c9bab25f37e85fc14dfaae27252af", func := "loop.example/wholecheck/laws.FnBlockReach", spec := "fnBlockReach", inPlace := ["slices.overlaps[[]int]"], unfollowed := true, recurses := true, plainKeys := false, apart := false }
def FnBlockReachSaid : Prop := fnBlockReachRow.holds Tryz.pinned (OpenSpec.ofChange fnBlockReachSpec)

/-- ITS FALSE NEIGHBOUR: 'it returns false'. Refute it at one input. -/
def fnBlockReachWrong : ChangeSpec := { name := "fnBlockReach", fn := fun _ => fun
  | [d] => { results := [.lit (.bool false)], args := [d] }
  | _ => none }
def FnBlockReachWrongFalsely : Prop := fnBlockReachRow.holds Tryz.pinned (OpenSpec.ofChange fnBlockReachWrong)

/- THE SECOND FORM. 'bulk': how many values and letters a reading holds, each counted each time it is reached (what is shared counts as often as it is met; a slice's spare places count too). A statement '..UptoSaid' is the law's where the arguments, and the package variables that the reading takes, are together of bulk at most 1048576: NARROWER than '..Said'. Prove '..Said' where nothing that the law and all that it calls make is longer than what came in: it says more and counts as full. Else prove '..UptoSaid'. A law counts once. -/
mutual
def uptoBulk {H : Type} : DataW H → Nat
  | .lit (.string bytes) => bytes.length + 1
  | .lit _ => 1
  | .nil => 1
  | .ptr d => uptoBulk d + 1
  | .slice elems spare => uptoBulkAll elems + uptoBulkAll spare + 1
  | .agg parts => uptoBulkAll parts + 1
  | .iface _ d => uptoBulk d + 1
  | .map entries => uptoBulkEntries entries + 1
  | .held _ => 1
def uptoBulkAll {H : Type} : List (DataW H) → Nat
  | [] => 0
  | d :: r => uptoBulk d + uptoBulkAll r
def uptoBulkEntries {H : Type} : List (Lit × DataW H) → Nat
  | [] => 0
  | x :: r => uptoBulkEntry x + uptoBulkEntries r
def uptoBulkEntry {H : Type} : Lit × DataW H → Nat
  | (.string bytes, d) => bytes.length + uptoBulk d + 1
  | (_, d) => uptoBulk d + 1
 end
def uptoSmall : (H : Type) → List (DataW H) → Bool := fun _ ds => decide (uptoBulkAll ds ≤ 1048576)
def OpenSpec.upto (s : _root_.Go.ChangeSpec) : _root_.Go.OpenSpec := { _root_.Go.OpenSpec.ofChange s with cond := some uptoSmall }

/-- 'laws.FnSplitBlocks', WHERE WHAT IT READS IS OF BULK AT MOST 1048576: true; the input reads as it did. -/
def fnSplitBlocksUptoRow : OpenClaim := { program := "ytfhhagbbfiiiiaagreat", sum := "017536738858b728e792791863201161ba7c9bab25f37e85fc14dfaae27252af", func := "loop.example/wholecheck/laws.FnSplitBlocks", spec := "fnSplitBlocks", inPlace := ["slices.overlaps[[]int]"], unfollowed := true, recurses := true, plainKeys := false, apart := false, narrowed := true }
def FnSplitBlocksUptoSaid : Prop := fnSplitBlocksUptoRow.holds Tryz.pinned (OpenSpec.upto fnSplitBlocksSpec)

/-- 'laws.FnFollowBlocks', WHERE WHAT IT READS IS OF BULK AT MOST 1048576: true; the input reads as it did. -/
def fnFollowBlocksUptoRow : OpenClaim := { program := "ytfhhagbbfiiiiaagreat", sum := "017536738858b728e792791863201161ba7c9bab25f37e85fc14dfaae27252af", func := "loop.example/wholecheck/laws.FnFollowBlocks", spec := "fnFollowBlocks", inPlace := ["slices.overlaps[[]int]"], unfollowed := true, recurses := true, plainKeys := false, apart := false, narrowed := true }
def FnFollowBlocksUptoSaid : Prop := fnFollowBlocksUptoRow.holds Tryz.pinned (OpenSpec.upto fnFollowBlocksSpec)

/-- 'laws.FnBlockSteps', WHERE WHAT IT READS IS OF BULK AT MOST 1048576: true; the input reads as it did. -/
def fnBlockStepsUptoRow : OpenClaim := { program := "ytfhhagbbfiiiiaagreat", sum := "017536738858b728e792791863201161ba7c9bab25f37e85fc14dfaae27252af", func := "loop.example/wholecheck/laws.FnBlockSteps", spec := "fnBlockSteps", inPlace := ["slices.overlaps[[]int]"], unfollowed := true, recurses := true, plainKeys := false, apart := false, narrowed := true }
def FnBlockStepsUptoSaid : Prop := fnBlockStepsUptoRow.holds Tryz.pinned (OpenSpec.upto fnBlockStepsSpec)

/-- 'laws.FnBlockReach', WHERE WHAT IT READS IS OF BULK AT MOST 1048576: true; the input reads as it did. -/
def fnBlockReachUptoRow : OpenClaim := { program := "ytfhhagbbfiiiiaagreat", sum := "017536738858b728e792791863201161ba7c9bab25f37e85fc14dfaae27252af", func := "loop.example/wholecheck/laws.FnBlockReach", spec := "fnBlockReach", inPlace := ["slices.overlaps[[]int]"], unfollowed := true, recurses := true, plainKeys := false, apart := false, narrowed := true }
def FnBlockReachUptoSaid : Prop := fnBlockReachUptoRow.holds Tryz.pinned (OpenSpec.upto fnBlockReachSpec)

end Rows
end Go.Proofs.YtfhhagbbfiiiiaaGreat
