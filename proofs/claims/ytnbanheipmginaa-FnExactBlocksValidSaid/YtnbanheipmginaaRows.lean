/-
  No cell of these rows narrows 'for every input' (looked for: loops, veiled, ifaces, maps, wideKeys, modest, calm, conditions, laid).
  DERIVED. THE GIVEN ROWS OF THIS SEAT. 6 by the template 'for every input the law returns true; each argument reads behind the call as it read before'; 0 by the template 'total and deterministic' (their statements: YtnbanheipmginaaTotals.lean).
  GIVEN WITH THE SEED: the statements are not yours to turn. If you find one false, say at which input.
  Laid BY PROGRAM, IN A SANDBOX (cutbox-rows.mjs): the forced cells as the released guide's own fill.sh prints them over the translation c1235e19b0a9f3c7… (all of the seat's roots in one cut). By AI agents, Wed Nov 11 2026. No macro, syntax, notation, axiom, sorry.
-/
import Derived.Test.YtnbanheipmginaaChecked
import GoSem.Claim
import GoSem.ClaimJoined
import GoSem.ClaimMapViews
import Derived.JoinedTies
import Derived.KernelRfl
namespace Go.Proofs.Ytnbanheipmginaa
/- THE CELL 'sum', in the pinned program and in every row, IS THE sha256 OF THE DUMP (.gsa) THAT YtnbanheipmginaaProg.lean LOADS. Nothing in Lean hashes anything: it is a label: what it is worth is what the hold of that sum in a sandbox is worth. -/
noncomputable def Try.pinned : Pinned := { name := "ytnbanheipmginaa", sum := "c1235e19b0a9f3c73913a79469ee200d70b59fc1f4c1aaabda5071af6ba80941", checked := Try.checked }
namespace Rows
def none {H : Type} : Left H := { results := [], args := [] }

/-- 'laws.FnExactExchanged': WHATEVER THE INPUT: true; the input reads as it did. -/
def fnExactExchangedSpec : ChangeSpec := { name := "fnExactExchanged", fn := fun _ => fun
  | [d1, d2] => { results := [.lit (.bool true)], args := [d1, d2] }
  | _ => none }
def fnExactExchangedRow : OpenClaim := { program := "ytnbanheipmginaa", sum := "c1235e19b0a9f3c73913a79469ee200d70b59fc1f4c1aaabda5071af6ba80941", func := "loop.example/wholecheck/laws.FnExactExchanged", spec := "fnExactExchanged", plainKeys := false, apart := false }
def FnExactExchangedSaid : Prop := fnExactExchangedRow.holds Try.pinned (OpenSpec.ofChange fnExactExchangedSpec)

/-- ITS FALSE NEIGHBOUR: 'it returns false'. Refute it at one input. -/
def fnExactExchangedWrong : ChangeSpec := { name := "fnExactExchanged", fn := fun _ => fun
  | [d1, d2] => { results := [.lit (.bool false)], args := [d1, d2] }
  | _ => none }
def FnExactExchangedWrongFalsely : Prop := fnExactExchangedRow.holds Try.pinned (OpenSpec.ofChange fnExactExchangedWrong)

/-- 'laws.FnExactOrderWith': WHATEVER THE INPUT: true; the input reads as it did. -/
def fnExactOrderWithSpec : ChangeSpec := { name := "fnExactOrderWith", fn := fun _ => fun
  | [d1, d2] => { results := [.lit (.bool true)], args := [d1, d2] }
  | _ => none }
def fnExactOrderWithRow : OpenClaim := { program := "ytnbanheipmginaa", sum := "c1235e19b0a9f3c73913a79469ee200d70b59fc1f4c1aaabda5071af6ba80941", func := "loop.example/wholecheck/laws.FnExactOrderWith", spec := "fnExactOrderWith", plainKeys := false, apart := false }
def FnExactOrderWithSaid : Prop := fnExactOrderWithRow.holds Try.pinned (OpenSpec.ofChange fnExactOrderWithSpec)

/-- ITS FALSE NEIGHBOUR: 'it returns false'. Refute it at one input. -/
def fnExactOrderWithWrong : ChangeSpec := { name := "fnExactOrderWith", fn := fun _ => fun
  | [d1, d2] => { results := [.lit (.bool false)], args := [d1, d2] }
  | _ => none }
def FnExactOrderWithWrongFalsely : Prop := fnExactOrderWithRow.holds Try.pinned (OpenSpec.ofChange fnExactOrderWithWrong)

/-- 'laws.FnExchanged': WHATEVER THE INPUT: true; the input reads as it did. -/
def fnExchangedSpec : ChangeSpec := { name := "fnExchanged", fn := fun _ => fun
  | [d] => { results := [.lit (.bool true)], args := [d] }
  | _ => none }
def fnExchangedRow : OpenClaim := { program := "ytnbanheipmginaa", sum := "c1235e19b0a9f3c73913a79469ee200d70b59fc1f4c1aaabda5071af6ba80941", func := "loop.example/wholecheck/laws.FnExchanged", spec := "fnExchanged", plainKeys := false, apart := false }
def FnExchangedSaid : Prop := fnExchangedRow.holds Try.pinned (OpenSpec.ofChange fnExchangedSpec)

/-- ITS FALSE NEIGHBOUR: 'it returns false'. Refute it at one input. -/
def fnExchangedWrong : ChangeSpec := { name := "fnExchanged", fn := fun _ => fun
  | [d] => { results := [.lit (.bool false)], args := [d] }
  | _ => none }
def FnExchangedWrongFalsely : Prop := fnExchangedRow.holds Try.pinned (OpenSpec.ofChange fnExchangedWrong)

/-- 'laws.FnExactBlocksValid': WHATEVER THE INPUT: true; the input reads as it did. -/
def fnExactBlocksValidSpec : ChangeSpec := { name := "fnExactBlocksValid", fn := fun _ => fun
  | [d1, d2] => { results := [.lit (.bool true)], args := [d1, d2] }
  | _ => none }
def fnExactBlocksValidRow : OpenClaim := { program := "ytnbanheipmginaa", sum := "c1235e19b0a9f3c73913a79469ee200d70b59fc1f4c1aaabda5071af6ba80941", func := "loop.example/wholecheck/laws.FnExactBlocksValid", spec := "fnExactBlocksValid", unfollowed := true, recurses := true, plainKeys := false, apart := false }
def FnExactBlocksValidSaid : Prop := fnExactBlocksValidRow.holds Try.pinned (OpenSpec.ofChange fnExactBlocksValidSpec)

/-- ITS FALSE NEIGHBOUR: 'it returns false'. Refute it at one input. -/
def fnExactBlocksValidWrong : ChangeSpec := { name := "fnExactBlocksValid", fn := fun _ => fun
  | [d1, d2] => { results := [.lit (.bool false)], args := [d1, d2] }
  | _ => none }
def FnExactBlocksValidWrongFalsely : Prop := fnExactBlocksValidRow.holds Try.pinned (OpenSpec.ofChange fnExactBlocksValidWrong)

/-- 'laws.FnExactSplitBlocks': WHATEVER THE INPUT: true; the input reads as it did. -/
def fnExactSplitBlocksSpec : ChangeSpec := { name := "fnExactSplitBlocks", fn := fun _ => fun
  | [d1, d2, d3] => { results := [.lit (.bool true)], args := [d1, d2, d3] }
  | _ => none }
def fnExactSplitBlocksRow : OpenClaim := { program := "ytnbanheipmginaa", sum := "c1235e19b0a9f3c73913a79469ee200d70b59fc1f4c1aaabda5071af6ba80941", func := "loop.example/wholecheck/laws.FnExactSplitBlocks", spec := "fnExactSplitBlocks", unfollowed := true, recurses := true, plainKeys := false, apart := false }
def FnExactSplitBlocksSaid : Prop := fnExactSplitBlocksRow.holds Try.pinned (OpenSpec.ofChange fnExactSplitBlocksSpec)

/-- ITS FALSE NEIGHBOUR: 'it returns false'. Refute it at one input. -/
def fnExactSplitBlocksWrong : ChangeSpec := { name := "fnExactSplitBlocks", fn := fun _ => fun
  | [d1, d2, d3] => { results := [.lit (.bool false)], args := [d1, d2, d3] }
  | _ => none }
def FnExactSplitBlocksWrongFalsely : Prop := fnExactSplitBlocksRow.holds Try.pinned (OpenSpec.ofChange fnExactSplitBlocksWrong)

/-- 'laws.FnExactBlocksBy': WHATEVER THE INPUT: true; the input reads as it did. -/
def fnExactBlocksBySpec : ChangeSpec := { name := "fnExactBlocksBy", fn := fun _ => fun
  | [d1, d2] => { results := [.lit (.bool true)], args := [d1, d2] }
  | _ => none }
def fnExactBlocksByRow : OpenClaim := { program := "ytnbanheipmginaa", sum := "c1235e19b0a9f3c73913a79469ee200d70b59fc1f4c1aaabda5071af6ba80941", func := "loop.example/wholecheck/laws.FnExactBlocksBy", spec := "fnExactBlocksBy", unfollowed := true, recurses := true, plainKeys := false, apart := false }
def FnExactBlocksBySaid : Prop := fnExactBlocksByRow.holds Try.pinned (OpenSpec.ofChange fnExactBlocksBySpec)

/-- ITS FALSE NEIGHBOUR: 'it returns false'. Refute it at one input. -/
def fnExactBlocksByWrong : ChangeSpec := { name := "fnExactBlocksBy", fn := fun _ => fun
  | [d1, d2] => { results := [.lit (.bool false)], args := [d1, d2] }
  | _ => none }
def FnExactBlocksByWrongFalsely : Prop := fnExactBlocksByRow.holds Try.pinned (OpenSpec.ofChange fnExactBlocksByWrong)

/- THE SECOND FORM. 'bulk': how many values and letters a reading holds, each counted each time it is reached (what is shared counts as often as it is met; a slice's spare places count too). A statement '..UptoSaid' is the law's where the arguments, and the package variables that the reading takes, are together of bulk at most 1048576: NARROWER than '..Said'. Prove '..Said' where nothing that the law and all that it calls make is longer than what came in: it says more and counts as full. Else prove '..UptoSaid'. A law counts once. -/
mutual
def uptoBulk {H : Type} : DataW H → Nat
  | .lit (.string bytes) => bytes.length + 1
  | .lit _ => 1
  | .nil => 1
  | .ptr d => uptoBulk d + 1
  | .slice elems spare => uptoBulkAll elems + uptoBulkAll spare + 1
  | .agg parts => uptoBulkAll parts + 1
  | .iface _ d => uptoBulk d + 1
  | .map entries => uptoBulkEntries entries + 1
  | .held _ => 1
def uptoBulkAll {H : Type} : List (DataW H) → Nat
  | [] => 0
  | d :: r => uptoBulk d + uptoBulkAll r
def uptoBulkEntries {H : Type} : List (Lit × DataW H) → Nat
  | [] => 0
  | x :: r => uptoBulkEntry x + uptoBulkEntries r
def uptoBulkEntry {H : Type} : Lit × DataW H → Nat
  | (.string bytes, d) => bytes.length + uptoBulk d + 1
  | (_, d) => uptoBulk d + 1
 end
def uptoSmall : (H : Type) → List (DataW H) → Bool := fun _ ds => decide (uptoBulkAll ds ≤ 1048576)
def OpenSpec.upto (s : _root_.Go.ChangeSpec) : _root_.Go.OpenSpec := { _root_.Go.OpenSpec.ofChange s with cond := some uptoSmall }

/-- 'laws.FnExactExchanged', WHERE WHAT IT READS IS OF BULK AT MOST 1048576: true; the input reads as it did. -/
def fnExactExchangedUptoRow : OpenClaim := { program := "ytnbanheipmginaa", sum := "c1235e19b0a9f3c73913a79469ee200d70b59fc1f4c1aaabda5071af6ba80941", func := "loop.example/wholecheck/laws.FnExactExchanged", spec := "fnExactExchanged", plainKeys := false, apart := false, narrowed := true }
def FnExactExchangedUptoSaid : Prop := fnExactExchangedUptoRow.holds Try.pinned (OpenSpec.upto fnExactExchangedSpec)

/-- 'laws.FnExactOrderWith', WHERE WHAT IT READS IS OF BULK AT MOST 1048576: true; the input reads as it did. -/
def fnExactOrderWithUptoRow : OpenClaim := { program := "ytnbanheipmginaa", sum := "c1235e19b0a9f3c73913a79469ee200d70b59fc1f4c1aaabda5071af6ba80941", func := "loop.example/wholecheck/laws.FnExactOrderWith", spec := "fnExactOrderWith", plainKeys := false, apart := false, narrowed := true }
def FnExactOrderWithUptoSaid : Prop := fnExactOrderWithUptoRow.holds Try.pinned (OpenSpec.upto fnExactOrderWithSpec)

/-- 'laws.FnExchanged', WHERE WHAT IT READS IS OF BULK AT MOST 1048576: true; the input reads as it did. -/
def fnExchangedUptoRow : OpenClaim := { program := "ytnbanheipmginaa", sum := "c1235e19b0a9f3c73913a79469ee200d70b59fc1f4c1aaabda5071af6ba80941", func := "loop.example/wholecheck/laws.FnExchanged", spec := "fnExchanged", plainKeys := false, apart := false, narrowed := true }
def FnExchangedUptoSaid : Prop := fnExchangedUptoRow.holds Try.pinned (OpenSpec.upto fnExchangedSpec)

/-- 'laws.FnExactBlocksValid', WHERE WHAT IT READS IS OF BULK AT MOST 1048576: true; the input reads as it did. -/
def fnExactBlocksValidUptoRow : OpenClaim := { program := "ytnbanheipmginaa", sum := "c1235e19b0a9f3c73913a79469ee200d70b59fc1f4c1aaabda5071af6ba80941", func := "loop.example/wholecheck/laws.FnExactBlocksValid", spec := "fnExactBlocksValid", unfollowed := true, recurses := true, plainKeys := false, apart := false, narrowed := true }
def FnExactBlocksValidUptoSaid : Prop := fnExactBlocksValidUptoRow.holds Try.pinned (OpenSpec.upto fnExactBlocksValidSpec)

/-- 'laws.FnExactSplitBlocks', WHERE WHAT IT READS IS OF BULK AT MOST 1048576: true; the input reads as it did. -/
def fnExactSplitBlocksUptoRow : OpenClaim := { program := "ytnbanheipmginaa", sum := "c1235e19b0a9f3c73913a79469ee200d70b59fc1f4c1aaabda5071af6ba80941", func := "loop.example/wholecheck/laws.FnExactSplitBlocks", spec := "fnExactSplitBlocks", unfollowed := true, recurses := true, plainKeys := false, apart := false, narrowed := true }
def FnExactSplitBlocksUptoSaid : Prop := fnExactSplitBlocksUptoRow.holds Try.pinned (OpenSpec.upto fnExactSplitBlocksSpec)

/-- 'laws.FnExactBlocksBy', WHERE WHAT IT READS IS OF BULK AT MOST 1048576: true; the input reads as it did. -/
def fnExactBlocksByUptoRow : OpenClaim := { program := "ytnbanheipmginaa", sum := "c1235e19b0a9f3c73913a79469ee200d70b59fc1f4c1aaabda5071af6ba80941", func := "loop.example/wholecheck/laws.FnExactBlocksBy", spec := "fnExactBlocksBy", unfollowed := true, recurses := true, plainKeys := false, apart := false, narrowed := true }
def FnExactBlocksByUptoSaid : Prop := fnExactBlocksByUptoRow.holds Try.pinned (OpenSpec.upto fnExactBlocksBySpec)

end Rows
end Go.Proofs.Ytnbanheipmginaa
