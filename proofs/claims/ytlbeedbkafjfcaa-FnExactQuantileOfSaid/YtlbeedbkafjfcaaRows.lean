/-
  No cell of these rows narrows 'for every input' (looked for: loops, veiled, ifaces, maps, wideKeys, modest, calm, conditions, laid).
  DERIVED. THE GIVEN ROWS OF THIS SEAT. 10 by the template 'for every input the law returns true; each argument reads behind the call as it read before'; 0 by the template 'total and deterministic' (their statements: YtlbeedbkafjfcaaTotals.lean).
  GIVEN WITH THE SEED: the statements are not yours to turn. If you find one false, say at which input.
  Laid BY PROGRAM, IN A SANDBOX (cutbox-rows.mjs): the forced cells as the released guide's own fill.sh prints them over the translation 2f56b2a153dd6e69… (all of the seat's roots in one cut). By AI agents, Wed Nov 11 2026. No macro, syntax, notation, axiom, sorry.
-/
import Derived.Test.YtlbeedbkafjfcaaChecked
import GoSem.Claim
import GoSem.ClaimJoined
import GoSem.ClaimMapViews
import Derived.JoinedTies
import Derived.KernelRfl
namespace Go.Proofs.Ytlbeedbkafjfcaa
/- THE CELL 'sum', in the pinned program and in every row, IS THE sha256 OF THE DUMP (.gsa) THAT YtlbeedbkafjfcaaProg.lean LOADS. Nothing in Lean hashes anything: it is a label: what it is worth is what the hold of that sum in a sandbox is worth. -/
noncomputable def Try.pinned : Pinned := { name := "ytlbeedbkafjfcaa", sum := "2f56b2a153dd6e69383306d2493c84544810e46f69cabbee81d4e1b7555134e8", checked := Try.checked }
namespace Rows
def none {H : Type} : Left H := { results := [], args := [] }

/-- 'laws.FnExactSumOf': WHATEVER THE INPUT: true; the input reads as it did. -/
def fnExactSumOfSpec : ChangeSpec := { name := "fnExactSumOf", fn := fun _ => fun
  | [d] => { results := [.lit (.bool true)], args := [d] }
  | _ => none }
def fnExactSumOfRow : OpenClaim := { program := "ytlbeedbkafjfcaa", sum := "2f56b2a153dd6e69383306d2493c84544810e46f69cabbee81d4e1b7555134e8", func := "loop.example/g00838/laws.FnExactSumOf", spec := "fnExactSumOf", apart := false }
def FnExactSumOfSaid : Prop := fnExactSumOfRow.holds Try.pinned (OpenSpec.ofChange fnExactSumOfSpec)

/-- ITS FALSE NEIGHBOUR: 'it returns false'. Refute it at one input. -/
def fnExactSumOfWrong : ChangeSpec := { name := "fnExactSumOf", fn := fun _ => fun
  | [d] => { results := [.lit (.bool false)], args := [d] }
  | _ => none }
def FnExactSumOfWrongFalsely : Prop := fnExactSumOfRow.holds Try.pinned (OpenSpec.ofChange fnExactSumOfWrong)

/-- 'laws.FnExactLeastServed': WHATEVER THE INPUT: true; the input reads as it did. -/
def fnExactLeastServedSpec : ChangeSpec := { name := "fnExactLeastServed", fn := fun _ => fun
  | [d1, d2] => { results := [.lit (.bool true)], args := [d1, d2] }
  | _ => none }
def fnExactLeastServedRow : OpenClaim := { program := "ytlbeedbkafjfcaa", sum := "2f56b2a153dd6e69383306d2493c84544810e46f69cabbee81d4e1b7555134e8", func := "loop.example/g00838/laws.FnExactLeastServed", spec := "fnExactLeastServed", apart := false }
def FnExactLeastServedSaid : Prop := fnExactLeastServedRow.holds Try.pinned (OpenSpec.ofChange fnExactLeastServedSpec)

/-- ITS FALSE NEIGHBOUR: 'it returns false'. Refute it at one input. -/
def fnExactLeastServedWrong : ChangeSpec := { name := "fnExactLeastServed", fn := fun _ => fun
  | [d1, d2] => { results := [.lit (.bool false)], args := [d1, d2] }
  | _ => none }
def FnExactLeastServedWrongFalsely : Prop := fnExactLeastServedRow.holds Try.pinned (OpenSpec.ofChange fnExactLeastServedWrong)

/-- 'laws.FnExactSpreadOf': WHATEVER THE INPUT: true; the input reads as it did. -/
def fnExactSpreadOfSpec : ChangeSpec := { name := "fnExactSpreadOf", fn := fun _ => fun
  | [d] => { results := [.lit (.bool true)], args := [d] }
  | _ => none }
def fnExactSpreadOfRow : OpenClaim := { program := "ytlbeedbkafjfcaa", sum := "2f56b2a153dd6e69383306d2493c84544810e46f69cabbee81d4e1b7555134e8", func := "loop.example/g00838/laws.FnExactSpreadOf", spec := "fnExactSpreadOf", apart := false }
def FnExactSpreadOfSaid : Prop := fnExactSpreadOfRow.holds Try.pinned (OpenSpec.ofChange fnExactSpreadOfSpec)

/-- ITS FALSE NEIGHBOUR: 'it returns false'. Refute it at one input. -/
def fnExactSpreadOfWrong : ChangeSpec := { name := "fnExactSpreadOf", fn := fun _ => fun
  | [d] => { results := [.lit (.bool false)], args := [d] }
  | _ => none }
def FnExactSpreadOfWrongFalsely : Prop := fnExactSpreadOfRow.holds Try.pinned (OpenSpec.ofChange fnExactSpreadOfWrong)

/-- 'laws.FnExactMeanOf': WHATEVER THE INPUT: true; the input reads as it did. -/
def fnExactMeanOfSpec : ChangeSpec := { name := "fnExactMeanOf", fn := fun _ => fun
  | [d] => { results := [.lit (.bool true)], args := [d] }
  | _ => none }
def fnExactMeanOfRow : OpenClaim := { program := "ytlbeedbkafjfcaa", sum := "2f56b2a153dd6e69383306d2493c84544810e46f69cabbee81d4e1b7555134e8", func := "loop.example/g00838/laws.FnExactMeanOf", spec := "fnExactMeanOf", apart := false }
def FnExactMeanOfSaid : Prop := fnExactMeanOfRow.holds Try.pinned (OpenSpec.ofChange fnExactMeanOfSpec)

/-- ITS FALSE NEIGHBOUR: 'it returns false'. Refute it at one input. -/
def fnExactMeanOfWrong : ChangeSpec := { name := "fnExactMeanOf", fn := fun _ => fun
  | [d] => { results := [.lit (.bool false)], args := [d] }
  | _ => none }
def FnExactMeanOfWrongFalsely : Prop := fnExactMeanOfRow.holds Try.pinned (OpenSpec.ofChange fnExactMeanOfWrong)

/-- 'laws.FnExactShareOf': WHATEVER THE INPUT: true; the input reads as it did. -/
def fnExactShareOfSpec : ChangeSpec := { name := "fnExactShareOf", fn := fun _ => fun
  | [d1, d2] => { results := [.lit (.bool true)], args := [d1, d2] }
  | _ => none }
def fnExactShareOfRow : OpenClaim := { program := "ytlbeedbkafjfcaa", sum := "2f56b2a153dd6e69383306d2493c84544810e46f69cabbee81d4e1b7555134e8", func := "loop.example/g00838/laws.FnExactShareOf", spec := "fnExactShareOf", apart := false }
def FnExactShareOfSaid : Prop := fnExactShareOfRow.holds Try.pinned (OpenSpec.ofChange fnExactShareOfSpec)

/-- ITS FALSE NEIGHBOUR: 'it returns false'. Refute it at one input. -/
def fnExactShareOfWrong : ChangeSpec := { name := "fnExactShareOf", fn := fun _ => fun
  | [d1, d2] => { results := [.lit (.bool false)], args := [d1, d2] }
  | _ => none }
def FnExactShareOfWrongFalsely : Prop := fnExactShareOfRow.holds Try.pinned (OpenSpec.ofChange fnExactShareOfWrong)

/-- 'laws.FnExactIsFairShare': WHATEVER THE INPUT: true; the input reads as it did. -/
def fnExactIsFairShareSpec : ChangeSpec := { name := "fnExactIsFairShare", fn := fun _ => fun
  | [d1, d2, d3] => { results := [.lit (.bool true)], args := [d1, d2, d3] }
  | _ => none }
def fnExactIsFairShareRow : OpenClaim := { program := "ytlbeedbkafjfcaa", sum := "2f56b2a153dd6e69383306d2493c84544810e46f69cabbee81d4e1b7555134e8", func := "loop.example/g00838/laws.FnExactIsFairShare", spec := "fnExactIsFairShare", apart := false }
def FnExactIsFairShareSaid : Prop := fnExactIsFairShareRow.holds Try.pinned (OpenSpec.ofChange fnExactIsFairShareSpec)

/-- ITS FALSE NEIGHBOUR: 'it returns false'. Refute it at one input. -/
def fnExactIsFairShareWrong : ChangeSpec := { name := "fnExactIsFairShare", fn := fun _ => fun
  | [d1, d2, d3] => { results := [.lit (.bool false)], args := [d1, d2, d3] }
  | _ => none }
def FnExactIsFairShareWrongFalsely : Prop := fnExactIsFairShareRow.holds Try.pinned (OpenSpec.ofChange fnExactIsFairShareWrong)

/-- 'laws.FnExactFairnessOf': WHATEVER THE INPUT: true; the input reads as it did. -/
def fnExactFairnessOfSpec : ChangeSpec := { name := "fnExactFairnessOf", fn := fun _ => fun
  | [d] => { results := [.lit (.bool true)], args := [d] }
  | _ => none }
def fnExactFairnessOfRow : OpenClaim := { program := "ytlbeedbkafjfcaa", sum := "2f56b2a153dd6e69383306d2493c84544810e46f69cabbee81d4e1b7555134e8", func := "loop.example/g00838/laws.FnExactFairnessOf", spec := "fnExactFairnessOf", apart := false }
def FnExactFairnessOfSaid : Prop := fnExactFairnessOfRow.holds Try.pinned (OpenSpec.ofChange fnExactFairnessOfSpec)

/-- ITS FALSE NEIGHBOUR: 'it returns false'. Refute it at one input. -/
def fnExactFairnessOfWrong : ChangeSpec := { name := "fnExactFairnessOf", fn := fun _ => fun
  | [d] => { results := [.lit (.bool false)], args := [d] }
  | _ => none }
def FnExactFairnessOfWrongFalsely : Prop := fnExactFairnessOfRow.holds Try.pinned (OpenSpec.ofChange fnExactFairnessOfWrong)

/-- 'laws.FnExactWeightedShares': WHATEVER THE INPUT: true; the input reads as it did. -/
def fnExactWeightedSharesSpec : ChangeSpec := { name := "fnExactWeightedShares", fn := fun _ => fun
  | [d1, d2, d3] => { results := [.lit (.bool true)], args := [d1, d2, d3] }
  | _ => none }
def fnExactWeightedSharesRow : OpenClaim := { program := "ytlbeedbkafjfcaa", sum := "2f56b2a153dd6e69383306d2493c84544810e46f69cabbee81d4e1b7555134e8", func := "loop.example/g00838/laws.FnExactWeightedShares", spec := "fnExactWeightedShares", apart := false }
def FnExactWeightedSharesSaid : Prop := fnExactWeightedSharesRow.holds Try.pinned (OpenSpec.ofChange fnExactWeightedSharesSpec)

/-- ITS FALSE NEIGHBOUR: 'it returns false'. Refute it at one input. -/
def fnExactWeightedSharesWrong : ChangeSpec := { name := "fnExactWeightedShares", fn := fun _ => fun
  | [d1, d2, d3] => { results := [.lit (.bool false)], args := [d1, d2, d3] }
  | _ => none }
def FnExactWeightedSharesWrongFalsely : Prop := fnExactWeightedSharesRow.holds Try.pinned (OpenSpec.ofChange fnExactWeightedSharesWrong)

/-- 'laws.FnExactFairShares': WHATEVER THE INPUT: true; the input reads as it did. -/
def fnExactFairSharesSpec : ChangeSpec := { name := "fnExactFairShares", fn := fun _ => fun
  | [d1, d2] => { results := [.lit (.bool true)], args := [d1, d2] }
  | _ => none }
def fnExactFairSharesRow : OpenClaim := { program := "ytlbeedbkafjfcaa", sum := "2f56b2a153dd6e69383306d2493c84544810e46f69cabbee81d4e1b7555134e8", func := "loop.example/g00838/laws.FnExactFairShares", spec := "fnExactFairShares", unfollowed := true, recurses := true, apart := false }
def FnExactFairSharesSaid : Prop := fnExactFairSharesRow.holds Try.pinned (OpenSpec.ofChange fnExactFairSharesSpec)

/-- ITS FALSE NEIGHBOUR: 'it returns false'. Refute it at one input. -/
def fnExactFairSharesWrong : ChangeSpec := { name := "fnExactFairShares", fn := fun _ => fun
  | [d1, d2] => { results := [.lit (.bool false)], args := [d1, d2] }
  | _ => none }
def FnExactFairSharesWrongFalsely : Prop := fnExactFairSharesRow.holds Try.pinned (OpenSpec.ofChange fnExactFairSharesWrong)

/-- 'laws.FnExactQuantileOf': WHATEVER THE INPUT: true; the input reads as it did. -/
def fnExactQuantileOfSpec : ChangeSpec := { name := "fnExactQuantileOf", fn := fun _ => fun
  | [d1, d2, d3] => { results := [.lit (.bool true)], args := [d1, d2, d3] }
  | _ => none }
def fnExactQuantileOfRow : OpenClaim := { program := "ytlbeedbkafjfcaa", sum := "2f56b2a153dd6e69383306d2493c84544810e46f69cabbee81d4e1b7555134e8", func := "loop.example/g00838/laws.FnExactQuantileOf", spec := "fnExactQuantileOf", recurses := true, apart := false }
def FnExactQuantileOfSaid : Prop := fnExactQuantileOfRow.holds Try.pinned (OpenSpec.ofChange fnExactQuantileOfSpec)

/-- ITS FALSE NEIGHBOUR: 'it returns false'. Refute it at one input. -/
def fnExactQuantileOfWrong : ChangeSpec := { name := "fnExactQuantileOf", fn := fun _ => fun
  | [d1, d2, d3] => { results := [.lit (.bool false)], args := [d1, d2, d3] }
  | _ => none }
def FnExactQuantileOfWrongFalsely : Prop := fnExactQuantileOfRow.holds Try.pinned (OpenSpec.ofChange fnExactQuantileOfWrong)

/- THE SECOND FORM. 'bulk': how many values and letters a reading holds, each counted each time it is reached (what is shared counts as often as it is met; a slice's spare places count too). A statement '..UptoSaid' is the law's where the arguments, and the package variables that the reading takes, are together of bulk at most 1048576: NARROWER than '..Said'. Prove '..Said' where nothing that the law and all that it calls make is longer than what came in: it says more and counts as full. Else prove '..UptoSaid'. A law counts once. -/
mutual
def uptoBulk {H : Type} : DataW H → Nat
  | .lit (.string bytes) => bytes.length + 1
  | .lit _ => 1
  | .nil => 1
  | .ptr d => uptoBulk d + 1
  | .slice elems spare => uptoBulkAll elems + uptoBulkAll spare + 1
  | .agg parts => uptoBulkAll parts + 1
  | .iface _ d => uptoBulk d + 1
  | .map entries => uptoBulkEntries entries + 1
  | .held _ => 1
def uptoBulkAll {H : Type} : List (DataW H) → Nat
  | [] => 0
  | d :: r => uptoBulk d + uptoBulkAll r
def uptoBulkEntries {H : Type} : List (Lit × DataW H) → Nat
  | [] => 0
  | x :: r => uptoBulkEntry x + uptoBulkEntries r
def uptoBulkEntry {H : Type} : Lit × DataW H → Nat
  | (.string bytes, d) => bytes.length + uptoBulk d + 1
  | (_, d) => uptoBulk d + 1
 end
def uptoSmall : (H : Type) → List (DataW H) → Bool := fun _ ds => decide (uptoBulkAll ds ≤ 1048576)
def OpenSpec.upto (s : _root_.Go.ChangeSpec) : _root_.Go.OpenSpec := { _root_.Go.OpenSpec.ofChange s with cond := some uptoSmall }

/-- 'laws.FnExactSumOf', WHERE WHAT IT READS IS OF BULK AT MOST 1048576: true; the input reads as it did. -/
def fnExactSumOfUptoRow : OpenClaim := { program := "ytlbeedbkafjfcaa", sum := "2f56b2a153dd6e69383306d2493c84544810e46f69cabbee81d4e1b7555134e8", func := "loop.example/g00838/laws.FnExactSumOf", spec := "fnExactSumOf", apart := false, narrowed := true }
def FnExactSumOfUptoSaid : Prop := fnExactSumOfUptoRow.holds Try.pinned (OpenSpec.upto fnExactSumOfSpec)

/-- 'laws.FnExactLeastServed', WHERE WHAT IT READS IS OF BULK AT MOST 1048576: true; the input reads as it did. -/
def fnExactLeastServedUptoRow : OpenClaim := { program := "ytlbeedbkafjfcaa", sum := "2f56b2a153dd6e69383306d2493c84544810e46f69cabbee81d4e1b7555134e8", func := "loop.example/g00838/laws.FnExactLeastServed", spec := "fnExactLeastServed", apart := false, narrowed := true }
def FnExactLeastServedUptoSaid : Prop := fnExactLeastServedUptoRow.holds Try.pinned (OpenSpec.upto fnExactLeastServedSpec)

/-- 'laws.FnExactSpreadOf', WHERE WHAT IT READS IS OF BULK AT MOST 1048576: true; the input reads as it did. -/
def fnExactSpreadOfUptoRow : OpenClaim := { program := "ytlbeedbkafjfcaa", sum := "2f56b2a153dd6e69383306d2493c84544810e46f69cabbee81d4e1b7555134e8", func := "loop.example/g00838/laws.FnExactSpreadOf", spec := "fnExactSpreadOf", apart := false, narrowed := true }
def FnExactSpreadOfUptoSaid : Prop := fnExactSpreadOfUptoRow.holds Try.pinned (OpenSpec.upto fnExactSpreadOfSpec)

/-- 'laws.FnExactMeanOf', WHERE WHAT IT READS IS OF BULK AT MOST 1048576: true; the input reads as it did. -/
def fnExactMeanOfUptoRow : OpenClaim := { program := "ytlbeedbkafjfcaa", sum := "2f56b2a153dd6e69383306d2493c84544810e46f69cabbee81d4e1b7555134e8", func := "loop.example/g00838/laws.FnExactMeanOf", spec := "fnExactMeanOf", apart := false, narrowed := true }
def FnExactMeanOfUptoSaid : Prop := fnExactMeanOfUptoRow.holds Try.pinned (OpenSpec.upto fnExactMeanOfSpec)

/-- 'laws.FnExactShareOf', WHERE WHAT IT READS IS OF BULK AT MOST 1048576: true; the input reads as it did. -/
def fnExactShareOfUptoRow : OpenClaim := { program := "ytlbeedbkafjfcaa", sum := "2f56b2a153dd6e69383306d2493c84544810e46f69cabbee81d4e1b7555134e8", func := "loop.example/g00838/laws.FnExactShareOf", spec := "fnExactShareOf", apart := false, narrowed := true }
def FnExactShareOfUptoSaid : Prop := fnExactShareOfUptoRow.holds Try.pinned (OpenSpec.upto fnExactShareOfSpec)

/-- 'laws.FnExactIsFairShare', WHERE WHAT IT READS IS OF BULK AT MOST 1048576: true; the input reads as it did. -/
def fnExactIsFairShareUptoRow : OpenClaim := { program := "ytlbeedbkafjfcaa", sum := "2f56b2a153dd6e69383306d2493c84544810e46f69cabbee81d4e1b7555134e8", func := "loop.example/g00838/laws.FnExactIsFairShare", spec := "fnExactIsFairShare", apart := false, narrowed := true }
def FnExactIsFairShareUptoSaid : Prop := fnExactIsFairShareUptoRow.holds Try.pinned (OpenSpec.upto fnExactIsFairShareSpec)

/-- 'laws.FnExactFairnessOf', WHERE WHAT IT READS IS OF BULK AT MOST 1048576: true; the input reads as it did. -/
def fnExactFairnessOfUptoRow : OpenClaim := { program := "ytlbeedbkafjfcaa", sum := "2f56b2a153dd6e69383306d2493c84544810e46f69cabbee81d4e1b7555134e8", func := "loop.example/g00838/laws.FnExactFairnessOf", spec := "fnExactFairnessOf", apart := false, narrowed := true }
def FnExactFairnessOfUptoSaid : Prop := fnExactFairnessOfUptoRow.holds Try.pinned (OpenSpec.upto fnExactFairnessOfSpec)

/-- 'laws.FnExactWeightedShares', WHERE WHAT IT READS IS OF BULK AT MOST 1048576: true; the input reads as it did. -/
def fnExactWeightedSharesUptoRow : OpenClaim := { program := "ytlbeedbkafjfcaa", sum := "2f56b2a153dd6e69383306d2493c84544810e46f69cabbee81d4e1b7555134e8", func := "loop.example/g00838/laws.FnExactWeightedShares", spec := "fnExactWeightedShares", apart := false, narrowed := true }
def FnExactWeightedSharesUptoSaid : Prop := fnExactWeightedSharesUptoRow.holds Try.pinned (OpenSpec.upto fnExactWeightedSharesSpec)

/-- 'laws.FnExactFairShares', WHERE WHAT IT READS IS OF BULK AT MOST 1048576: true; the input reads as it did. -/
def fnExactFairSharesUptoRow : OpenClaim := { program := "ytlbeedbkafjfcaa", sum := "2f56b2a153dd6e69383306d2493c84544810e46f69cabbee81d4e1b7555134e8", func := "loop.example/g00838/laws.FnExactFairShares", spec := "fnExactFairShares", unfollowed := true, recurses := true, apart := false, narrowed := true }
def FnExactFairSharesUptoSaid : Prop := fnExactFairSharesUptoRow.holds Try.pinned (OpenSpec.upto fnExactFairSharesSpec)

/-- 'laws.FnExactQuantileOf', WHERE WHAT IT READS IS OF BULK AT MOST 1048576: true; the input reads as it did. -/
def fnExactQuantileOfUptoRow : OpenClaim := { program := "ytlbeedbkafjfcaa", sum := "2f56b2a153dd6e69383306d2493c84544810e46f69cabbee81d4e1b7555134e8", func := "loop.example/g00838/laws.FnExactQuantileOf", spec := "fnExactQuantileOf", recurses := true, apart := false, narrowed := true }
def FnExactQuantileOfUptoSaid : Prop := fnExactQuantileOfUptoRow.holds Try.pinned (OpenSpec.upto fnExactQuantileOfSpec)

end Rows
end Go.Proofs.Ytlbeedbkafjfcaa
