/-
  NARROWER THAN 'FOR EVERY INPUT', by the rows' own cells (each row's printed sentence says how): FnExactKeptClasses: laid · FnExactCeilsHold: laid · FnExactFirstExcess: laid · FnExactDiffConfigs: laid · FnExactApplyChange: laid · FnExactAccountBelow: laid.
  DERIVED. THE GIVEN ROWS OF THIS SEAT. 6 by the template 'for every input the law returns true; each argument reads behind the call as it read before'; 0 by the template 'total and deterministic' (their statements: YtglbimhhiikkpaaDoorTotals.lean).
  GIVEN WITH THE SEED: the statements are not yours to turn. If you find one false, say at which input.
  Laid BY PROGRAM, IN A SANDBOX (cutbox-rows.mjs): the forced cells as the released guide's own fill.sh prints them over the translation 298e6d8536db6383… (all of the seat's roots in one cut). By AI agents, Wed Nov 11 2026. No macro, syntax, notation, axiom, sorry.
-/
import Derived.Test.YtglbimhhiikkpaaDoorChecked
import GoSem.Claim
import GoSem.ClaimJoined
import GoSem.ClaimMapViews
import Derived.JoinedTies
import Derived.KernelRfl
namespace Go.Proofs.YtglbimhhiikkpaaDoor
/- THE CELL 'sum', in the pinned program and in every row, IS THE sha256 OF THE DUMP (.gsa) THAT YtglbimhhiikkpaaDoorProg.lean LOADS. Nothing in Lean hashes anything: it is a label: what it is worth is what the hold of that sum in a sandbox is worth. -/
noncomputable def Tryd.pinned : Pinned := { name := "ytglbimhhiikkpaadoor", sum := "298e6d8536db63831e7daac9c26ebfa0af3521f9df94cfe42336e153952714ab", checked := Tryd.checked }
namespace Rows
def none {H : Type} : Left H := { results := [], args := [] }

/- WHAT THE LISTED PACKAGE-LEVEL VARIABLES READ AS WHEN THE CALL BEGINS. Each datum BY PROGRAM (the guide's laid-datum.mjs) off the statement by which the dump's own 'gosem.cut.vars' lays the variable. In a bare row this is a premise. The card (YtglbimhhiikkpaaDoorCards.lean) ties it to the program's text. -/
def laid_loop_example_g00838_impl_keyWords {H : Type} : DataW H := .agg [.lit (.string [113, 100, 105, 115, 99]), .lit (.string [100, 101, 102, 97, 117, 108, 116]), .lit (.string [99, 108, 97, 115, 115]), .lit (.string [114, 97, 116, 101]), .lit (.string [99, 101, 105, 108]), .lit (.string [98, 117, 114, 115, 116]), .lit (.string [99, 98, 117, 114, 115, 116]), .lit (.string [112, 114, 105, 111]), .lit (.string [108, 105, 109, 105, 116]), .lit (.string [102, 105, 108, 116, 101, 114]), .lit (.string [115, 111, 117, 114, 99, 101]), .lit (.string [100, 101, 115, 116]), .lit (.string [112, 111, 114, 116]), .lit (.string [109, 97, 114, 107])]

/-- 'laws.FnExactKeptClasses': WHATEVER THE INPUT: true; the input reads as it did. -/
def fnExactKeptClassesSpec : ChangeSpec := { name := "fnExactKeptClasses", vars := ["loop.example/g00838/impl.keyWords"], fn := fun _ => fun
  | [d1, d2, g1] => { results := [.lit (.bool true)], args := [d1, d2], vars := [g1] }
  | _ => none }
def fnExactKeptClassesRow : OpenClaim := { program := "ytglbimhhiikkpaadoor", sum := "298e6d8536db63831e7daac9c26ebfa0af3521f9df94cfe42336e153952714ab", func := "loop.example/g00838/laws.FnExactKeptClasses", spec := "fnExactKeptClasses", unfollowed := true, recurses := true, named := ["loop.example/g00838/impl.keyWords"], apart := false, laid := [("loop.example/g00838/impl.keyWords", laid_loop_example_g00838_impl_keyWords)] }
def FnExactKeptClassesSaid : Prop := fnExactKeptClassesRow.holds Tryd.pinned (OpenSpec.ofChange fnExactKeptClassesSpec)

/-- ITS FALSE NEIGHBOUR: 'it returns false'. Refute it at one input. -/
def fnExactKeptClassesWrong : ChangeSpec := { name := "fnExactKeptClasses", vars := ["loop.example/g00838/impl.keyWords"], fn := fun _ => fun
  | [d1, d2, g1] => { results := [.lit (.bool false)], args := [d1, d2], vars := [g1] }
  | _ => none }
def FnExactKeptClassesWrongFalsely : Prop := fnExactKeptClassesRow.holds Tryd.pinned (OpenSpec.ofChange fnExactKeptClassesWrong)

/-- 'laws.FnExactCeilsHold': WHATEVER THE INPUT: true; the input reads as it did. -/
def fnExactCeilsHoldSpec : ChangeSpec := { name := "fnExactCeilsHold", vars := ["loop.example/g00838/impl.keyWords"], fn := fun _ => fun
  | [d1, d2, g1] => { results := [.lit (.bool true)], args := [d1, d2], vars := [g1] }
  | _ => none }
def fnExactCeilsHoldRow : OpenClaim := { program := "ytglbimhhiikkpaadoor", sum := "298e6d8536db63831e7daac9c26ebfa0af3521f9df94cfe42336e153952714ab", func := "loop.example/g00838/laws.FnExactCeilsHold", spec := "fnExactCeilsHold", unfollowed := true, recurses := true, named := ["loop.example/g00838/impl.keyWords"], apart := false, laid := [("loop.example/g00838/impl.keyWords", laid_loop_example_g00838_impl_keyWords)] }
def FnExactCeilsHoldSaid : Prop := fnExactCeilsHoldRow.holds Tryd.pinned (OpenSpec.ofChange fnExactCeilsHoldSpec)

/-- ITS FALSE NEIGHBOUR: 'it returns false'. Refute it at one input. -/
def fnExactCeilsHoldWrong : ChangeSpec := { name := "fnExactCeilsHold", vars := ["loop.example/g00838/impl.keyWords"], fn := fun _ => fun
  | [d1, d2, g1] => { results := [.lit (.bool false)], args := [d1, d2], vars := [g1] }
  | _ => none }
def FnExactCeilsHoldWrongFalsely : Prop := fnExactCeilsHoldRow.holds Tryd.pinned (OpenSpec.ofChange fnExactCeilsHoldWrong)

/-- 'laws.FnExactFirstExcess': WHATEVER THE INPUT: true; the input reads as it did. -/
def fnExactFirstExcessSpec : ChangeSpec := { name := "fnExactFirstExcess", vars := ["loop.example/g00838/impl.keyWords"], fn := fun _ => fun
  | [d1, d2, g1] => { results := [.lit (.bool true)], args := [d1, d2], vars := [g1] }
  | _ => none }
def fnExactFirstExcessRow : OpenClaim := { program := "ytglbimhhiikkpaadoor", sum := "298e6d8536db63831e7daac9c26ebfa0af3521f9df94cfe42336e153952714ab", func := "loop.example/g00838/laws.FnExactFirstExcess", spec := "fnExactFirstExcess", unfollowed := true, recurses := true, named := ["loop.example/g00838/impl.keyWords"], apart := false, laid := [("loop.example/g00838/impl.keyWords", laid_loop_example_g00838_impl_keyWords)] }
def FnExactFirstExcessSaid : Prop := fnExactFirstExcessRow.holds Tryd.pinned (OpenSpec.ofChange fnExactFirstExcessSpec)

/-- ITS FALSE NEIGHBOUR: 'it returns false'. Refute it at one input. -/
def fnExactFirstExcessWrong : ChangeSpec := { name := "fnExactFirstExcess", vars := ["loop.example/g00838/impl.keyWords"], fn := fun _ => fun
  | [d1, d2, g1] => { results := [.lit (.bool false)], args := [d1, d2], vars := [g1] }
  | _ => none }
def FnExactFirstExcessWrongFalsely : Prop := fnExactFirstExcessRow.holds Tryd.pinned (OpenSpec.ofChange fnExactFirstExcessWrong)

/-- 'laws.FnExactDiffConfigs': WHATEVER THE INPUT: true; the input reads as it did. -/
def fnExactDiffConfigsSpec : ChangeSpec := { name := "fnExactDiffConfigs", vars := ["loop.example/g00838/impl.keyWords"], fn := fun _ => fun
  | [d1, d2, g1] => { results := [.lit (.bool true)], args := [d1, d2], vars := [g1] }
  | _ => none }
def fnExactDiffConfigsRow : OpenClaim := { program := "ytglbimhhiikkpaadoor", sum := "298e6d8536db63831e7daac9c26ebfa0af3521f9df94cfe42336e153952714ab", func := "loop.example/g00838/laws.FnExactDiffConfigs", spec := "fnExactDiffConfigs", unfollowed := true, recurses := true, named := ["loop.example/g00838/impl.keyWords"], apart := false, laid := [("loop.example/g00838/impl.keyWords", laid_loop_example_g00838_impl_keyWords)] }
def FnExactDiffConfigsSaid : Prop := fnExactDiffConfigsRow.holds Tryd.pinned (OpenSpec.ofChange fnExactDiffConfigsSpec)

/-- ITS FALSE NEIGHBOUR: 'it returns false'. Refute it at one input. -/
def fnExactDiffConfigsWrong : ChangeSpec := { name := "fnExactDiffConfigs", vars := ["loop.example/g00838/impl.keyWords"], fn := fun _ => fun
  | [d1, d2, g1] => { results := [.lit (.bool false)], args := [d1, d2], vars := [g1] }
  | _ => none }
def FnExactDiffConfigsWrongFalsely : Prop := fnExactDiffConfigsRow.holds Tryd.pinned (OpenSpec.ofChange fnExactDiffConfigsWrong)

/-- 'laws.FnExactApplyChange': WHATEVER THE INPUT: true; the input reads as it did. -/
def fnExactApplyChangeSpec : ChangeSpec := { name := "fnExactApplyChange", vars := ["loop.example/g00838/impl.keyWords"], fn := fun _ => fun
  | [d1, d2, g1] => { results := [.lit (.bool true)], args := [d1, d2], vars := [g1] }
  | _ => none }
def fnExactApplyChangeRow : OpenClaim := { program := "ytglbimhhiikkpaadoor", sum := "298e6d8536db63831e7daac9c26ebfa0af3521f9df94cfe42336e153952714ab", func := "loop.example/g00838/laws.FnExactApplyChange", spec := "fnExactApplyChange", unfollowed := true, recurses := true, named := ["loop.example/g00838/impl.keyWords"], apart := false, laid := [("loop.example/g00838/impl.keyWords", laid_loop_example_g00838_impl_keyWords)] }
def FnExactApplyChangeSaid : Prop := fnExactApplyChangeRow.holds Tryd.pinned (OpenSpec.ofChange fnExactApplyChangeSpec)

/-- ITS FALSE NEIGHBOUR: 'it returns false'. Refute it at one input. -/
def fnExactApplyChangeWrong : ChangeSpec := { name := "fnExactApplyChange", vars := ["loop.example/g00838/impl.keyWords"], fn := fun _ => fun
  | [d1, d2, g1] => { results := [.lit (.bool false)], args := [d1, d2], vars := [g1] }
  | _ => none }
def FnExactApplyChangeWrongFalsely : Prop := fnExactApplyChangeRow.holds Tryd.pinned (OpenSpec.ofChange fnExactApplyChangeWrong)

/-- 'laws.FnExactAccountBelow': WHATEVER THE INPUT: true; the input reads as it did. -/
def fnExactAccountBelowSpec : ChangeSpec := { name := "fnExactAccountBelow", vars := ["loop.example/g00838/impl.keyWords"], fn := fun _ => fun
  | [d1, d2, d3, g1] => { results := [.lit (.bool true)], args := [d1, d2, d3], vars := [g1] }
  | _ => none }
def fnExactAccountBelowRow : OpenClaim := { program := "ytglbimhhiikkpaadoor", sum := "298e6d8536db63831e7daac9c26ebfa0af3521f9df94cfe42336e153952714ab", func := "loop.example/g00838/laws.FnExactAccountBelow", spec := "fnExactAccountBelow", unfollowed := true, recurses := true, named := ["loop.example/g00838/impl.keyWords"], apart := false, laid := [("loop.example/g00838/impl.keyWords", laid_loop_example_g00838_impl_keyWords)] }
def FnExactAccountBelowSaid : Prop := fnExactAccountBelowRow.holds Tryd.pinned (OpenSpec.ofChange fnExactAccountBelowSpec)

/-- ITS FALSE NEIGHBOUR: 'it returns false'. Refute it at one input. -/
def fnExactAccountBelowWrong : ChangeSpec := { name := "fnExactAccountBelow", vars := ["loop.example/g00838/impl.keyWords"], fn := fun _ => fun
  | [d1, d2, d3, g1] => { results := [.lit (.bool false)], args := [d1, d2, d3], vars := [g1] }
  | _ => none }
def FnExactAccountBelowWrongFalsely : Prop := fnExactAccountBelowRow.holds Tryd.pinned (OpenSpec.ofChange fnExactAccountBelowWrong)

/- THE SECOND FORM. 'bulk': how many values and letters a reading holds, each counted each time it is reached (what is shared counts as often as it is met; a slice's spare places count too). A statement '..UptoSaid' is the law's where the arguments, and the package variables that the reading takes, are together of bulk at most 1048576: NARROWER than '..Said'. Prove '..Said' where nothing that the law and all that it calls make is longer than what came in: it says more and counts as full. Else prove '..UptoSaid'. A law counts once. -/
mutual
def uptoBulk {H : Type} : DataW H → Nat
  | .lit (.string bytes) => bytes.length + 1
  | .lit _ => 1
  | .nil => 1
  | .ptr d => uptoBulk d + 1
  | .slice elems spare => uptoBulkAll elems + uptoBulkAll spare + 1
  | .agg parts => uptoBulkAll parts + 1
  | .iface _ d => uptoBulk d + 1
  | .map entries => uptoBulkEntries entries + 1
  | .held _ => 1
def uptoBulkAll {H : Type} : List (DataW H) → Nat
  | [] => 0
  | d :: r => uptoBulk d + uptoBulkAll r
def uptoBulkEntries {H : Type} : List (Lit × DataW H) → Nat
  | [] => 0
  | x :: r => uptoBulkEntry x + uptoBulkEntries r
def uptoBulkEntry {H : Type} : Lit × DataW H → Nat
  | (.string bytes, d) => bytes.length + uptoBulk d + 1
  | (_, d) => uptoBulk d + 1
 end
def uptoSmall : (H : Type) → List (DataW H) → Bool := fun _ ds => decide (uptoBulkAll ds ≤ 1048576)
def OpenSpec.upto (s : _root_.Go.ChangeSpec) : _root_.Go.OpenSpec := { _root_.Go.OpenSpec.ofChange s with cond := some uptoSmall }

/-- 'laws.FnExactKeptClasses', WHERE WHAT IT READS IS OF BULK AT MOST 1048576: true; the input reads as it did. -/
def fnExactKeptClassesUptoRow : OpenClaim := { program := "ytglbimhhiikkpaadoor", sum := "298e6d8536db63831e7daac9c26ebfa0af3521f9df94cfe42336e153952714ab", func := "loop.example/g00838/laws.FnExactKeptClasses", spec := "fnExactKeptClasses", unfollowed := true, recurses := true, named := ["loop.example/g00838/impl.keyWords"], apart := false, laid := [("loop.example/g00838/impl.keyWords", laid_loop_example_g00838_impl_keyWords)], narrowed := true }
def FnExactKeptClassesUptoSaid : Prop := fnExactKeptClassesUptoRow.holds Tryd.pinned (OpenSpec.upto fnExactKeptClassesSpec)

/-- 'laws.FnExactCeilsHold', WHERE WHAT IT READS IS OF BULK AT MOST 1048576: true; the input reads as it did. -/
def fnExactCeilsHoldUptoRow : OpenClaim := { program := "ytglbimhhiikkpaadoor", sum := "298e6d8536db63831e7daac9c26ebfa0af3521f9df94cfe42336e153952714ab", func := "loop.example/g00838/laws.FnExactCeilsHold", spec := "fnExactCeilsHold", unfollowed := true, recurses := true, named := ["loop.example/g00838/impl.keyWords"], apart := false, laid := [("loop.example/g00838/impl.keyWords", laid_loop_example_g00838_impl_keyWords)], narrowed := true }
def FnExactCeilsHoldUptoSaid : Prop := fnExactCeilsHoldUptoRow.holds Tryd.pinned (OpenSpec.upto fnExactCeilsHoldSpec)

/-- 'laws.FnExactFirstExcess', WHERE WHAT IT READS IS OF BULK AT MOST 1048576: true; the input reads as it did. -/
def fnExactFirstExcessUptoRow : OpenClaim := { program := "ytglbimhhiikkpaadoor", sum := "298e6d8536db63831e7daac9c26ebfa0af3521f9df94cfe42336e153952714ab", func := "loop.example/g00838/laws.FnExactFirstExcess", spec := "fnExactFirstExcess", unfollowed := true, recurses := true, named := ["loop.example/g00838/impl.keyWords"], apart := false, laid := [("loop.example/g00838/impl.keyWords", laid_loop_example_g00838_impl_keyWords)], narrowed := true }
def FnExactFirstExcessUptoSaid : Prop := fnExactFirstExcessUptoRow.holds Tryd.pinned (OpenSpec.upto fnExactFirstExcessSpec)

/-- 'laws.FnExactDiffConfigs', WHERE WHAT IT READS IS OF BULK AT MOST 1048576: true; the input reads as it did. -/
def fnExactDiffConfigsUptoRow : OpenClaim := { program := "ytglbimhhiikkpaadoor", sum := "298e6d8536db63831e7daac9c26ebfa0af3521f9df94cfe42336e153952714ab", func := "loop.example/g00838/laws.FnExactDiffConfigs", spec := "fnExactDiffConfigs", unfollowed := true, recurses := true, named := ["loop.example/g00838/impl.keyWords"], apart := false, laid := [("loop.example/g00838/impl.keyWords", laid_loop_example_g00838_impl_keyWords)], narrowed := true }
def FnExactDiffConfigsUptoSaid : Prop := fnExactDiffConfigsUptoRow.holds Tryd.pinned (OpenSpec.upto fnExactDiffConfigsSpec)

/-- 'laws.FnExactApplyChange', WHERE WHAT IT READS IS OF BULK AT MOST 1048576: true; the input reads as it did. -/
def fnExactApplyChangeUptoRow : OpenClaim := { program := "ytglbimhhiikkpaadoor", sum := "298e6d8536db63831e7daac9c26ebfa0af3521f9df94cfe42336e153952714ab", func := "loop.example/g00838/laws.FnExactApplyChange", spec := "fnExactApplyChange", unfollowed := true, recurses := true, named := ["loop.example/g00838/impl.keyWords"], apart := false, laid := [("loop.example/g00838/impl.keyWords", laid_loop_example_g00838_impl_keyWords)], narrowed := true }
def FnExactApplyChangeUptoSaid : Prop := fnExactApplyChangeUptoRow.holds Tryd.pinned (OpenSpec.upto fnExactApplyChangeSpec)

/-- 'laws.FnExactAccountBelow', WHERE WHAT IT READS IS OF BULK AT MOST 1048576: true; the input reads as it did. -/
def fnExactAccountBelowUptoRow : OpenClaim := { program := "ytglbimhhiikkpaadoor", sum := "298e6d8536db63831e7daac9c26ebfa0af3521f9df94cfe42336e153952714ab", func := "loop.example/g00838/laws.FnExactAccountBelow", spec := "fnExactAccountBelow", unfollowed := true, recurses := true, named := ["loop.example/g00838/impl.keyWords"], apart := false, laid := [("loop.example/g00838/impl.keyWords", laid_loop_example_g00838_impl_keyWords)], narrowed := true }
def FnExactAccountBelowUptoSaid : Prop := fnExactAccountBelowUptoRow.holds Tryd.pinned (OpenSpec.upto fnExactAccountBelowSpec)

end Rows
end Go.Proofs.YtglbimhhiikkpaaDoor
