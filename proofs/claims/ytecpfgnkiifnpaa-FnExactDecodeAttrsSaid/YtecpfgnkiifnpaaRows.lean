/-
  No cell of these rows narrows 'for every input' (looked for: loops, veiled, ifaces, maps, wideKeys, modest, calm, conditions, laid).
  DERIVED. THE GIVEN ROWS OF THIS SEAT. 3 by the template 'for every input the law returns true; each argument reads behind the call as it read before'; 0 by the template 'total and deterministic' (their statements: YtecpfgnkiifnpaaTotals.lean).
  GIVEN WITH THE SEED: the statements are not yours to turn. If you find one false, say at which input.
  Laid BY PROGRAM, IN A SANDBOX (cutbox-rows.mjs): the forced cells as the released guide's own fill.sh prints them over the translation 5ec63af1c64e4b0c… (all of the seat's roots in one cut). By AI agents, Wed Nov 11 2026. No macro, syntax, notation, axiom, sorry.
-/
import Derived.Test.YtecpfgnkiifnpaaChecked
import GoSem.Claim
import GoSem.ClaimJoined
import GoSem.ClaimMapViews
import Derived.JoinedTies
import Derived.KernelRfl
namespace Go.Proofs.Ytecpfgnkiifnpaa
/- THE CELL 'sum', in the pinned program and in every row, IS THE sha256 OF THE DUMP (.gsa) THAT YtecpfgnkiifnpaaProg.lean LOADS. Nothing in Lean hashes anything: it is a label: what it is worth is what the hold of that sum in a sandbox is worth. -/
noncomputable def Try.pinned : Pinned := { name := "ytecpfgnkiifnpaa", sum := "5ec63af1c64e4b0ca8b0c0c76b2a71524d7c29bb936e42b89da4d671d3d1ce67", checked := Try.checked }
namespace Rows
def none {H : Type} : Left H := { results := [], args := [] }

/-- 'laws.FnExactDecodeAttrs': WHATEVER THE INPUT: true; the input reads as it did. -/
def fnExactDecodeAttrsSpec : ChangeSpec := { name := "fnExactDecodeAttrs", fn := fun _ => fun
  | [d] => { results := [.lit (.bool true)], args := [d] }
  | _ => none }
def fnExactDecodeAttrsRow : OpenClaim := { program := "ytecpfgnkiifnpaa", sum := "5ec63af1c64e4b0ca8b0c0c76b2a71524d7c29bb936e42b89da4d671d3d1ce67", func := "loop.example/g00838/laws.FnExactDecodeAttrs", spec := "fnExactDecodeAttrs", recurses := true, apart := false }
def FnExactDecodeAttrsSaid : Prop := fnExactDecodeAttrsRow.holds Try.pinned (OpenSpec.ofChange fnExactDecodeAttrsSpec)

/-- ITS FALSE NEIGHBOUR: 'it returns false'. Refute it at one input. -/
def fnExactDecodeAttrsWrong : ChangeSpec := { name := "fnExactDecodeAttrs", fn := fun _ => fun
  | [d] => { results := [.lit (.bool false)], args := [d] }
  | _ => none }
def FnExactDecodeAttrsWrongFalsely : Prop := fnExactDecodeAttrsRow.holds Try.pinned (OpenSpec.ofChange fnExactDecodeAttrsWrong)

/-- 'laws.FnExactReadFlatFilter': WHATEVER THE INPUT: true; the input reads as it did. -/
def fnExactReadFlatFilterSpec : ChangeSpec := { name := "fnExactReadFlatFilter", fn := fun _ => fun
  | [d] => { results := [.lit (.bool true)], args := [d] }
  | _ => none }
def fnExactReadFlatFilterRow : OpenClaim := { program := "ytecpfgnkiifnpaa", sum := "5ec63af1c64e4b0ca8b0c0c76b2a71524d7c29bb936e42b89da4d671d3d1ce67", func := "loop.example/g00838/laws.FnExactReadFlatFilter", spec := "fnExactReadFlatFilter", inPlace := ["internal/bytealg.IndexByteString"], apart := false }
def FnExactReadFlatFilterSaid : Prop := fnExactReadFlatFilterRow.holds Try.pinned (OpenSpec.ofChange fnExactReadFlatFilterSpec)

/-- ITS FALSE NEIGHBOUR: 'it returns false'. Refute it at one input. -/
def fnExactReadFlatFilterWrong : ChangeSpec := { name := "fnExactReadFlatFilter", fn := fun _ => fun
  | [d] => { results := [.lit (.bool false)], args := [d] }
  | _ => none }
def FnExactReadFlatFilterWrongFalsely : Prop := fnExactReadFlatFilterRow.holds Try.pinned (OpenSpec.ofChange fnExactReadFlatFilterWrong)

/-- 'laws.FnExactReadFlatClass': WHATEVER THE INPUT: true; the input reads as it did. -/
def fnExactReadFlatClassSpec : ChangeSpec := { name := "fnExactReadFlatClass", fn := fun _ => fun
  | [d] => { results := [.lit (.bool true)], args := [d] }
  | _ => none }
def fnExactReadFlatClassRow : OpenClaim := { program := "ytecpfgnkiifnpaa", sum := "5ec63af1c64e4b0ca8b0c0c76b2a71524d7c29bb936e42b89da4d671d3d1ce67", func := "loop.example/g00838/laws.FnExactReadFlatClass", spec := "fnExactReadFlatClass", inPlace := ["internal/bytealg.IndexByteString"], apart := false }
def FnExactReadFlatClassSaid : Prop := fnExactReadFlatClassRow.holds Try.pinned (OpenSpec.ofChange fnExactReadFlatClassSpec)

/-- ITS FALSE NEIGHBOUR: 'it returns false'. Refute it at one input. -/
def fnExactReadFlatClassWrong : ChangeSpec := { name := "fnExactReadFlatClass", fn := fun _ => fun
  | [d] => { results := [.lit (.bool false)], args := [d] }
  | _ => none }
def FnExactReadFlatClassWrongFalsely : Prop := fnExactReadFlatClassRow.holds Try.pinned (OpenSpec.ofChange fnExactReadFlatClassWrong)

/- THE SECOND FORM. 'bulk': how many values and letters a reading holds, each counted each time it is reached (what is shared counts as often as it is met; a slice's spare places count too). A statement '..UptoSaid' is the law's where the arguments, and the package variables that the reading takes, are together of bulk at most 1048576: NARROWER than '..Said'. Prove '..Said' where nothing that the law and all that it calls make is longer than what came in: it says more and counts as full. Else prove '..UptoSaid'. A law counts once. -/
mutual
def uptoBulk {H : Type} : DataW H → Nat
  | .lit (.string bytes) => bytes.length + 1
  | .lit _ => 1
  | .nil => 1
  | .ptr d => uptoBulk d + 1
  | .slice elems spare => uptoBulkAll elems + uptoBulkAll spare + 1
  | .agg parts => uptoBulkAll parts + 1
  | .iface _ d => uptoBulk d + 1
  | .map entries => uptoBulkEntries entries + 1
  | .held _ => 1
def uptoBulkAll {H : Type} : List (DataW H) → Nat
  | [] => 0
  | d :: r => uptoBulk d + uptoBulkAll r
def uptoBulkEntries {H : Type} : List (Lit × DataW H) → Nat
  | [] => 0
  | x :: r => uptoBulkEntry x + uptoBulkEntries r
def uptoBulkEntry {H : Type} : Lit × DataW H → Nat
  | (.string bytes, d) => bytes.length + uptoBulk d + 1
  | (_, d) => uptoBulk d + 1
 end
def uptoSmall : (H : Type) → List (DataW H) → Bool := fun _ ds => decide (uptoBulkAll ds ≤ 1048576)
def OpenSpec.upto (s : _root_.Go.ChangeSpec) : _root_.Go.OpenSpec := { _root_.Go.OpenSpec.ofChange s with cond := some uptoSmall }

/-- 'laws.FnExactDecodeAttrs', WHERE WHAT IT READS IS OF BULK AT MOST 1048576: true; the input reads as it did. -/
def fnExactDecodeAttrsUptoRow : OpenClaim := { program := "ytecpfgnkiifnpaa", sum := "5ec63af1c64e4b0ca8b0c0c76b2a71524d7c29bb936e42b89da4d671d3d1ce67", func := "loop.example/g00838/laws.FnExactDecodeAttrs", spec := "fnExactDecodeAttrs", recurses := true, apart := false, narrowed := true }
def FnExactDecodeAttrsUptoSaid : Prop := fnExactDecodeAttrsUptoRow.holds Try.pinned (OpenSpec.upto fnExactDecodeAttrsSpec)

/-- 'laws.FnExactReadFlatFilter', WHERE WHAT IT READS IS OF BULK AT MOST 1048576: true; the input reads as it did. -/
def fnExactReadFlatFilterUptoRow : OpenClaim := { program := "ytecpfgnkiifnpaa", sum := "5ec63af1c64e4b0ca8b0c0c76b2a71524d7c29bb936e42b89da4d671d3d1ce67", func := "loop.example/g00838/laws.FnExactReadFlatFilter", spec := "fnExactReadFlatFilter", inPlace := ["internal/bytealg.IndexByteString"], apart := false, narrowed := true }
def FnExactReadFlatFilterUptoSaid : Prop := fnExactReadFlatFilterUptoRow.holds Try.pinned (OpenSpec.upto fnExactReadFlatFilterSpec)

/-- 'laws.FnExactReadFlatClass', WHERE WHAT IT READS IS OF BULK AT MOST 1048576: true; the input reads as it did. -/
def fnExactReadFlatClassUptoRow : OpenClaim := { program := "ytecpfgnkiifnpaa", sum := "5ec63af1c64e4b0ca8b0c0c76b2a71524d7c29bb936e42b89da4d671d3d1ce67", func := "loop.example/g00838/laws.FnExactReadFlatClass", spec := "fnExactReadFlatClass", inPlace := ["internal/bytealg.IndexByteString"], apart := false, narrowed := true }
def FnExactReadFlatClassUptoSaid : Prop := fnExactReadFlatClassUptoRow.holds Try.pinned (OpenSpec.upto fnExactReadFlatClassSpec)

end Rows
end Go.Proofs.Ytecpfgnkiifnpaa
