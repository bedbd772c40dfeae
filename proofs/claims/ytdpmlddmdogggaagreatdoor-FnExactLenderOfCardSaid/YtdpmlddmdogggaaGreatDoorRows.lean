/-
  NARROWER THAN 'FOR EVERY INPUT', by the rows' own cells (each row's printed sentence says how): FnExactFullTokens: laid · FnExactMaySend: laid · FnExactWaitOf: laid · FnExactIsLoaded: laid · FnExactIsInside: laid · FnExactMostIn: laid · FnExactCommonAt: laid · FnExactAreTokens: laid · FnExactLeafAt: laid · FnExactKidsAt: laid · FnExactWayAt: laid · FnExactLeavesAt: laid · FnExactDepthsAt: laid · FnExactLenderOf: laid.
  DERIVED. THE GIVEN ROWS OF THIS SEAT. 14 by the template 'for every input the law returns true; each argument reads behind the call as it read before'; 0 by the template 'total and deterministic' (their statements: YtdpmlddmdogggaaGreatDoorTotals.lean).
  GIVEN WITH THE SEED: the statements are not yours to turn. If you find one false, say at which input.
  Laid BY PROGRAM, IN A SANDBOX (cutbox-rows.mjs): the forced cells as the released guide's own fill.sh prints them over the translation b0a00a14ab172314… (all of the seat's roots in one cut). By AI agents, Wed Nov 11 2026. No macro, syntax, notation, axiom, sorry.
-/
import Derived.Test.YtdpmlddmdogggaaGreatDoorChecked
import GoSem.Claim
import GoSem.ClaimJoined
import GoSem.ClaimMapViews
import Derived.JoinedTies
import Derived.KernelRfl
namespace Go.Proofs.YtdpmlddmdogggaaGreatDoor
/- THE CELL 'sum', in the pinned program and in every row, IS THE sha256 OF THE DUMP (.gsa) THAT YtdpmlddmdogggaaGreatDoorProg.lean LOADS. Nothing in Lean hashes anything: it is a label: what it is worth is what the hold of that sum in a sandbox is worth. -/
noncomputable def Tryz.pinned : Pinned := { name := "ytdpmlddmdogggaagreatdoor", sum := "b0a00a14ab1723147c7807419574cd22496a83886022a02603a76e965820aa8f", checked := Tryz.checked }
namespace Rows
def none {H : Type} : Left H := { results := [], args := [] }

/- WHAT THE LISTED PACKAGE-LEVEL VARIABLES READ AS WHEN THE CALL BEGINS. Each datum BY PROGRAM (the guide's laid-datum.mjs) off the statement by which the dump's own 'gosem.cut.vars' lays the variable. In a bare row this is a premise. The card (YtdpmlddmdogggaaGreatDoorCards.lean) ties it to the program's text. -/
def laid_math_bits_deBruijn32tab {H : Type} : DataW H := .agg [.lit (.int .u8 0), .lit (.int .u8 1), .lit (.int .u8 28), .lit (.int .u8 2), .lit (.int .u8 29), .lit (.int .u8 14), .lit (.int .u8 24), .lit (.int .u8 3), .lit (.int .u8 30), .lit (.int .u8 22), .lit (.int .u8 20), .lit (.int .u8 15), .lit (.int .u8 25), .lit (.int .u8 17), .lit (.int .u8 4), .lit (.int .u8 8), .lit (.int .u8 31), .lit (.int .u8 27), .lit (.int .u8 13), .lit (.int .u8 23), .lit (.int .u8 21), .lit (.int .u8 19), .lit (.int .u8 16), .lit (.int .u8 7), .lit (.int .u8 26), .lit (.int .u8 12), .lit (.int .u8 18), .lit (.int .u8 6), .lit (.int .u8 11), .lit (.int .u8 5), .lit (.int .u8 10), .lit (.int .u8 9)]
def laid_math_bits_deBruijn64tab {H : Type} : DataW H := .agg [.lit (.int .u8 0), .lit (.int .u8 1), .lit (.int .u8 56), .lit (.int .u8 2), .lit (.int .u8 57), .lit (.int .u8 49), .lit (.int .u8 28), .lit (.int .u8 3), .lit (.int .u8 61), .lit (.int .u8 58), .lit (.int .u8 42), .lit (.int .u8 50), .lit (.int .u8 38), .lit (.int .u8 29), .lit (.int .u8 17), .lit (.int .u8 4), .lit (.int .u8 62), .lit (.int .u8 47), .lit (.int .u8 59), .lit (.int .u8 36), .lit (.int .u8 45), .lit (.int .u8 43), .lit (.int .u8 51), .lit (.int .u8 22), .lit (.int .u8 53), .lit (.int .u8 39), .lit (.int .u8 33), .lit (.int .u8 30), .lit (.int .u8 24), .lit (.int .u8 18), .lit (.int .u8 12), .lit (.int .u8 5), .lit (.int .u8 63), .lit (.int .u8 55), .lit (.int .u8 48), .lit (.int .u8 27), .lit (.int .u8 60), .lit (.int .u8 41), .lit (.int .u8 37), .lit (.int .u8 16), .lit (.int .u8 46), .lit (.int .u8 35), .lit (.int .u8 44), .lit (.int .u8 21), .lit (.int .u8 52), .lit (.int .u8 32), .lit (.int .u8 23), .lit (.int .u8 11), .lit (.int .u8 54), .lit (.int .u8 26), .lit (.int .u8 40), .lit (.int .u8 15), .lit (.int .u8 34), .lit (.int .u8 20), .lit (.int .u8 31), .lit (.int .u8 10), .lit (.int .u8 25), .lit (.int .u8 14), .lit (.int .u8 19), .lit (.int .u8 9), .lit (.int .u8 13), .lit (.int .u8 8), .lit (.int .u8 7), .lit (.int .u8 6)]
def laid_internal_strconv_uint64pow10 {H : Type} : DataW H := .agg [.lit (.int .u64 1), .lit (.int .u64 10), .lit (.int .u64 100), .lit (.int .u64 1000), .lit (.int .u64 10000), .lit (.int .u64 100000), .lit (.int .u64 1000000), .lit (.int .u64 10000000), .lit (.int .u64 100000000), .lit (.int .u64 1000000000), .lit (.int .u64 10000000000), .lit (.int .u64 100000000000), .lit (.int .u64 1000000000000), .lit (.int .u64 10000000000000), .lit (.int .u64 100000000000000), .lit (.int .u64 1000000000000000), .lit (.int .u64 10000000000000000), .lit (.int .u64 100000000000000000), .lit (.int .u64 1000000000000000000), .lit (.int .u64 10000000000000000000)]
def laid_loop_example_g00838_impl_keyWords {H : Type} : DataW H := .agg [.lit (.string [113, 100, 105, 115, 99]), .lit (.string [100, 101, 102, 97, 117, 108, 116]), .lit (.string [99, 108, 97, 115, 115]), .lit (.string [114, 97, 116, 101]), .lit (.string [99, 101, 105, 108]), .lit (.string [98, 117, 114, 115, 116]), .lit (.string [99, 98, 117, 114, 115, 116]), .lit (.string [112, 114, 105, 111]), .lit (.string [108, 105, 109, 105, 116]), .lit (.string [102, 105, 108, 116, 101, 114]), .lit (.string [115, 111, 117, 114, 99, 101]), .lit (.string [100, 101, 115, 116]), .lit (.string [112, 111, 114, 116]), .lit (.string [109, 97, 114, 107])]

/-- 'laws.FnExactFullTokens': WHATEVER THE INPUT: true; the input reads as it did. -/
def fnExactFullTokensSpec : ChangeSpec := { name := "fnExactFullTokens", vars := ["loop.example/g00838/impl.keyWords"], fn := fun _ => fun
  | [d, g1] => { results := [.lit (.bool true)], args := [d], vars := [g1] }
  | _ => none }
def fnExactFullTokensRow : OpenClaim := { program := "ytdpmlddmdogggaagreatdoor", sum := "b0a00a14ab1723147c7807419574cd22496a83886022a02603a76e965820aa8f", func := "loop.example/g00838/laws.FnExactFullTokens", spec := "fnExactFullTokens", inPlace := ["internal/abi.NoEscape", "internal/bytealg.MakeNoZero"], unfollowed := true, recurses := true, named := ["loop.example/g00838/impl.keyWords", "internal/strconv.uint64pow10", "math/bits.deBruijn32tab", "math/bits.deBruijn64tab"], apart := false, laid := [("math/bits.deBruijn32tab", laid_math_bits_deBruijn32tab), ("math/bits.deBruijn64tab", laid_math_bits_deBruijn64tab), ("internal/strconv.uint64pow10", laid_internal_strconv_uint64pow10), ("loop.example/g00838/impl.keyWords", laid_loop_example_g00838_impl_keyWords)] }
def FnExactFullTokensSaid : Prop := fnExactFullTokensRow.holds Tryz.pinned (OpenSpec.ofChange fnExactFullTokensSpec)

/-- ITS FALSE NEIGHBOUR: 'it returns false'. Refute it at one input. -/
def fnExactFullTokensWrong : ChangeSpec := { name := "fnExactFullTokens", vars := ["loop.example/g00838/impl.keyWords"], fn := fun _ => fun
  | [d, g1] => { results := [.lit (.bool false)], args := [d], vars := [g1] }
  | _ => none }
def FnExactFullTokensWrongFalsely : Prop := fnExactFullTokensRow.holds Tryz.pinned (OpenSpec.ofChange fnExactFullTokensWrong)

/-- 'laws.FnExactMaySend': WHATEVER THE INPUT: true; the input reads as it did. -/
def fnExactMaySendSpec : ChangeSpec := { name := "fnExactMaySend", vars := ["loop.example/g00838/impl.keyWords"], fn := fun _ => fun
  | [d1, d2, d3, d4, g1] => { results := [.lit (.bool true)], args := [d1, d2, d3, d4], vars := [g1] }
  | _ => none }
def fnExactMaySendRow : OpenClaim := { program := "ytdpmlddmdogggaagreatdoor", sum := "b0a00a14ab1723147c7807419574cd22496a83886022a02603a76e965820aa8f", func := "loop.example/g00838/laws.FnExactMaySend", spec := "fnExactMaySend", inPlace := ["internal/abi.NoEscape", "internal/bytealg.MakeNoZero"], unfollowed := true, recurses := true, named := ["loop.example/g00838/impl.keyWords", "internal/strconv.uint64pow10", "math/bits.deBruijn32tab", "math/bits.deBruijn64tab"], apart := false, laid := [("math/bits.deBruijn32tab", laid_math_bits_deBruijn32tab), ("math/bits.deBruijn64tab", laid_math_bits_deBruijn64tab), ("internal/strconv.uint64pow10", laid_internal_strconv_uint64pow10), ("loop.example/g00838/impl.keyWords", laid_loop_example_g00838_impl_keyWords)] }
def FnExactMaySendSaid : Prop := fnExactMaySendRow.holds Tryz.pinned (OpenSpec.ofChange fnExactMaySendSpec)

/-- ITS FALSE NEIGHBOUR: 'it returns false'. Refute it at one input. -/
def fnExactMaySendWrong : ChangeSpec := { name := "fnExactMaySend", vars := ["loop.example/g00838/impl.keyWords"], fn := fun _ => fun
  | [d1, d2, d3, d4, g1] => { results := [.lit (.bool false)], args := [d1, d2, d3, d4], vars := [g1] }
  | _ => none }
def FnExactMaySendWrongFalsely : Prop := fnExactMaySendRow.holds Tryz.pinned (OpenSpec.ofChange fnExactMaySendWrong)

/-- 'laws.FnExactWaitOf': WHATEVER THE INPUT: true; the input reads as it did. -/
def fnExactWaitOfSpec : ChangeSpec := { name := "fnExactWaitOf", vars := ["loop.example/g00838/impl.keyWords"], fn := fun _ => fun
  | [d1, d2, d3, d4, g1] => { results := [.lit (.bool true)], args := [d1, d2, d3, d4], vars := [g1] }
  | _ => none }
def fnExactWaitOfRow : OpenClaim := { program := "ytdpmlddmdogggaagreatdoor", sum := "b0a00a14ab1723147c7807419574cd22496a83886022a02603a76e965820aa8f", func := "loop.example/g00838/laws.FnExactWaitOf", spec := "fnExactWaitOf", inPlace := ["internal/abi.NoEscape", "internal/bytealg.MakeNoZero"], unfollowed := true, recurses := true, named := ["loop.example/g00838/impl.keyWords", "internal/strconv.uint64pow10", "math/bits.deBruijn32tab", "math/bits.deBruijn64tab"], apart := false, laid := [("math/bits.deBruijn32tab", laid_math_bits_deBruijn32tab), ("math/bits.deBruijn64tab", laid_math_bits_deBruijn64tab), ("internal/strconv.uint64pow10", laid_internal_strconv_uint64pow10), ("loop.example/g00838/impl.keyWords", laid_loop_example_g00838_impl_keyWords)] }
def FnExactWaitOfSaid : Prop := fnExactWaitOfRow.holds Tryz.pinned (OpenSpec.ofChange fnExactWaitOfSpec)

/-- ITS FALSE NEIGHBOUR: 'it returns false'. Refute it at one input. -/
def fnExactWaitOfWrong : ChangeSpec := { name := "fnExactWaitOf", vars := ["loop.example/g00838/impl.keyWords"], fn := fun _ => fun
  | [d1, d2, d3, d4, g1] => { results := [.lit (.bool false)], args := [d1, d2, d3, d4], vars := [g1] }
  | _ => none }
def FnExactWaitOfWrongFalsely : Prop := fnExactWaitOfRow.holds Tryz.pinned (OpenSpec.ofChange fnExactWaitOfWrong)

/-- 'laws.FnExactIsLoaded': WHATEVER THE INPUT: true; the input reads as it did. -/
def fnExactIsLoadedSpec : ChangeSpec := { name := "fnExactIsLoaded", vars := ["loop.example/g00838/impl.keyWords"], fn := fun _ => fun
  | [d, g1] => { results := [.lit (.bool true)], args := [d], vars := [g1] }
  | _ => none }
def fnExactIsLoadedRow : OpenClaim := { program := "ytdpmlddmdogggaagreatdoor", sum := "b0a00a14ab1723147c7807419574cd22496a83886022a02603a76e965820aa8f", func := "loop.example/g00838/laws.FnExactIsLoaded", spec := "fnExactIsLoaded", inPlace := ["internal/abi.NoEscape", "internal/bytealg.MakeNoZero"], unfollowed := true, recurses := true, named := ["loop.example/g00838/impl.keyWords", "internal/strconv.uint64pow10", "math/bits.deBruijn32tab", "math/bits.deBruijn64tab"], apart := false, laid := [("math/bits.deBruijn32tab", laid_math_bits_deBruijn32tab), ("math/bits.deBruijn64tab", laid_math_bits_deBruijn64tab), ("internal/strconv.uint64pow10", laid_internal_strconv_uint64pow10), ("loop.example/g00838/impl.keyWords", laid_loop_example_g00838_impl_keyWords)] }
def FnExactIsLoadedSaid : Prop := fnExactIsLoadedRow.holds Tryz.pinned (OpenSpec.ofChange fnExactIsLoadedSpec)

/-- ITS FALSE NEIGHBOUR: 'it returns false'. Refute it at one input. -/
def fnExactIsLoadedWrong : ChangeSpec := { name := "fnExactIsLoaded", vars := ["loop.example/g00838/impl.keyWords"], fn := fun _ => fun
  | [d, g1] => { results := [.lit (.bool false)], args := [d], vars := [g1] }
  | _ => none }
def FnExactIsLoadedWrongFalsely : Prop := fnExactIsLoadedRow.holds Tryz.pinned (OpenSpec.ofChange fnExactIsLoadedWrong)

/-- 'laws.FnExactIsInside': WHATEVER THE INPUT: true; the input reads as it did. -/
def fnExactIsInsideSpec : ChangeSpec := { name := "fnExactIsInside", vars := ["loop.example/g00838/impl.keyWords"], fn := fun _ => fun
  | [d1, d2, d3, g1] => { results := [.lit (.bool true)], args := [d1, d2, d3], vars := [g1] }
  | _ => none }
def fnExactIsInsideRow : OpenClaim := { program := "ytdpmlddmdogggaagreatdoor", sum := "b0a00a14ab1723147c7807419574cd22496a83886022a02603a76e965820aa8f", func := "loop.example/g00838/laws.FnExactIsInside", spec := "fnExactIsInside", inPlace := ["internal/abi.NoEscape", "internal/bytealg.MakeNoZero"], unfollowed := true, recurses := true, named := ["loop.example/g00838/impl.keyWords", "internal/strconv.uint64pow10", "math/bits.deBruijn32tab", "math/bits.deBruijn64tab"], apart := false, laid := [("math/bits.deBruijn32tab", laid_math_bits_deBruijn32tab), ("math/bits.deBruijn64tab", laid_math_bits_deBruijn64tab), ("internal/strconv.uint64pow10", laid_internal_strconv_uint64pow10), ("loop.example/g00838/impl.keyWords", laid_loop_example_g00838_impl_keyWords)] }
def FnExactIsInsideSaid : Prop := fnExactIsInsideRow.holds Tryz.pinned (OpenSpec.ofChange fnExactIsInsideSpec)

/-- ITS FALSE NEIGHBOUR: 'it returns false'. Refute it at one input. -/
def fnExactIsInsideWrong : ChangeSpec := { name := "fnExactIsInside", vars := ["loop.example/g00838/impl.keyWords"], fn := fun _ => fun
  | [d1, d2, d3, g1] => { results := [.lit (.bool false)], args := [d1, d2, d3], vars := [g1] }
  | _ => none }
def FnExactIsInsideWrongFalsely : Prop := fnExactIsInsideRow.holds Tryz.pinned (OpenSpec.ofChange fnExactIsInsideWrong)

/-- 'laws.FnExactMostIn': WHATEVER THE INPUT: true; the input reads as it did. -/
def fnExactMostInSpec : ChangeSpec := { name := "fnExactMostIn", vars := ["loop.example/g00838/impl.keyWords"], fn := fun _ => fun
  | [d1, d2, d3, g1] => { results := [.lit (.bool true)], args := [d1, d2, d3], vars := [g1] }
  | _ => none }
def fnExactMostInRow : OpenClaim := { program := "ytdpmlddmdogggaagreatdoor", sum := "b0a00a14ab1723147c7807419574cd22496a83886022a02603a76e965820aa8f", func := "loop.example/g00838/laws.FnExactMostIn", spec := "fnExactMostIn", inPlace := ["internal/abi.NoEscape", "internal/bytealg.MakeNoZero"], unfollowed := true, recurses := true, named := ["loop.example/g00838/impl.keyWords", "internal/strconv.uint64pow10", "math/bits.deBruijn32tab", "math/bits.deBruijn64tab"], apart := false, laid := [("math/bits.deBruijn32tab", laid_math_bits_deBruijn32tab), ("math/bits.deBruijn64tab", laid_math_bits_deBruijn64tab), ("internal/strconv.uint64pow10", laid_internal_strconv_uint64pow10), ("loop.example/g00838/impl.keyWords", laid_loop_example_g00838_impl_keyWords)] }
def FnExactMostInSaid : Prop := fnExactMostInRow.holds Tryz.pinned (OpenSpec.ofChange fnExactMostInSpec)

/-- ITS FALSE NEIGHBOUR: 'it returns false'. Refute it at one input. -/
def fnExactMostInWrong : ChangeSpec := { name := "fnExactMostIn", vars := ["loop.example/g00838/impl.keyWords"], fn := fun _ => fun
  | [d1, d2, d3, g1] => { results := [.lit (.bool false)], args := [d1, d2, d3], vars := [g1] }
  | _ => none }
def FnExactMostInWrongFalsely : Prop := fnExactMostInRow.holds Tryz.pinned (OpenSpec.ofChange fnExactMostInWrong)

/-- 'laws.FnExactCommonAt': WHATEVER THE INPUT: true; the input reads as it did. -/
def fnExactCommonAtSpec : ChangeSpec := { name := "fnExactCommonAt", vars := ["loop.example/g00838/impl.keyWords"], fn := fun _ => fun
  | [d1, d2, d3, g1] => { results := [.lit (.bool true)], args := [d1, d2, d3], vars := [g1] }
  | _ => none }
def fnExactCommonAtRow : OpenClaim := { program := "ytdpmlddmdogggaagreatdoor", sum := "b0a00a14ab1723147c7807419574cd22496a83886022a02603a76e965820aa8f", func := "loop.example/g00838/laws.FnExactCommonAt", spec := "fnExactCommonAt", inPlace := ["internal/abi.NoEscape", "internal/bytealg.MakeNoZero"], unfollowed := true, recurses := true, named := ["loop.example/g00838/impl.keyWords", "internal/strconv.uint64pow10", "math/bits.deBruijn32tab", "math/bits.deBruijn64tab"], apart := false, laid := [("math/bits.deBruijn32tab", laid_math_bits_deBruijn32tab), ("math/bits.deBruijn64tab", laid_math_bits_deBruijn64tab), ("internal/strconv.uint64pow10", laid_internal_strconv_uint64pow10), ("loop.example/g00838/impl.keyWords", laid_loop_example_g00838_impl_keyWords)] }
def FnExactCommonAtSaid : Prop := fnExactCommonAtRow.holds Tryz.pinned (OpenSpec.ofChange fnExactCommonAtSpec)

/-- ITS FALSE NEIGHBOUR: 'it returns false'. Refute it at one input. -/
def fnExactCommonAtWrong : ChangeSpec := { name := "fnExactCommonAt", vars := ["loop.example/g00838/impl.keyWords"], fn := fun _ => fun
  | [d1, d2, d3, g1] => { results := [.lit (.bool false)], args := [d1, d2, d3], vars := [g1] }
  | _ => none }
def FnExactCommonAtWrongFalsely : Prop := fnExactCommonAtRow.holds Tryz.pinned (OpenSpec.ofChange fnExactCommonAtWrong)

/-- 'laws.FnExactAreTokens': WHATEVER THE INPUT: true; the input reads as it did. -/
def fnExactAreTokensSpec : ChangeSpec := { name := "fnExactAreTokens", vars := ["loop.example/g00838/impl.keyWords"], fn := fun _ => fun
  | [d1, d2, g1] => { results := [.lit (.bool true)], args := [d1, d2], vars := [g1] }
  | _ => none }
def fnExactAreTokensRow : OpenClaim := { program := "ytdpmlddmdogggaagreatdoor", sum := "b0a00a14ab1723147c7807419574cd22496a83886022a02603a76e965820aa8f", func := "loop.example/g00838/laws.FnExactAreTokens", spec := "fnExactAreTokens", inPlace := ["internal/abi.NoEscape", "internal/bytealg.MakeNoZero"], unfollowed := true, recurses := true, named := ["loop.example/g00838/impl.keyWords", "internal/strconv.uint64pow10", "math/bits.deBruijn32tab", "math/bits.deBruijn64tab"], apart := false, laid := [("math/bits.deBruijn32tab", laid_math_bits_deBruijn32tab), ("math/bits.deBruijn64tab", laid_math_bits_deBruijn64tab), ("internal/strconv.uint64pow10", laid_internal_strconv_uint64pow10), ("loop.example/g00838/impl.keyWords", laid_loop_example_g00838_impl_keyWords)] }
def FnExactAreTokensSaid : Prop := fnExactAreTokensRow.holds Tryz.pinned (OpenSpec.ofChange fnExactAreTokensSpec)

/-- ITS FALSE NEIGHBOUR: 'it returns false'. Refute it at one input. -/
def fnExactAreTokensWrong : ChangeSpec := { name := "fnExactAreTokens", vars := ["loop.example/g00838/impl.keyWords"], fn := fun _ => fun
  | [d1, d2, g1] => { results := [.lit (.bool false)], args := [d1, d2], vars := [g1] }
  | _ => none }
def FnExactAreTokensWrongFalsely : Prop := fnExactAreTokensRow.holds Tryz.pinned (OpenSpec.ofChange fnExactAreTokensWrong)

/-- 'laws.FnExactLeafAt': WHATEVER THE INPUT: true; the input reads as it did. -/
def fnExactLeafAtSpec : ChangeSpec := { name := "fnExactLeafAt", vars := ["loop.example/g00838/impl.keyWords"], fn := fun _ => fun
  | [d1, d2, g1] => { results := [.lit (.bool true)], args := [d1, d2], vars := [g1] }
  | _ => none }
def fnExactLeafAtRow : OpenClaim := { program := "ytdpmlddmdogggaagreatdoor", sum := "b0a00a14ab1723147c7807419574cd22496a83886022a02603a76e965820aa8f", func := "loop.example/g00838/laws.FnExactLeafAt", spec := "fnExactLeafAt", inPlace := ["internal/abi.NoEscape", "internal/bytealg.MakeNoZero"], unfollowed := true, recurses := true, named := ["loop.example/g00838/impl.keyWords", "internal/strconv.uint64pow10", "math/bits.deBruijn32tab", "math/bits.deBruijn64tab"], apart := false, laid := [("math/bits.deBruijn32tab", laid_math_bits_deBruijn32tab), ("math/bits.deBruijn64tab", laid_math_bits_deBruijn64tab), ("internal/strconv.uint64pow10", laid_internal_strconv_uint64pow10), ("loop.example/g00838/impl.keyWords", laid_loop_example_g00838_impl_keyWords)] }
def FnExactLeafAtSaid : Prop := fnExactLeafAtRow.holds Tryz.pinned (OpenSpec.ofChange fnExactLeafAtSpec)

/-- ITS FALSE NEIGHBOUR: 'it returns false'. Refute it at one input. -/
def fnExactLeafAtWrong : ChangeSpec := { name := "fnExactLeafAt", vars := ["loop.example/g00838/impl.keyWords"], fn := fun _ => fun
  | [d1, d2, g1] => { results := [.lit (.bool false)], args := [d1, d2], vars := [g1] }
  | _ => none }
def FnExactLeafAtWrongFalsely : Prop := fnExactLeafAtRow.holds Tryz.pinned (OpenSpec.ofChange fnExactLeafAtWrong)

/-- 'laws.FnExactKidsAt': WHATEVER THE INPUT: true; the input reads as it did. -/
def fnExactKidsAtSpec : ChangeSpec := { name := "fnExactKidsAt", vars := ["loop.example/g00838/impl.keyWords"], fn := fun _ => fun
  | [d1, d2, g1] => { results := [.lit (.bool true)], args := [d1, d2], vars := [g1] }
  | _ => none }
def fnExactKidsAtRow : OpenClaim := { program := "ytdpmlddmdogggaagreatdoor", sum := "b0a00a14ab1723147c7807419574cd22496a83886022a02603a76e965820aa8f", func := "loop.example/g00838/laws.FnExactKidsAt", spec := "fnExactKidsAt", inPlace := ["internal/abi.NoEscape", "internal/bytealg.MakeNoZero"], unfollowed := true, recurses := true, named := ["loop.example/g00838/impl.keyWords", "internal/strconv.uint64pow10", "math/bits.deBruijn32tab", "math/bits.deBruijn64tab"], apart := false, laid := [("math/bits.deBruijn32tab", laid_math_bits_deBruijn32tab), ("math/bits.deBruijn64tab", laid_math_bits_deBruijn64tab), ("internal/strconv.uint64pow10", laid_internal_strconv_uint64pow10), ("loop.example/g00838/impl.keyWords", laid_loop_example_g00838_impl_keyWords)] }
def FnExactKidsAtSaid : Prop := fnExactKidsAtRow.holds Tryz.pinned (OpenSpec.ofChange fnExactKidsAtSpec)

/-- ITS FALSE NEIGHBOUR: 'it returns false'. Refute it at one input. -/
def fnExactKidsAtWrong : ChangeSpec := { name := "fnExactKidsAt", vars := ["loop.example/g00838/impl.keyWords"], fn := fun _ => fun
  | [d1, d2, g1] => { results := [.lit (.bool false)], args := [d1, d2], vars := [g1] }
  | _ => none }
def FnExactKidsAtWrongFalsely : Prop := fnExactKidsAtRow.holds Tryz.pinned (OpenSpec.ofChange fnExactKidsAtWrong)

/-- 'laws.FnExactWayAt': WHATEVER THE INPUT: true; the input reads as it did. -/
def fnExactWayAtSpec : ChangeSpec := { name := "fnExactWayAt", vars := ["loop.example/g00838/impl.keyWords"], fn := fun _ => fun
  | [d1, d2, g1] => { results := [.lit (.bool true)], args := [d1, d2], vars := [g1] }
  | _ => none }
def fnExactWayAtRow : OpenClaim := { program := "ytdpmlddmdogggaagreatdoor", sum := "b0a00a14ab1723147c7807419574cd22496a83886022a02603a76e965820aa8f", func := "loop.example/g00838/laws.FnExactWayAt", spec := "fnExactWayAt", inPlace := ["internal/abi.NoEscape", "internal/bytealg.MakeNoZero"], unfollowed := true, recurses := true, named := ["loop.example/g00838/impl.keyWords", "internal/strconv.uint64pow10", "math/bits.deBruijn32tab", "math/bits.deBruijn64tab"], apart := false, laid := [("math/bits.deBruijn32tab", laid_math_bits_deBruijn32tab), ("math/bits.deBruijn64tab", laid_math_bits_deBruijn64tab), ("internal/strconv.uint64pow10", laid_internal_strconv_uint64pow10), ("loop.example/g00838/impl.keyWords", laid_loop_example_g00838_impl_keyWords)] }
def FnExactWayAtSaid : Prop := fnExactWayAtRow.holds Tryz.pinned (OpenSpec.ofChange fnExactWayAtSpec)

/-- ITS FALSE NEIGHBOUR: 'it returns false'. Refute it at one input. -/
def fnExactWayAtWrong : ChangeSpec := { name := "fnExactWayAt", vars := ["loop.example/g00838/impl.keyWords"], fn := fun _ => fun
  | [d1, d2, g1] => { results := [.lit (.bool false)], args := [d1, d2], vars := [g1] }
  | _ => none }
def FnExactWayAtWrongFalsely : Prop := fnExactWayAtRow.holds Tryz.pinned (OpenSpec.ofChange fnExactWayAtWrong)

/-- 'laws.FnExactLeavesAt': WHATEVER THE INPUT: true; the input reads as it did. -/
def fnExactLeavesAtSpec : ChangeSpec := { name := "fnExactLeavesAt", vars := ["loop.example/g00838/impl.keyWords"], fn := fun _ => fun
  | [d, g1] => { results := [.lit (.bool true)], args := [d], vars := [g1] }
  | _ => none }
def fnExactLeavesAtRow : OpenClaim := { program := "ytdpmlddmdogggaagreatdoor", sum := "b0a00a14ab1723147c7807419574cd22496a83886022a02603a76e965820aa8f", func := "loop.example/g00838/laws.FnExactLeavesAt", spec := "fnExactLeavesAt", inPlace := ["internal/abi.NoEscape", "internal/bytealg.MakeNoZero"], unfollowed := true, recurses := true, named := ["loop.example/g00838/impl.keyWords", "internal/strconv.uint64pow10", "math/bits.deBruijn32tab", "math/bits.deBruijn64tab"], apart := false, laid := [("math/bits.deBruijn32tab", laid_math_bits_deBruijn32tab), ("math/bits.deBruijn64tab", laid_math_bits_deBruijn64tab), ("internal/strconv.uint64pow10", laid_internal_strconv_uint64pow10), ("loop.example/g00838/impl.keyWords", laid_loop_example_g00838_impl_keyWords)] }
def FnExactLeavesAtSaid : Prop := fnExactLeavesAtRow.holds Tryz.pinned (OpenSpec.ofChange fnExactLeavesAtSpec)

/-- ITS FALSE NEIGHBOUR: 'it returns false'. Refute it at one input. -/
def fnExactLeavesAtWrong : ChangeSpec := { name := "fnExactLeavesAt", vars := ["loop.example/g00838/impl.keyWords"], fn := fun _ => fun
  | [d, g1] => { results := [.lit (.bool false)], args := [d], vars := [g1] }
  | _ => none }
def FnExactLeavesAtWrongFalsely : Prop := fnExactLeavesAtRow.holds Tryz.pinned (OpenSpec.ofChange fnExactLeavesAtWrong)

/-- 'laws.FnExactDepthsAt': WHATEVER THE INPUT: true; the input reads as it did. -/
def fnExactDepthsAtSpec : ChangeSpec := { name := "fnExactDepthsAt", vars := ["loop.example/g00838/impl.keyWords"], fn := fun _ => fun
  | [d, g1] => { results := [.lit (.bool true)], args := [d], vars := [g1] }
  | _ => none }
def fnExactDepthsAtRow : OpenClaim := { program := "ytdpmlddmdogggaagreatdoor", sum := "b0a00a14ab1723147c7807419574cd22496a83886022a02603a76e965820aa8f", func := "loop.example/g00838/laws.FnExactDepthsAt", spec := "fnExactDepthsAt", inPlace := ["internal/abi.NoEscape", "internal/bytealg.MakeNoZero"], unfollowed := true, recurses := true, named := ["loop.example/g00838/impl.keyWords", "internal/strconv.uint64pow10", "math/bits.deBruijn32tab", "math/bits.deBruijn64tab"], apart := false, laid := [("math/bits.deBruijn32tab", laid_math_bits_deBruijn32tab), ("math/bits.deBruijn64tab", laid_math_bits_deBruijn64tab), ("internal/strconv.uint64pow10", laid_internal_strconv_uint64pow10), ("loop.example/g00838/impl.keyWords", laid_loop_example_g00838_impl_keyWords)] }
def FnExactDepthsAtSaid : Prop := fnExactDepthsAtRow.holds Tryz.pinned (OpenSpec.ofChange fnExactDepthsAtSpec)

/-- ITS FALSE NEIGHBOUR: 'it returns false'. Refute it at one input. -/
def fnExactDepthsAtWrong : ChangeSpec := { name := "fnExactDepthsAt", vars := ["loop.example/g00838/impl.keyWords"], fn := fun _ => fun
  | [d, g1] => { results := [.lit (.bool false)], args := [d], vars := [g1] }
  | _ => none }
def FnExactDepthsAtWrongFalsely : Prop := fnExactDepthsAtRow.holds Tryz.pinned (OpenSpec.ofChange fnExactDepthsAtWrong)

/-- 'laws.FnExactLenderOf': WHATEVER THE INPUT: true; the input reads as it did. -/
def fnExactLenderOfSpec : ChangeSpec := { name := "fnExactLenderOf", vars := ["loop.example/g00838/impl.keyWords"], fn := fun _ => fun
  | [d1, d2, d3, d4, g1] => { results := [.lit (.bool true)], args := [d1, d2, d3, d4], vars := [g1] }
  | _ => none }
def fnExactLenderOfRow : OpenClaim := { program := "ytdpmlddmdogggaagreatdoor", sum := "b0a00a14ab1723147c7807419574cd22496a83886022a02603a76e965820aa8f", func := "loop.example/g00838/laws.FnExactLenderOf", spec := "fnExactLenderOf", inPlace := ["internal/abi.NoEscape", "internal/bytealg.MakeNoZero"], unfollowed := true, recurses := true, named := ["loop.example/g00838/impl.keyWords", "internal/strconv.uint64pow10", "math/bits.deBruijn32tab", "math/bits.deBruijn64tab"], apart := false, laid := [("math/bits.deBruijn32tab", laid_math_bits_deBruijn32tab), ("math/bits.deBruijn64tab", laid_math_bits_deBruijn64tab), ("internal/strconv.uint64pow10", laid_internal_strconv_uint64pow10), ("loop.example/g00838/impl.keyWords", laid_loop_example_g00838_impl_keyWords)] }
def FnExactLenderOfSaid : Prop := fnExactLenderOfRow.holds Tryz.pinned (OpenSpec.ofChange fnExactLenderOfSpec)

/-- ITS FALSE NEIGHBOUR: 'it returns false'. Refute it at one input. -/
def fnExactLenderOfWrong : ChangeSpec := { name := "fnExactLenderOf", vars := ["loop.example/g00838/impl.keyWords"], fn := fun _ => fun
  | [d1, d2, d3, d4, g1] => { results := [.lit (.bool false)], args := [d1, d2, d3, d4], vars := [g1] }
  | _ => none }
def FnExactLenderOfWrongFalsely : Prop := fnExactLenderOfRow.holds Tryz.pinned (OpenSpec.ofChange fnExactLenderOfWrong)

/- THE SECOND FORM. 'bulk': how many values and letters a reading holds, each counted each time it is reached (what is shared counts as often as it is met; a slice's spare places count too). A statement '..UptoSaid' is the law's where the arguments, and the package variables that the reading takes, are together of bulk at most 1048576: NARROWER than '..Said'. Prove '..Said' where nothing that the law and all that it calls make is longer than what came in: it says more and counts as full. Else prove '..UptoSaid'. A law counts once. -/
mutual
def uptoBulk {H : Type} : DataW H → Nat
  | .lit (.string bytes) => bytes.length + 1
  | .lit _ => 1
  | .nil => 1
  | .ptr d => uptoBulk d + 1
  | .slice elems spare => uptoBulkAll elems + uptoBulkAll spare + 1
  | .agg parts => uptoBulkAll parts + 1
  | .iface _ d => uptoBulk d + 1
  | .map entries => uptoBulkEntries entries + 1
  | .held _ => 1
def uptoBulkAll {H : Type} : List (DataW H) → Nat
  | [] => 0
  | d :: r => uptoBulk d + uptoBulkAll r
def uptoBulkEntries {H : Type} : List (Lit × DataW H) → Nat
  | [] => 0
  | x :: r => uptoBulkEntry x + uptoBulkEntries r
def uptoBulkEntry {H : Type} : Lit × DataW H → Nat
  | (.string bytes, d) => bytes.length + uptoBulk d + 1
  | (_, d) => uptoBulk d + 1
 end
def uptoSmall : (H : Type) → List (DataW H) → Bool := fun _ ds => decide (uptoBulkAll ds ≤ 1048576)
def OpenSpec.upto (s : _root_.Go.ChangeSpec) : _root_.Go.OpenSpec := { _root_.Go.OpenSpec.ofChange s with cond := some uptoSmall }

/-- 'laws.FnExactFullTokens', WHERE WHAT IT READS IS OF BULK AT MOST 1048576: true; the input reads as it did. -/
def fnExactFullTokensUptoRow : OpenClaim := { program := "ytdpmlddmdogggaagreatdoor", sum := "b0a00a14ab1723147c7807419574cd22496a83886022a02603a76e965820aa8f", func := "loop.example/g00838/laws.FnExactFullTokens", spec := "fnExactFullTokens", inPlace := ["internal/abi.NoEscape", "internal/bytealg.MakeNoZero"], unfollowed := true, recurses := true, named := ["loop.example/g00838/impl.keyWords", "internal/strconv.uint64pow10", "math/bits.deBruijn32tab", "math/bits.deBruijn64tab"], apart := false, laid := [("math/bits.deBruijn32tab", laid_math_bits_deBruijn32tab), ("math/bits.deBruijn64tab", laid_math_bits_deBruijn64tab), ("internal/strconv.uint64pow10", laid_internal_strconv_uint64pow10), ("loop.example/g00838/impl.keyWords", laid_loop_example_g00838_impl_keyWords)], narrowed := true }
def FnExactFullTokensUptoSaid : Prop := fnExactFullTokensUptoRow.holds Tryz.pinned (OpenSpec.upto fnExactFullTokensSpec)

/-- 'laws.FnExactMaySend', WHERE WHAT IT READS IS OF BULK AT MOST 1048576: true; the input reads as it did. -/
def fnExactMaySendUptoRow : OpenClaim := { program := "ytdpmlddmdogggaagreatdoor", sum := "b0a00a14ab1723147c7807419574cd22496a83886022a02603a76e965820aa8f", func := "loop.example/g00838/laws.FnExactMaySend", spec := "fnExactMaySend", inPlace := ["internal/abi.NoEscape", "internal/bytealg.MakeNoZero"], unfollowed := true, recurses := true, named := ["loop.example/g00838/impl.keyWords", "internal/strconv.uint64pow10", "math/bits.deBruijn32tab", "math/bits.deBruijn64tab"], apart := false, laid := [("math/bits.deBruijn32tab", laid_math_bits_deBruijn32tab), ("math/bits.deBruijn64tab", laid_math_bits_deBruijn64tab), ("internal/strconv.uint64pow10", laid_internal_strconv_uint64pow10), ("loop.example/g00838/impl.keyWords", laid_loop_example_g00838_impl_keyWords)], narrowed := true }
def FnExactMaySendUptoSaid : Prop := fnExactMaySendUptoRow.holds Tryz.pinned (OpenSpec.upto fnExactMaySendSpec)

/-- 'laws.FnExactWaitOf', WHERE WHAT IT READS IS OF BULK AT MOST 1048576: true; the input reads as it did. -/
def fnExactWaitOfUptoRow : OpenClaim := { program := "ytdpmlddmdogggaagreatdoor", sum := "b0a00a14ab1723147c7807419574cd22496a83886022a02603a76e965820aa8f", func := "loop.example/g00838/laws.FnExactWaitOf", spec := "fnExactWaitOf", inPlace := ["internal/abi.NoEscape", "internal/bytealg.MakeNoZero"], unfollowed := true, recurses := true, named := ["loop.example/g00838/impl.keyWords", "internal/strconv.uint64pow10", "math/bits.deBruijn32tab", "math/bits.deBruijn64tab"], apart := false, laid := [("math/bits.deBruijn32tab", laid_math_bits_deBruijn32tab), ("math/bits.deBruijn64tab", laid_math_bits_deBruijn64tab), ("internal/strconv.uint64pow10", laid_internal_strconv_uint64pow10), ("loop.example/g00838/impl.keyWords", laid_loop_example_g00838_impl_keyWords)], narrowed := true }
def FnExactWaitOfUptoSaid : Prop := fnExactWaitOfUptoRow.holds Tryz.pinned (OpenSpec.upto fnExactWaitOfSpec)

/-- 'laws.FnExactIsLoaded', WHERE WHAT IT READS IS OF BULK AT MOST 1048576: true; the input reads as it did. -/
def fnExactIsLoadedUptoRow : OpenClaim := { program := "ytdpmlddmdogggaagreatdoor", sum := "b0a00a14ab1723147c7807419574cd22496a83886022a02603a76e965820aa8f", func := "loop.example/g00838/laws.FnExactIsLoaded", spec := "fnExactIsLoaded", inPlace := ["internal/abi.NoEscape", "internal/bytealg.MakeNoZero"], unfollowed := true, recurses := true, named := ["loop.example/g00838/impl.keyWords", "internal/strconv.uint64pow10", "math/bits.deBruijn32tab", "math/bits.deBruijn64tab"], apart := false, laid := [("math/bits.deBruijn32tab", laid_math_bits_deBruijn32tab), ("math/bits.deBruijn64tab", laid_math_bits_deBruijn64tab), ("internal/strconv.uint64pow10", laid_internal_strconv_uint64pow10), ("loop.example/g00838/impl.keyWords", laid_loop_example_g00838_impl_keyWords)], narrowed := true }
def FnExactIsLoadedUptoSaid : Prop := fnExactIsLoadedUptoRow.holds Tryz.pinned (OpenSpec.upto fnExactIsLoadedSpec)

/-- 'laws.FnExactIsInside', WHERE WHAT IT READS IS OF BULK AT MOST 1048576: true; the input reads as it did. -/
def fnExactIsInsideUptoRow : OpenClaim := { program := "ytdpmlddmdogggaagreatdoor", sum := "b0a00a14ab1723147c7807419574cd22496a83886022a02603a76e965820aa8f", func := "loop.example/g00838/laws.FnExactIsInside", spec := "fnExactIsInside", inPlace := ["internal/abi.NoEscape", "internal/bytealg.MakeNoZero"], unfollowed := true, recurses := true, named := ["loop.example/g00838/impl.keyWords", "internal/strconv.uint64pow10", "math/bits.deBruijn32tab", "math/bits.deBruijn64tab"], apart := false, laid := [("math/bits.deBruijn32tab", laid_math_bits_deBruijn32tab), ("math/bits.deBruijn64tab", laid_math_bits_deBruijn64tab), ("internal/strconv.uint64pow10", laid_internal_strconv_uint64pow10), ("loop.example/g00838/impl.keyWords", laid_loop_example_g00838_impl_keyWords)], narrowed := true }
def FnExactIsInsideUptoSaid : Prop := fnExactIsInsideUptoRow.holds Tryz.pinned (OpenSpec.upto fnExactIsInsideSpec)

/-- 'laws.FnExactMostIn', WHERE WHAT IT READS IS OF BULK AT MOST 1048576: true; the input reads as it did. -/
def fnExactMostInUptoRow : OpenClaim := { program := "ytdpmlddmdogggaagreatdoor", sum := "b0a00a14ab1723147c7807419574cd22496a83886022a02603a76e965820aa8f", func := "loop.example/g00838/laws.FnExactMostIn", spec := "fnExactMostIn", inPlace := ["internal/abi.NoEscape", "internal/bytealg.MakeNoZero"], unfollowed := true, recurses := true, named := ["loop.example/g00838/impl.keyWords", "internal/strconv.uint64pow10", "math/bits.deBruijn32tab", "math/bits.deBruijn64tab"], apart := false, laid := [("math/bits.deBruijn32tab", laid_math_bits_deBruijn32tab), ("math/bits.deBruijn64tab", laid_math_bits_deBruijn64tab), ("internal/strconv.uint64pow10", laid_internal_strconv_uint64pow10), ("loop.example/g00838/impl.keyWords", laid_loop_example_g00838_impl_keyWords)], narrowed := true }
def FnExactMostInUptoSaid : Prop := fnExactMostInUptoRow.holds Tryz.pinned (OpenSpec.upto fnExactMostInSpec)

/-- 'laws.FnExactCommonAt', WHERE WHAT IT READS IS OF BULK AT MOST 1048576: true; the input reads as it did. -/
def fnExactCommonAtUptoRow : OpenClaim := { program := "ytdpmlddmdogggaagreatdoor", sum := "b0a00a14ab1723147c7807419574cd22496a83886022a02603a76e965820aa8f", func := "loop.example/g00838/laws.FnExactCommonAt", spec := "fnExactCommonAt", inPlace := ["internal/abi.NoEscape", "internal/bytealg.MakeNoZero"], unfollowed := true, recurses := true, named := ["loop.example/g00838/impl.keyWords", "internal/strconv.uint64pow10", "math/bits.deBruijn32tab", "math/bits.deBruijn64tab"], apart := false, laid := [("math/bits.deBruijn32tab", laid_math_bits_deBruijn32tab), ("math/bits.deBruijn64tab", laid_math_bits_deBruijn64tab), ("internal/strconv.uint64pow10", laid_internal_strconv_uint64pow10), ("loop.example/g00838/impl.keyWords", laid_loop_example_g00838_impl_keyWords)], narrowed := true }
def FnExactCommonAtUptoSaid : Prop := fnExactCommonAtUptoRow.holds Tryz.pinned (OpenSpec.upto fnExactCommonAtSpec)

/-- 'laws.FnExactAreTokens', WHERE WHAT IT READS IS OF BULK AT MOST 1048576: true; the input reads as it did. -/
def fnExactAreTokensUptoRow : OpenClaim := { program := "ytdpmlddmdogggaagreatdoor", sum := "b0a00a14ab1723147c7807419574cd22496a83886022a02603a76e965820aa8f", func := "loop.example/g00838/laws.FnExactAreTokens", spec := "fnExactAreTokens", inPlace := ["internal/abi.NoEscape", "internal/bytealg.MakeNoZero"], unfollowed := true, recurses := true, named := ["loop.example/g00838/impl.keyWords", "internal/strconv.uint64pow10", "math/bits.deBruijn32tab", "math/bits.deBruijn64tab"], apart := false, laid := [("math/bits.deBruijn32tab", laid_math_bits_deBruijn32tab), ("math/bits.deBruijn64tab", laid_math_bits_deBruijn64tab), ("internal/strconv.uint64pow10", laid_internal_strconv_uint64pow10), ("loop.example/g00838/impl.keyWords", laid_loop_example_g00838_impl_keyWords)], narrowed := true }
def FnExactAreTokensUptoSaid : Prop := fnExactAreTokensUptoRow.holds Tryz.pinned (OpenSpec.upto fnExactAreTokensSpec)

/-- 'laws.FnExactLeafAt', WHERE WHAT IT READS IS OF BULK AT MOST 1048576: true; the input reads as it did. -/
def fnExactLeafAtUptoRow : OpenClaim := { program := "ytdpmlddmdogggaagreatdoor", sum := "b0a00a14ab1723147c7807419574cd22496a83886022a02603a76e965820aa8f", func := "loop.example/g00838/laws.FnExactLeafAt", spec := "fnExactLeafAt", inPlace := ["internal/abi.NoEscape", "internal/bytealg.MakeNoZero"], unfollowed := true, recurses := true, named := ["loop.example/g00838/impl.keyWords", "internal/strconv.uint64pow10", "math/bits.deBruijn32tab", "math/bits.deBruijn64tab"], apart := false, laid := [("math/bits.deBruijn32tab", laid_math_bits_deBruijn32tab), ("math/bits.deBruijn64tab", laid_math_bits_deBruijn64tab), ("internal/strconv.uint64pow10", laid_internal_strconv_uint64pow10), ("loop.example/g00838/impl.keyWords", laid_loop_example_g00838_impl_keyWords)], narrowed := true }
def FnExactLeafAtUptoSaid : Prop := fnExactLeafAtUptoRow.holds Tryz.pinned (OpenSpec.upto fnExactLeafAtSpec)

/-- 'laws.FnExactKidsAt', WHERE WHAT IT READS IS OF BULK AT MOST 1048576: true; the input reads as it did. -/
def fnExactKidsAtUptoRow : OpenClaim := { program := "ytdpmlddmdogggaagreatdoor", sum := "b0a00a14ab1723147c7807419574cd22496a83886022a02603a76e965820aa8f", func := "loop.example/g00838/laws.FnExactKidsAt", spec := "fnExactKidsAt", inPlace := ["internal/abi.NoEscape", "internal/bytealg.MakeNoZero"], unfollowed := true, recurses := true, named := ["loop.example/g00838/impl.keyWords", "internal/strconv.uint64pow10", "math/bits.deBruijn32tab", "math/bits.deBruijn64tab"], apart := false, laid := [("math/bits.deBruijn32tab", laid_math_bits_deBruijn32tab), ("math/bits.deBruijn64tab", laid_math_bits_deBruijn64tab), ("internal/strconv.uint64pow10", laid_internal_strconv_uint64pow10), ("loop.example/g00838/impl.keyWords", laid_loop_example_g00838_impl_keyWords)], narrowed := true }
def FnExactKidsAtUptoSaid : Prop := fnExactKidsAtUptoRow.holds Tryz.pinned (OpenSpec.upto fnExactKidsAtSpec)

/-- 'laws.FnExactWayAt', WHERE WHAT IT READS IS OF BULK AT MOST 1048576: true; the input reads as it did. -/
def fnExactWayAtUptoRow : OpenClaim := { program := "ytdpmlddmdogggaagreatdoor", sum := "b0a00a14ab1723147c7807419574cd22496a83886022a02603a76e965820aa8f", func := "loop.example/g00838/laws.FnExactWayAt", spec := "fnExactWayAt", inPlace := ["internal/abi.NoEscape", "internal/bytealg.MakeNoZero"], unfollowed := true, recurses := true, named := ["loop.example/g00838/impl.keyWords", "internal/strconv.uint64pow10", "math/bits.deBruijn32tab", "math/bits.deBruijn64tab"], apart := false, laid := [("math/bits.deBruijn32tab", laid_math_bits_deBruijn32tab), ("math/bits.deBruijn64tab", laid_math_bits_deBruijn64tab), ("internal/strconv.uint64pow10", laid_internal_strconv_uint64pow10), ("loop.example/g00838/impl.keyWords", laid_loop_example_g00838_impl_keyWords)], narrowed := true }
def FnExactWayAtUptoSaid : Prop := fnExactWayAtUptoRow.holds Tryz.pinned (OpenSpec.upto fnExactWayAtSpec)

/-- 'laws.FnExactLeavesAt', WHERE WHAT IT READS IS OF BULK AT MOST 1048576: true; the input reads as it did. -/
def fnExactLeavesAtUptoRow : OpenClaim := { program := "ytdpmlddmdogggaagreatdoor", sum := "b0a00a14ab1723147c7807419574cd22496a83886022a02603a76e965820aa8f", func := "loop.example/g00838/laws.FnExactLeavesAt", spec := "fnExactLeavesAt", inPlace := ["internal/abi.NoEscape", "internal/bytealg.MakeNoZero"], unfollowed := true, recurses := true, named := ["loop.example/g00838/impl.keyWords", "internal/strconv.uint64pow10", "math/bits.deBruijn32tab", "math/bits.deBruijn64tab"], apart := false, laid := [("math/bits.deBruijn32tab", laid_math_bits_deBruijn32tab), ("math/bits.deBruijn64tab", laid_math_bits_deBruijn64tab), ("internal/strconv.uint64pow10", laid_internal_strconv_uint64pow10), ("loop.example/g00838/impl.keyWords", laid_loop_example_g00838_impl_keyWords)], narrowed := true }
def FnExactLeavesAtUptoSaid : Prop := fnExactLeavesAtUptoRow.holds Tryz.pinned (OpenSpec.upto fnExactLeavesAtSpec)

/-- 'laws.FnExactDepthsAt', WHERE WHAT IT READS IS OF BULK AT MOST 1048576: true; the input reads as it did. -/
def fnExactDepthsAtUptoRow : OpenClaim := { program := "ytdpmlddmdogggaagreatdoor", sum := "b0a00a14ab1723147c7807419574cd22496a83886022a02603a76e965820aa8f", func := "loop.example/g00838/laws.FnExactDepthsAt", spec := "fnExactDepthsAt", inPlace := ["internal/abi.NoEscape", "internal/bytealg.MakeNoZero"], unfollowed := true, recurses := true, named := ["loop.example/g00838/impl.keyWords", "internal/strconv.uint64pow10", "math/bits.deBruijn32tab", "math/bits.deBruijn64tab"], apart := false, laid := [("math/bits.deBruijn32tab", laid_math_bits_deBruijn32tab), ("math/bits.deBruijn64tab", laid_math_bits_deBruijn64tab), ("internal/strconv.uint64pow10", laid_internal_strconv_uint64pow10), ("loop.example/g00838/impl.keyWords", laid_loop_example_g00838_impl_keyWords)], narrowed := true }
def FnExactDepthsAtUptoSaid : Prop := fnExactDepthsAtUptoRow.holds Tryz.pinned (OpenSpec.upto fnExactDepthsAtSpec)

/-- 'laws.FnExactLenderOf', WHERE WHAT IT READS IS OF BULK AT MOST 1048576: true; the input reads as it did. -/
def fnExactLenderOfUptoRow : OpenClaim := { program := "ytdpmlddmdogggaagreatdoor", sum := "b0a00a14ab1723147c7807419574cd22496a83886022a02603a76e965820aa8f", func := "loop.example/g00838/laws.FnExactLenderOf", spec := "fnExactLenderOf", inPlace := ["internal/abi.NoEscape", "internal/bytealg.MakeNoZero"], unfollowed := true, recurses := true, named := ["loop.example/g00838/impl.keyWords", "internal/strconv.uint64pow10", "math/bits.deBruijn32tab", "math/bits.deBruijn64tab"], apart := false, laid := [("math/bits.deBruijn32tab", laid_math_bits_deBruijn32tab), ("math/bits.deBruijn64tab", laid_math_bits_deBruijn64tab), ("internal/strconv.uint64pow10", laid_internal_strconv_uint64pow10), ("loop.example/g00838/impl.keyWords", laid_loop_example_g00838_impl_keyWords)], narrowed := true }
def FnExactLenderOfUptoSaid : Prop := fnExactLenderOfUptoRow.holds Tryz.pinned (OpenSpec.upto fnExactLenderOfSpec)

end Rows
end Go.Proofs.YtdpmlddmdogggaaGreatDoor
