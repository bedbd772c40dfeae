/-
  What is proved here: contracts of leaves, depths and what is inside of a loaded configuration. Condition: none.
-/
import Derived.Test.YtdpmlddmdogggaaGreatDoorIL9aj
namespace Go.Proofs
open Go.Abs
set_option linter.unusedSimpArgs false
set_option linter.unnecessarySimpa false
set_option linter.unusedVariables false
set_option maxHeartbeats 16000000
set_option maxRecDepth 20000
def bbX (b c : Bool) : X := if b = true then .tup [B c, B true] else .tup [B false, B false]
def ibX (b : Bool) (n : Int) : X := if b = true then .tup [I n, B true] else .tup [I 0, B false]
theorem bbX_t (c : Bool) : bbX true c = .tup [B c, B true] := by simp [bbX]
theorem bbX_f (c : Bool) : bbX false c = .tup [B false, B false] := by simp [bbX]
theorem ibX_t (n : Int) : ibX true n = .tup [I n, B true] := by simp [ibX]
theorem ibX_f (n : Int) : ibX false n = .tup [I 0, B false] := by simp [ibX]
end Go.Proofs
