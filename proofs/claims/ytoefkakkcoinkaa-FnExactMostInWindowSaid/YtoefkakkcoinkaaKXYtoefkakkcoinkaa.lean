/-
  What is said here: the package's variables that the contracts lean on: none. Condition: none.
-/
import Derived.Test.YtoefkakkcoinkaaTDYtoefkakkcoinkaa
import Derived.Test.YtoefkakkcoinkaaAbs23
namespace Go.Proofs
open Go.Abs
def K : List (Nat × List X) := []
end Go.Proofs
