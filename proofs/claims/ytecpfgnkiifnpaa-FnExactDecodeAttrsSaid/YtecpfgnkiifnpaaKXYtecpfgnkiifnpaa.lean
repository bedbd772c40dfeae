/-
  What is said here: the package's variables that the contracts lean on: none. Condition: none.
-/
import Derived.Test.YtecpfgnkiifnpaaTDYtecpfgnkiifnpaa
import Derived.Test.YtecpfgnkiifnpaaAbsF
import Derived.Test.YtecpfgnkiifnpaaAbsG
namespace Go.Proofs
open Go.Abs
def K : List (Nat × List X) := []
end Go.Proofs
