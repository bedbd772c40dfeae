/-
  What is said here: the library's table of powers of ten, which the card lists. Condition: none.
-/
import Derived.Test.YtecpfgnkiifnpaaDoorTDYtecpfgnkiifnpaaDoor
import Derived.Test.YtecpfgnkiifnpaaDoorAbsF
import Derived.Test.YtecpfgnkiifnpaaDoorAbsG
namespace Go.Proofs
open Go.Abs
def powX : List X := (Lib.pow10Tab.map fun z => Value.int .u64 z).map X.v
def K : List (Nat × List X) := [(7, powX)]
end Go.Proofs
