/-
  What is said here: the library's table of powers of ten, which the card lists. Condition: none.
-/
import Derived.Test.YtlkohlnkhpknhaaDoorTDYtlkohlnkhpknhaaDoor
import Derived.Test.YtlkohlnkhpknhaaDoorAbs23
import Derived.Test.YtlkohlnkhpknhaaDoorAbsS
namespace Go.Proofs
open Go.Abs
def powX : List X := (Lib.pow10Tab.map fun z => Value.int .u64 z).map X.v
def K : List (Nat × List X) := [(2, powX)]
end Go.Proofs
