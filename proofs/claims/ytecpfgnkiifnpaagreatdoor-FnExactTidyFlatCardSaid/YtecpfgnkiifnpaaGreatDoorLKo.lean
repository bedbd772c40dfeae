/-
  What is proved here: contracts of the library's Clone at classes and at filters. Condition: none.
-/
import Derived.Test.YtecpfgnkiifnpaaGreatDoorC0o
import Derived.Test.YtecpfgnkiifnpaaGreatDoorAbs26
namespace Go.Proofs
open Go.Abs
set_option linter.unusedSimpArgs false
set_option linter.unnecessarySimpa false
set_option linter.unusedVariables false
set_option maxHeartbeats 8000000
set_option maxRecDepth 20000
def obCls (l : List Cls) : Ob := ⟨63, 8, 0, tR l, false, true, none⟩
def obFil (l : List Fil) : Ob := ⟨66, 5, 0, tR l, false, true, none⟩
end Go.Proofs
