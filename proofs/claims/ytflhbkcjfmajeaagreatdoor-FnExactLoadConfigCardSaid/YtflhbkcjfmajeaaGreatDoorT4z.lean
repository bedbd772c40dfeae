/-
  What is proved here: the reference's texts of numbers with a unit; strings.Join out of the shelf's contract. Condition: none.
-/
import Derived.Test.YtflhbkcjfmajeaaGreatDoorT3z
namespace Go.Proofs
open Go.Abs
set_option linter.unusedSimpArgs false
set_option linter.unnecessarySimpa false
set_option linter.unusedVariables false
set_option maxHeartbeats 4000000
set_option maxRecDepth 20000

@[simp] theorem deS_T (b : ByteArray) : deS (Sx b) = b := rfl
@[simp] theorem deS_T2 (b : ByteArray) : deS (.v (.string b)) = b := rfl
def strOb (l : List ByteArray) : Ob := ⟨9, 1, 0, sR l, false, true, none⟩
theorem sR_snoc (l : List ByteArray) (b : ByteArray) : sR l ++ [[.v (.string b)]] = sR (l ++ [b]) := by simp [sR]
theorem sR_cons' (a : ByteArray) (l : List ByteArray) : sR (a :: l) = [.v (.string a)] :: sR l := rfl
theorem sR_nil' : sR [] = [] := rfl
/-! ### strings.Join -/
attribute [simp] Sx
end Go.Proofs
