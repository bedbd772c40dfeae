/-
  What is proved here: the digits of a number as a text; the contract of the law's markText. Condition: none.
-/
import Derived.Test.YtflhbkcjfmajeaaGreatDoorKXYtflhbkcjfmajeaaGreatDoor
import Derived.Test.YtflhbkcjfmajeaaGreatDoorAbs25
namespace Go.Proofs
open Go.Abs
set_option linter.unusedSimpArgs false
set_option linter.unnecessarySimpa false
set_option linter.unusedVariables false
set_option maxHeartbeats 4000000
set_option maxRecDepth 20000

@[simp] theorem bsU : byteSl Tryz.prog 127 = true := by kernel_rfl
def dig (k : Nat) : ByteArray := mkS [IntKind.u8.wrap (48 + (k % 10 : Nat))]
theorem dig_size (k : Nat) : (dig k).size = 1 := by simp [dig, mkS]
def mtl (k : Nat) (o : ByteArray) : ByteArray := if _h : k = 0 then o else mtl (k / 10) (dig k ++ o)
  termination_by k
  decreasing_by omega
theorem mtl_zero (o : ByteArray) : mtl 0 o = o := by rw [mtl]; simp
theorem mtl_pos (k : Nat) (o : ByteArray) (h : 0 < k) : mtl k o = mtl (k / 10) (dig k ++ o) := by
  rw [mtl]
  rw [dif_neg (by omega)]
def mTx (k : Int) : ByteArray := if k ≤ 0 then ⟨#[109, 48]⟩ else ⟨#[109]⟩ ++ mtl k.toNat ⟨#[]⟩
end Go.Proofs
