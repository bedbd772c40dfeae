/-
  What is proved here: contracts of the law's own functions on whole numbers. Condition: none.
-/
import Derived.Test.YtecpfgnkiifnpaaKXYtecpfgnkiifnpaa
namespace Go.Proofs
open Go.Abs
set_option linter.unusedSimpArgs false
set_option linter.unnecessarySimpa false
set_option linter.unusedVariables false
set_option maxHeartbeats 4000000
set_option maxRecDepth 20000
def iOb (l : List Int) : Ob := ⟨3, 1, 0, iR l, false, true, none⟩
theorem take_succ' (l : List Int) (k : Nat) (h : k < l.length) : l.take (k + 1) = l.take k ++ [l[k]] := by rw [List.take_succ_eq_append_getElem h]
def upI (k : Int) (n : Nat) : List Int := (List.range n).map fun i : Nat => k + (i : Int)
theorem upI_len (k : Int) (n : Nat) : (upI k n).length = n := by simp [upI]
theorem upI_set (k : Int) (l : List Int) (j : Nat) (h : j < l.length) : upI k j ++ (l.drop j).set 0 (k + j) = upI k (j + 1) ++ l.drop (j + 1) := by
  rw [List.drop_eq_getElem_cons h, List.set_cons_zero]
  simp [upI, List.range_succ]
@[simp] theorem upI_zero (k : Int) : upI k 0 = [] := rfl
@[simp] theorem deIs_em : deIs (.sl []) = [] := rfl
attribute [simp] upI_len
theorem fill_set (l : List Int) (k : Nat) (h : k < l.length) : (l.take k ++ List.replicate (l.length - k) 0).set k l[k] = l.take (k + 1) ++ List.replicate (l.length - (k + 1)) 0 := fillT 0 l k h
end Go.Proofs
