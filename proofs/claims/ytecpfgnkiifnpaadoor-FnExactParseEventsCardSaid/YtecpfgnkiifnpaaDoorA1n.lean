/-
  What is proved here: the contract of the reference's check of all numbers of a list. Condition: none.
-/
import Derived.Test.YtecpfgnkiifnpaaDoorLBN
namespace Go.Proofs
open Go.Abs
set_option linter.unusedSimpArgs false
set_option linter.unnecessarySimpa false
set_option linter.unusedVariables false
set_option maxHeartbeats 8000000
set_option maxRecDepth 20000
theorem all_stepI (l : List Int) (p : Int → Bool) (k : Nat) (h : k < l.length) (h1 : (l.take k).all p = true) (h2 : p l[k] = true) : (l.take (k + 1)).all p = true := by
  rw [takeS l k h, List.all_append, h1]; simp [h2]
theorem all_badI (l : List Int) (p : Int → Bool) (k : Nat) (h : k < l.length) (h2 : p l[k] = false) : l.all p = false := not_true fun h3 => by
  rw [List.all_eq_true] at h3
  rw [h3 _ (List.getElem_mem h)] at h2; cases h2
end Go.Proofs
