/-
  What is proved here: contracts of the small checks of numbers. Condition: none.
-/
import Derived.Test.YtbiakbagcdghlaaDoorLIv
namespace Go.Proofs
open Go.Abs
set_option linter.unusedSimpArgs false
set_option linter.unnecessarySimpa false
set_option linter.unusedVariables false
set_option maxHeartbeats 4000000
set_option maxRecDepth 20000

theorem not_true {b : Bool} (h : ¬ b = true) : b = false := by simpa using h
/-! ### small checks -/
def F56 : Fun := ⟨fun xs => xs = [I (deI (xs.getD 0 .top) : Int), I (deI (xs.getD 1 .top) : Int), I (deI (xs.getD 2 .top) : Int)] ∧ (fun (x : Int) (lo : Int) (hi : Int) => (True)) (deI (xs.getD 0 .top) : Int) (deI (xs.getD 1 .top) : Int) (deI (xs.getD 2 .top) : Int), fun xs => (fun (x : Int) (lo : Int) (hi : Int) => ((B (rng lo hi x), []) : X × List Ob)) (deI (xs.getD 0 .top) : Int) (deI (xs.getD 1 .top) : Int) (deI (xs.getD 2 .top) : Int)⟩
theorem F56_in {xs : List X} (h : F56.pre xs) : ∃ (x : Int) (lo : Int) (hi : Int), xs = [I x, I lo, I hi] ∧ (True) := ⟨_, _, _, h.1, h.2⟩
theorem F56_res (x : Int) (lo : Int) (hi : Int) : F56.res [I x, I lo, I hi] = (B (rng lo hi x), []) := by simp [F56]
theorem F56_mk (x : Int) (lo : Int) (hi : Int) (h : True) : F56.pre [I x, I lo, I hi] := by simpa [F56] using h
theorem c56 : GenCA K Tryd.prog 56 F56 := by
  refine contractA Tryd.mix K [] [] (by simp) (by simp) Tryd.func56 rfl (by decide) ?_
  intro xs hxs
  obtain ⟨x, lo, hi, rfl, hp⟩ := F56_in hxs
  rw [F56_res]
  refine ⟨by rw [Tryd.ntmps56]; simp, ?_⟩
  simp -implicitDefEqProofs [Tryd.f56, List.lookup_cons, and_assoc, pick_and, pick_or, if_and, if_or]
  refine fin_pure (by simp) ?_
  simp -implicitDefEqProofs [pur2_i, pur2_b, pur2_s, pur2_nil, pur2_sl, pur2_tup, rn2_tup, rn2_agg, rn2_osl, rn1_v, rn1_osl, rn1_agg, rn0_v, rn0_sl, rn0, pickObs, pur_v, pur_b, pur_s, pur_nil, pur_sl, deI, deIs_sl, rng]
end Go.Proofs
