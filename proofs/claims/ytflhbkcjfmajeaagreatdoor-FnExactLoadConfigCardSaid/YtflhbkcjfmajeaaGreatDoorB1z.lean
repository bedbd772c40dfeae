/-
  What is proved here: contracts of the small checks of numbers. Condition: none.
-/
import Derived.Test.YtflhbkcjfmajeaaGreatDoorLIz
namespace Go.Proofs
open Go.Abs
set_option linter.unusedSimpArgs false
set_option linter.unnecessarySimpa false
set_option linter.unusedVariables false
set_option maxHeartbeats 4000000
set_option maxRecDepth 20000

theorem not_true {b : Bool} (h : ¬ b = true) : b = false := by simpa using h
/-! ### small checks -/
def F42 : Fun := ⟨fun xs => xs = [I (deI (xs.getD 0 .top) : Int), I (deI (xs.getD 1 .top) : Int), I (deI (xs.getD 2 .top) : Int)] ∧ (fun (x : Int) (lo : Int) (hi : Int) => (True)) (deI (xs.getD 0 .top) : Int) (deI (xs.getD 1 .top) : Int) (deI (xs.getD 2 .top) : Int), fun xs => (fun (x : Int) (lo : Int) (hi : Int) => ((B (rng lo hi x), []) : X × List Ob)) (deI (xs.getD 0 .top) : Int) (deI (xs.getD 1 .top) : Int) (deI (xs.getD 2 .top) : Int)⟩
theorem F42_in {xs : List X} (h : F42.pre xs) : ∃ (x : Int) (lo : Int) (hi : Int), xs = [I x, I lo, I hi] ∧ (True) := ⟨_, _, _, h.1, h.2⟩
theorem F42_res (x : Int) (lo : Int) (hi : Int) : F42.res [I x, I lo, I hi] = (B (rng lo hi x), []) := by simp [F42]
theorem F42_mk (x : Int) (lo : Int) (hi : Int) (h : True) : F42.pre [I x, I lo, I hi] := by simpa [F42] using h
theorem c42 : GenCA K Tryz.prog 42 F42 := by
  refine contractA Tryz.mix K [] [] (by simp) (by simp) Tryz.func42 rfl (by decide) ?_
  intro xs hxs
  obtain ⟨x, lo, hi, rfl, hp⟩ := F42_in hxs
  rw [F42_res]
  refine ⟨by rw [Tryz.ntmps42]; simp, ?_⟩
  simp -implicitDefEqProofs [Tryz.f42, List.lookup_cons, and_assoc, pick_and, pick_or, if_and, if_or]
  refine fin_pure (by simp) ?_
  simp -implicitDefEqProofs [pur2_i, pur2_b, pur2_s, pur2_nil, pur2_sl, pur2_tup, rn2_tup, rn2_agg, rn2_osl, rn1_v, rn1_osl, rn1_agg, rn0_v, rn0_sl, rn0, pickObs, pur_v, pur_b, pur_s, pur_nil, pur_sl, deI, deIs_sl, rng]
def F97 : Fun := ⟨fun xs => xs = [I (deI (xs.getD 0 .top) : Int)] ∧ (fun (x : Int) => (True)) (deI (xs.getD 0 .top) : Int), fun xs => (fun (x : Int) => ((B (rng 1 999 x), []) : X × List Ob)) (deI (xs.getD 0 .top) : Int)⟩
theorem F97_in {xs : List X} (h : F97.pre xs) : ∃ (x : Int), xs = [I x] ∧ (True) := ⟨_, h.1, h.2⟩
theorem F97_res (x : Int) : F97.res [I x] = (B (rng 1 999 x), []) := by simp [F97]
theorem F97_mk (x : Int) (h : True) : F97.pre [I x] := by simpa [F97] using h
theorem c97 : GenCA K Tryz.prog 97 F97 := by
  refine contractA Tryz.mix K [] [] (by simp) (by simp) Tryz.func97 rfl (by decide) ?_
  intro xs hxs
  obtain ⟨x, rfl, hp⟩ := F97_in hxs
  rw [F97_res]
  refine ⟨by rw [Tryz.ntmps97]; simp, ?_⟩
  simp -implicitDefEqProofs [Tryz.f97, List.lookup_cons, and_assoc, pick_and, pick_or, if_and, if_or]
  refine fin_pure (by simp) ?_
  simp -implicitDefEqProofs [pur2_i, pur2_b, pur2_s, pur2_nil, pur2_sl, pur2_tup, rn2_tup, rn2_agg, rn2_osl, rn1_v, rn1_osl, rn1_agg, rn0_v, rn0_sl, rn0, pickObs, pur_v, pur_b, pur_s, pur_nil, pur_sl, deI, deIs_sl, rng]
end Go.Proofs
