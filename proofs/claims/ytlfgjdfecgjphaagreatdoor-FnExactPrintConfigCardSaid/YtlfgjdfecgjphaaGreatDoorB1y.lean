/-
  What is proved here: contracts of the small checks of numbers. Condition: none.
-/
import Derived.Test.YtlfgjdfecgjphaaGreatDoorLIy
namespace Go.Proofs
open Go.Abs
set_option linter.unusedSimpArgs false
set_option linter.unnecessarySimpa false
set_option linter.unusedVariables false
set_option maxHeartbeats 4000000
set_option maxRecDepth 20000

theorem not_true {b : Bool} (h : ¬ b = true) : b = false := by simpa using h
/-! ### small checks -/
def F60 : Fun := ⟨fun xs => xs = [I (deI (xs.getD 0 .top) : Int), I (deI (xs.getD 1 .top) : Int), I (deI (xs.getD 2 .top) : Int)] ∧ (fun (x : Int) (lo : Int) (hi : Int) => (True)) (deI (xs.getD 0 .top) : Int) (deI (xs.getD 1 .top) : Int) (deI (xs.getD 2 .top) : Int), fun xs => (fun (x : Int) (lo : Int) (hi : Int) => ((B (rng lo hi x), []) : X × List Ob)) (deI (xs.getD 0 .top) : Int) (deI (xs.getD 1 .top) : Int) (deI (xs.getD 2 .top) : Int)⟩
theorem F60_in {xs : List X} (h : F60.pre xs) : ∃ (x : Int) (lo : Int) (hi : Int), xs = [I x, I lo, I hi] ∧ (True) := ⟨_, _, _, h.1, h.2⟩
theorem F60_res (x : Int) (lo : Int) (hi : Int) : F60.res [I x, I lo, I hi] = (B (rng lo hi x), []) := by simp [F60]
theorem F60_mk (x : Int) (lo : Int) (hi : Int) (h : True) : F60.pre [I x, I lo, I hi] := by simpa [F60] using h
theorem c60 : GenCA K Tryz.prog 60 F60 := by
  refine contractA Tryz.mix K [] [] (by simp) (by simp) Tryz.func60 rfl (by decide) ?_
  intro xs hxs
  obtain ⟨x, lo, hi, rfl, hp⟩ := F60_in hxs
  rw [F60_res]
  refine ⟨by rw [Tryz.ntmps60]; simp, ?_⟩
  simp -implicitDefEqProofs [Tryz.f60, List.lookup_cons, and_assoc, pick_and, pick_or, if_and, if_or]
  refine fin_pure (by simp) ?_
  simp -implicitDefEqProofs [pur2_i, pur2_b, pur2_s, pur2_nil, pur2_sl, pur2_tup, rn2_tup, rn2_agg, rn2_osl, rn1_v, rn1_osl, rn1_agg, rn0_v, rn0_sl, rn0, pickObs, pur_v, pur_b, pur_s, pur_nil, pur_sl, deI, deIs_sl, rng]
def F133 : Fun := ⟨fun xs => xs = [I (deI (xs.getD 0 .top) : Int)] ∧ (fun (x : Int) => (True)) (deI (xs.getD 0 .top) : Int), fun xs => (fun (x : Int) => ((B (rng 1 999 x), []) : X × List Ob)) (deI (xs.getD 0 .top) : Int)⟩
theorem F133_in {xs : List X} (h : F133.pre xs) : ∃ (x : Int), xs = [I x] ∧ (True) := ⟨_, h.1, h.2⟩
theorem F133_res (x : Int) : F133.res [I x] = (B (rng 1 999 x), []) := by simp [F133]
theorem F133_mk (x : Int) (h : True) : F133.pre [I x] := by simpa [F133] using h
theorem c133 : GenCA K Tryz.prog 133 F133 := by
  refine contractA Tryz.mix K [] [] (by simp) (by simp) Tryz.func133 rfl (by decide) ?_
  intro xs hxs
  obtain ⟨x, rfl, hp⟩ := F133_in hxs
  rw [F133_res]
  refine ⟨by rw [Tryz.ntmps133]; simp, ?_⟩
  simp -implicitDefEqProofs [Tryz.f133, List.lookup_cons, and_assoc, pick_and, pick_or, if_and, if_or]
  refine fin_pure (by simp) ?_
  simp -implicitDefEqProofs [pur2_i, pur2_b, pur2_s, pur2_nil, pur2_sl, pur2_tup, rn2_tup, rn2_agg, rn2_osl, rn1_v, rn1_osl, rn1_agg, rn0_v, rn0_sl, rn0, pickObs, pur_v, pur_b, pur_s, pur_nil, pur_sl, deI, deIs_sl, rng]
end Go.Proofs
