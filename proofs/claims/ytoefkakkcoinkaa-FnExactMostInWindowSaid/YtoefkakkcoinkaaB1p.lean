/-
  What is proved here: contracts of the small checks of numbers. Condition: none.
-/
import Derived.Test.YtoefkakkcoinkaaLIp
namespace Go.Proofs
open Go.Abs
set_option linter.unusedSimpArgs false
set_option linter.unnecessarySimpa false
set_option linter.unusedVariables false
set_option maxHeartbeats 4000000
set_option maxRecDepth 20000

theorem not_true {b : Bool} (h : ¬ b = true) : b = false := by simpa using h
/-! ### small checks -/
def F45 : Fun := ⟨fun xs => xs = [I (deI (xs.getD 0 .top) : Int), I (deI (xs.getD 1 .top) : Int), I (deI (xs.getD 2 .top) : Int)] ∧ (fun (x : Int) (lo : Int) (hi : Int) => (True)) (deI (xs.getD 0 .top) : Int) (deI (xs.getD 1 .top) : Int) (deI (xs.getD 2 .top) : Int), fun xs => (fun (x : Int) (lo : Int) (hi : Int) => ((B (rng lo hi x), []) : X × List Ob)) (deI (xs.getD 0 .top) : Int) (deI (xs.getD 1 .top) : Int) (deI (xs.getD 2 .top) : Int)⟩
theorem F45_in {xs : List X} (h : F45.pre xs) : ∃ (x : Int) (lo : Int) (hi : Int), xs = [I x, I lo, I hi] ∧ (True) := ⟨_, _, _, h.1, h.2⟩
theorem F45_res (x : Int) (lo : Int) (hi : Int) : F45.res [I x, I lo, I hi] = (B (rng lo hi x), []) := by simp [F45]
theorem F45_mk (x : Int) (lo : Int) (hi : Int) (h : True) : F45.pre [I x, I lo, I hi] := by simpa [F45] using h
theorem c45 : GenCA K Try.prog 45 F45 := by
  refine contractA Try.mix K [] [] (by simp) (by simp) Try.func45 rfl (by decide) ?_
  intro xs hxs
  obtain ⟨x, lo, hi, rfl, hp⟩ := F45_in hxs
  rw [F45_res]
  refine ⟨by rw [Try.ntmps45]; simp, ?_⟩
  simp -implicitDefEqProofs [Try.f45, List.lookup_cons, and_assoc, pick_and, pick_or, if_and, if_or]
  refine fin_pure (by simp) ?_
  simp -implicitDefEqProofs [pur2_i, pur2_b, pur2_s, pur2_nil, pur2_sl, pur2_tup, rn2_tup, rn2_agg, rn2_osl, rn1_v, rn1_osl, rn1_agg, rn0_v, rn0_sl, rn0, pickObs, pur_v, pur_b, pur_s, pur_nil, pur_sl, deI, deIs_sl, rng]
def F41 : Fun := ⟨fun xs => xs = [I (deI (xs.getD 0 .top) : Int)] ∧ (fun (x : Int) => (True)) (deI (xs.getD 0 .top) : Int), fun xs => (fun (x : Int) => ((B (rng 1 999 x), []) : X × List Ob)) (deI (xs.getD 0 .top) : Int)⟩
theorem F41_in {xs : List X} (h : F41.pre xs) : ∃ (x : Int), xs = [I x] ∧ (True) := ⟨_, h.1, h.2⟩
theorem F41_res (x : Int) : F41.res [I x] = (B (rng 1 999 x), []) := by simp [F41]
theorem F41_mk (x : Int) (h : True) : F41.pre [I x] := by simpa [F41] using h
theorem c41 : GenCA K Try.prog 41 F41 := by
  refine contractA Try.mix K [] [] (by simp) (by simp) Try.func41 rfl (by decide) ?_
  intro xs hxs
  obtain ⟨x, rfl, hp⟩ := F41_in hxs
  rw [F41_res]
  refine ⟨by rw [Try.ntmps41]; simp, ?_⟩
  simp -implicitDefEqProofs [Try.f41, List.lookup_cons, and_assoc, pick_and, pick_or, if_and, if_or]
  refine fin_pure (by simp) ?_
  simp -implicitDefEqProofs [pur2_i, pur2_b, pur2_s, pur2_nil, pur2_sl, pur2_tup, rn2_tup, rn2_agg, rn2_osl, rn1_v, rn1_osl, rn1_agg, rn0_v, rn0_sl, rn0, pickObs, pur_v, pur_b, pur_s, pur_nil, pur_sl, deI, deIs_sl, rng]
def F48 : Fun := ⟨fun xs => xs = [I (deI (xs.getD 0 .top) : Int)] ∧ (fun (x : Int) => (True)) (deI (xs.getD 0 .top) : Int), fun xs => (fun (x : Int) => ((B (rng 0 1000000 x), []) : X × List Ob)) (deI (xs.getD 0 .top) : Int)⟩
theorem F48_in {xs : List X} (h : F48.pre xs) : ∃ (x : Int), xs = [I x] ∧ (True) := ⟨_, h.1, h.2⟩
theorem F48_res (x : Int) : F48.res [I x] = (B (rng 0 1000000 x), []) := by simp [F48]
theorem F48_mk (x : Int) (h : True) : F48.pre [I x] := by simpa [F48] using h
theorem c48 : GenCA K Try.prog 48 F48 := by
  refine contractA Try.mix K [] [] (by simp) (by simp) Try.func48 rfl (by decide) ?_
  intro xs hxs
  obtain ⟨x, rfl, hp⟩ := F48_in hxs
  rw [F48_res]
  refine ⟨by rw [Try.ntmps48]; simp, ?_⟩
  simp -implicitDefEqProofs [Try.f48, List.lookup_cons, and_assoc, pick_and, pick_or, if_and, if_or]
  refine fin_pure (by simp) ?_
  simp -implicitDefEqProofs [pur2_i, pur2_b, pur2_s, pur2_nil, pur2_sl, pur2_tup, rn2_tup, rn2_agg, rn2_osl, rn1_v, rn1_osl, rn1_agg, rn0_v, rn0_sl, rn0, pickObs, pur_v, pur_b, pur_s, pur_nil, pur_sl, deI, deIs_sl, rng]
def F79 : Fun := ⟨fun xs => xs = [I (deI (xs.getD 0 .top) : Int)] ∧ (fun (x : Int) => (True)) (deI (xs.getD 0 .top) : Int), fun xs => (fun (x : Int) => ((B (rng 1 1500 x), []) : X × List Ob)) (deI (xs.getD 0 .top) : Int)⟩
theorem F79_in {xs : List X} (h : F79.pre xs) : ∃ (x : Int), xs = [I x] ∧ (True) := ⟨_, h.1, h.2⟩
theorem F79_res (x : Int) : F79.res [I x] = (B (rng 1 1500 x), []) := by simp [F79]
theorem F79_mk (x : Int) (h : True) : F79.pre [I x] := by simpa [F79] using h
theorem c79 : GenCA K Try.prog 79 F79 := by
  refine contractA Try.mix K [] [] (by simp) (by simp) Try.func79 rfl (by decide) ?_
  intro xs hxs
  obtain ⟨x, rfl, hp⟩ := F79_in hxs
  rw [F79_res]
  refine ⟨by rw [Try.ntmps79]; simp, ?_⟩
  simp -implicitDefEqProofs [Try.f79, List.lookup_cons, and_assoc, pick_and, pick_or, if_and, if_or]
  refine fin_pure (by simp) ?_
  simp -implicitDefEqProofs [pur2_i, pur2_b, pur2_s, pur2_nil, pur2_sl, pur2_tup, rn2_tup, rn2_agg, rn2_osl, rn1_v, rn1_osl, rn1_agg, rn0_v, rn0_sl, rn0, pickObs, pur_v, pur_b, pur_s, pur_nil, pur_sl, deI, deIs_sl, rng]
end Go.Proofs
