/-
  What is proved here: contracts of the small checks of numbers. Condition: none.
-/
import Derived.Test.YtlkohlnkhpknhaaDoorLIt
namespace Go.Proofs
open Go.Abs
set_option linter.unusedSimpArgs false
set_option linter.unnecessarySimpa false
set_option linter.unusedVariables false
set_option maxHeartbeats 4000000
set_option maxRecDepth 20000

theorem not_true {b : Bool} (h : ¬ b = true) : b = false := by simpa using h
/-! ### small checks -/
def F64 : Fun := ⟨fun xs => xs = [I (deI (xs.getD 0 .top) : Int), I (deI (xs.getD 1 .top) : Int), I (deI (xs.getD 2 .top) : Int)] ∧ (fun (x : Int) (lo : Int) (hi : Int) => (True)) (deI (xs.getD 0 .top) : Int) (deI (xs.getD 1 .top) : Int) (deI (xs.getD 2 .top) : Int), fun xs => (fun (x : Int) (lo : Int) (hi : Int) => ((B (rng lo hi x), []) : X × List Ob)) (deI (xs.getD 0 .top) : Int) (deI (xs.getD 1 .top) : Int) (deI (xs.getD 2 .top) : Int)⟩
theorem F64_in {xs : List X} (h : F64.pre xs) : ∃ (x : Int) (lo : Int) (hi : Int), xs = [I x, I lo, I hi] ∧ (True) := ⟨_, _, _, h.1, h.2⟩
theorem F64_res (x : Int) (lo : Int) (hi : Int) : F64.res [I x, I lo, I hi] = (B (rng lo hi x), []) := by simp [F64]
theorem F64_mk (x : Int) (lo : Int) (hi : Int) (h : True) : F64.pre [I x, I lo, I hi] := by simpa [F64] using h
theorem c64 : GenCA K Tryd.prog 64 F64 := by
  refine contractA Tryd.mix K [] [] (by simp) (by simp) Tryd.func64 rfl (by decide) ?_
  intro xs hxs
  obtain ⟨x, lo, hi, rfl, hp⟩ := F64_in hxs
  rw [F64_res]
  refine ⟨by rw [Tryd.ntmps64]; simp, ?_⟩
  simp -implicitDefEqProofs [Tryd.f64, List.lookup_cons, and_assoc, pick_and, pick_or, if_and, if_or]
  refine fin_pure (by simp) ?_
  simp -implicitDefEqProofs [pur2_i, pur2_b, pur2_s, pur2_nil, pur2_sl, pur2_tup, rn2_tup, rn2_agg, rn2_osl, rn1_v, rn1_osl, rn1_agg, rn0_v, rn0_sl, rn0, pickObs, pur_v, pur_b, pur_s, pur_nil, pur_sl, deI, deIs_sl, rng]
def F70 : Fun := ⟨fun xs => xs = [I (deI (xs.getD 0 .top) : Int)] ∧ (fun (x : Int) => (True)) (deI (xs.getD 0 .top) : Int), fun xs => (fun (x : Int) => ((B (rng 1 999 x), []) : X × List Ob)) (deI (xs.getD 0 .top) : Int)⟩
theorem F70_in {xs : List X} (h : F70.pre xs) : ∃ (x : Int), xs = [I x] ∧ (True) := ⟨_, h.1, h.2⟩
theorem F70_res (x : Int) : F70.res [I x] = (B (rng 1 999 x), []) := by simp [F70]
theorem F70_mk (x : Int) (h : True) : F70.pre [I x] := by simpa [F70] using h
theorem c70 : GenCA K Tryd.prog 70 F70 := by
  refine contractA Tryd.mix K [] [] (by simp) (by simp) Tryd.func70 rfl (by decide) ?_
  intro xs hxs
  obtain ⟨x, rfl, hp⟩ := F70_in hxs
  rw [F70_res]
  refine ⟨by rw [Tryd.ntmps70]; simp, ?_⟩
  simp -implicitDefEqProofs [Tryd.f70, List.lookup_cons, and_assoc, pick_and, pick_or, if_and, if_or]
  refine fin_pure (by simp) ?_
  simp -implicitDefEqProofs [pur2_i, pur2_b, pur2_s, pur2_nil, pur2_sl, pur2_tup, rn2_tup, rn2_agg, rn2_osl, rn1_v, rn1_osl, rn1_agg, rn0_v, rn0_sl, rn0, pickObs, pur_v, pur_b, pur_s, pur_nil, pur_sl, deI, deIs_sl, rng]
def F80 : Fun := ⟨fun xs => xs = [I (deI (xs.getD 0 .top) : Int)] ∧ (fun (x : Int) => (True)) (deI (xs.getD 0 .top) : Int), fun xs => (fun (x : Int) => ((B (rng 0 1000000 x), []) : X × List Ob)) (deI (xs.getD 0 .top) : Int)⟩
theorem F80_in {xs : List X} (h : F80.pre xs) : ∃ (x : Int), xs = [I x] ∧ (True) := ⟨_, h.1, h.2⟩
theorem F80_res (x : Int) : F80.res [I x] = (B (rng 0 1000000 x), []) := by simp [F80]
theorem F80_mk (x : Int) (h : True) : F80.pre [I x] := by simpa [F80] using h
theorem c80 : GenCA K Tryd.prog 80 F80 := by
  refine contractA Tryd.mix K [] [] (by simp) (by simp) Tryd.func80 rfl (by decide) ?_
  intro xs hxs
  obtain ⟨x, rfl, hp⟩ := F80_in hxs
  rw [F80_res]
  refine ⟨by rw [Tryd.ntmps80]; simp, ?_⟩
  simp -implicitDefEqProofs [Tryd.f80, List.lookup_cons, and_assoc, pick_and, pick_or, if_and, if_or]
  refine fin_pure (by simp) ?_
  simp -implicitDefEqProofs [pur2_i, pur2_b, pur2_s, pur2_nil, pur2_sl, pur2_tup, rn2_tup, rn2_agg, rn2_osl, rn1_v, rn1_osl, rn1_agg, rn0_v, rn0_sl, rn0, pickObs, pur_v, pur_b, pur_s, pur_nil, pur_sl, deI, deIs_sl, rng]
def F81 : Fun := ⟨fun xs => xs = [I (deI (xs.getD 0 .top) : Int)] ∧ (fun (x : Int) => (True)) (deI (xs.getD 0 .top) : Int), fun xs => (fun (x : Int) => ((B (rng 1 1500 x), []) : X × List Ob)) (deI (xs.getD 0 .top) : Int)⟩
theorem F81_in {xs : List X} (h : F81.pre xs) : ∃ (x : Int), xs = [I x] ∧ (True) := ⟨_, h.1, h.2⟩
theorem F81_res (x : Int) : F81.res [I x] = (B (rng 1 1500 x), []) := by simp [F81]
theorem F81_mk (x : Int) (h : True) : F81.pre [I x] := by simpa [F81] using h
theorem c81 : GenCA K Tryd.prog 81 F81 := by
  refine contractA Tryd.mix K [] [] (by simp) (by simp) Tryd.func81 rfl (by decide) ?_
  intro xs hxs
  obtain ⟨x, rfl, hp⟩ := F81_in hxs
  rw [F81_res]
  refine ⟨by rw [Tryd.ntmps81]; simp, ?_⟩
  simp -implicitDefEqProofs [Tryd.f81, List.lookup_cons, and_assoc, pick_and, pick_or, if_and, if_or]
  refine fin_pure (by simp) ?_
  simp -implicitDefEqProofs [pur2_i, pur2_b, pur2_s, pur2_nil, pur2_sl, pur2_tup, rn2_tup, rn2_agg, rn2_osl, rn1_v, rn1_osl, rn1_agg, rn0_v, rn0_sl, rn0, pickObs, pur_v, pur_b, pur_s, pur_nil, pur_sl, deI, deIs_sl, rng]
end Go.Proofs
