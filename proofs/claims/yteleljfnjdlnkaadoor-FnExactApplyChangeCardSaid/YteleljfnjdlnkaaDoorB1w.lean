/-
  What is proved here: contracts of the small checks of numbers. Condition: none.
-/
import Derived.Test.YteleljfnjdlnkaaDoorLIw
namespace Go.Proofs
open Go.Abs
set_option linter.unusedSimpArgs false
set_option linter.unnecessarySimpa false
set_option linter.unusedVariables false
set_option maxHeartbeats 4000000
set_option maxRecDepth 20000

theorem not_true {b : Bool} (h : ¬ b = true) : b = false := by simpa using h
/-! ### small checks -/
def F32 : Fun := ⟨fun xs => xs = [I (deI (xs.getD 0 .top) : Int), I (deI (xs.getD 1 .top) : Int), I (deI (xs.getD 2 .top) : Int)] ∧ (fun (x : Int) (lo : Int) (hi : Int) => (True)) (deI (xs.getD 0 .top) : Int) (deI (xs.getD 1 .top) : Int) (deI (xs.getD 2 .top) : Int), fun xs => (fun (x : Int) (lo : Int) (hi : Int) => ((B (rng lo hi x), []) : X × List Ob)) (deI (xs.getD 0 .top) : Int) (deI (xs.getD 1 .top) : Int) (deI (xs.getD 2 .top) : Int)⟩
theorem F32_in {xs : List X} (h : F32.pre xs) : ∃ (x : Int) (lo : Int) (hi : Int), xs = [I x, I lo, I hi] ∧ (True) := ⟨_, _, _, h.1, h.2⟩
theorem F32_res (x : Int) (lo : Int) (hi : Int) : F32.res [I x, I lo, I hi] = (B (rng lo hi x), []) := by simp [F32]
theorem F32_mk (x : Int) (lo : Int) (hi : Int) (h : True) : F32.pre [I x, I lo, I hi] := by simpa [F32] using h
theorem c32 : GenCA K Tryd.prog 32 F32 := by
  refine contractA Tryd.mix K [] [] (by simp) (by simp) Tryd.func32 rfl (by decide) ?_
  intro xs hxs
  obtain ⟨x, lo, hi, rfl, hp⟩ := F32_in hxs
  rw [F32_res]
  refine ⟨by rw [Tryd.ntmps32]; simp, ?_⟩
  simp -implicitDefEqProofs [Tryd.f32, List.lookup_cons, and_assoc, pick_and, pick_or, if_and, if_or]
  refine fin_pure (by simp) ?_
  simp -implicitDefEqProofs [pur2_i, pur2_b, pur2_s, pur2_nil, pur2_sl, pur2_tup, rn2_tup, rn2_agg, rn2_osl, rn1_v, rn1_osl, rn1_agg, rn0_v, rn0_sl, rn0, pickObs, pur_v, pur_b, pur_s, pur_nil, pur_sl, deI, deIs_sl, rng]
def F41 : Fun := ⟨fun xs => xs = [I (deI (xs.getD 0 .top) : Int)] ∧ (fun (x : Int) => (True)) (deI (xs.getD 0 .top) : Int), fun xs => (fun (x : Int) => ((B (rng 1 999 x), []) : X × List Ob)) (deI (xs.getD 0 .top) : Int)⟩
theorem F41_in {xs : List X} (h : F41.pre xs) : ∃ (x : Int), xs = [I x] ∧ (True) := ⟨_, h.1, h.2⟩
theorem F41_res (x : Int) : F41.res [I x] = (B (rng 1 999 x), []) := by simp [F41]
theorem F41_mk (x : Int) (h : True) : F41.pre [I x] := by simpa [F41] using h
theorem c41 : GenCA K Tryd.prog 41 F41 := by
  refine contractA Tryd.mix K [] [] (by simp) (by simp) Tryd.func41 rfl (by decide) ?_
  intro xs hxs
  obtain ⟨x, rfl, hp⟩ := F41_in hxs
  rw [F41_res]
  refine ⟨by rw [Tryd.ntmps41]; simp, ?_⟩
  simp -implicitDefEqProofs [Tryd.f41, List.lookup_cons, and_assoc, pick_and, pick_or, if_and, if_or]
  refine fin_pure (by simp) ?_
  simp -implicitDefEqProofs [pur2_i, pur2_b, pur2_s, pur2_nil, pur2_sl, pur2_tup, rn2_tup, rn2_agg, rn2_osl, rn1_v, rn1_osl, rn1_agg, rn0_v, rn0_sl, rn0, pickObs, pur_v, pur_b, pur_s, pur_nil, pur_sl, deI, deIs_sl, rng]
end Go.Proofs
