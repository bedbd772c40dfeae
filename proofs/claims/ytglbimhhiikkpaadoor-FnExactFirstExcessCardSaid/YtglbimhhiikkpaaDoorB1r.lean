/-
  What is proved here: contracts of the small checks of numbers. Condition: none.
-/
import Derived.Test.YtglbimhhiikkpaaDoorLIr
namespace Go.Proofs
open Go.Abs
set_option linter.unusedSimpArgs false
set_option linter.unnecessarySimpa false
set_option linter.unusedVariables false
set_option maxHeartbeats 4000000
set_option maxRecDepth 20000

theorem not_true {b : Bool} (h : ¬ b = true) : b = false := by simpa using h
/-! ### small checks -/
def F76 : Fun := ⟨fun xs => xs = [I (deI (xs.getD 0 .top) : Int), I (deI (xs.getD 1 .top) : Int), I (deI (xs.getD 2 .top) : Int)] ∧ (fun (x : Int) (lo : Int) (hi : Int) => (True)) (deI (xs.getD 0 .top) : Int) (deI (xs.getD 1 .top) : Int) (deI (xs.getD 2 .top) : Int), fun xs => (fun (x : Int) (lo : Int) (hi : Int) => ((B (rng lo hi x), []) : X × List Ob)) (deI (xs.getD 0 .top) : Int) (deI (xs.getD 1 .top) : Int) (deI (xs.getD 2 .top) : Int)⟩
theorem F76_in {xs : List X} (h : F76.pre xs) : ∃ (x : Int) (lo : Int) (hi : Int), xs = [I x, I lo, I hi] ∧ (True) := ⟨_, _, _, h.1, h.2⟩
theorem F76_res (x : Int) (lo : Int) (hi : Int) : F76.res [I x, I lo, I hi] = (B (rng lo hi x), []) := by simp [F76]
theorem F76_mk (x : Int) (lo : Int) (hi : Int) (h : True) : F76.pre [I x, I lo, I hi] := by simpa [F76] using h
theorem c76 : GenCA K Tryd.prog 76 F76 := by
  refine contractA Tryd.mix K [] [] (by simp) (by simp) Tryd.func76 rfl (by decide) ?_
  intro xs hxs
  obtain ⟨x, lo, hi, rfl, hp⟩ := F76_in hxs
  rw [F76_res]
  refine ⟨by rw [Tryd.ntmps76]; simp, ?_⟩
  simp -implicitDefEqProofs [Tryd.f76, List.lookup_cons, and_assoc, pick_and, pick_or, if_and, if_or]
  refine fin_pure (by simp) ?_
  simp -implicitDefEqProofs [pur2_i, pur2_b, pur2_s, pur2_nil, pur2_sl, pur2_tup, rn2_tup, rn2_agg, rn2_osl, rn1_v, rn1_osl, rn1_agg, rn0_v, rn0_sl, rn0, pickObs, pur_v, pur_b, pur_s, pur_nil, pur_sl, deI, deIs_sl, rng]
def F100 : Fun := ⟨fun xs => xs = [I (deI (xs.getD 0 .top) : Int)] ∧ (fun (x : Int) => (True)) (deI (xs.getD 0 .top) : Int), fun xs => (fun (x : Int) => ((B (rng 1 999 x), []) : X × List Ob)) (deI (xs.getD 0 .top) : Int)⟩
theorem F100_in {xs : List X} (h : F100.pre xs) : ∃ (x : Int), xs = [I x] ∧ (True) := ⟨_, h.1, h.2⟩
theorem F100_res (x : Int) : F100.res [I x] = (B (rng 1 999 x), []) := by simp [F100]
theorem F100_mk (x : Int) (h : True) : F100.pre [I x] := by simpa [F100] using h
theorem c100 : GenCA K Tryd.prog 100 F100 := by
  refine contractA Tryd.mix K [] [] (by simp) (by simp) Tryd.func100 rfl (by decide) ?_
  intro xs hxs
  obtain ⟨x, rfl, hp⟩ := F100_in hxs
  rw [F100_res]
  refine ⟨by rw [Tryd.ntmps100]; simp, ?_⟩
  simp -implicitDefEqProofs [Tryd.f100, List.lookup_cons, and_assoc, pick_and, pick_or, if_and, if_or]
  refine fin_pure (by simp) ?_
  simp -implicitDefEqProofs [pur2_i, pur2_b, pur2_s, pur2_nil, pur2_sl, pur2_tup, rn2_tup, rn2_agg, rn2_osl, rn1_v, rn1_osl, rn1_agg, rn0_v, rn0_sl, rn0, pickObs, pur_v, pur_b, pur_s, pur_nil, pur_sl, deI, deIs_sl, rng]
def F157 : Fun := ⟨fun xs => xs = [I (deI (xs.getD 0 .top) : Int)] ∧ (fun (x : Int) => (True)) (deI (xs.getD 0 .top) : Int), fun xs => (fun (x : Int) => ((B (rng 0 1000000 x), []) : X × List Ob)) (deI (xs.getD 0 .top) : Int)⟩
theorem F157_in {xs : List X} (h : F157.pre xs) : ∃ (x : Int), xs = [I x] ∧ (True) := ⟨_, h.1, h.2⟩
theorem F157_res (x : Int) : F157.res [I x] = (B (rng 0 1000000 x), []) := by simp [F157]
theorem F157_mk (x : Int) (h : True) : F157.pre [I x] := by simpa [F157] using h
theorem c157 : GenCA K Tryd.prog 157 F157 := by
  refine contractA Tryd.mix K [] [] (by simp) (by simp) Tryd.func157 rfl (by decide) ?_
  intro xs hxs
  obtain ⟨x, rfl, hp⟩ := F157_in hxs
  rw [F157_res]
  refine ⟨by rw [Tryd.ntmps157]; simp, ?_⟩
  simp -implicitDefEqProofs [Tryd.f157, List.lookup_cons, and_assoc, pick_and, pick_or, if_and, if_or]
  refine fin_pure (by simp) ?_
  simp -implicitDefEqProofs [pur2_i, pur2_b, pur2_s, pur2_nil, pur2_sl, pur2_tup, rn2_tup, rn2_agg, rn2_osl, rn1_v, rn1_osl, rn1_agg, rn0_v, rn0_sl, rn0, pickObs, pur_v, pur_b, pur_s, pur_nil, pur_sl, deI, deIs_sl, rng]
def F158 : Fun := ⟨fun xs => xs = [I (deI (xs.getD 0 .top) : Int)] ∧ (fun (x : Int) => (True)) (deI (xs.getD 0 .top) : Int), fun xs => (fun (x : Int) => ((B (rng 1 1500 x), []) : X × List Ob)) (deI (xs.getD 0 .top) : Int)⟩
theorem F158_in {xs : List X} (h : F158.pre xs) : ∃ (x : Int), xs = [I x] ∧ (True) := ⟨_, h.1, h.2⟩
theorem F158_res (x : Int) : F158.res [I x] = (B (rng 1 1500 x), []) := by simp [F158]
theorem F158_mk (x : Int) (h : True) : F158.pre [I x] := by simpa [F158] using h
theorem c158 : GenCA K Tryd.prog 158 F158 := by
  refine contractA Tryd.mix K [] [] (by simp) (by simp) Tryd.func158 rfl (by decide) ?_
  intro xs hxs
  obtain ⟨x, rfl, hp⟩ := F158_in hxs
  rw [F158_res]
  refine ⟨by rw [Tryd.ntmps158]; simp, ?_⟩
  simp -implicitDefEqProofs [Tryd.f158, List.lookup_cons, and_assoc, pick_and, pick_or, if_and, if_or]
  refine fin_pure (by simp) ?_
  simp -implicitDefEqProofs [pur2_i, pur2_b, pur2_s, pur2_nil, pur2_sl, pur2_tup, rn2_tup, rn2_agg, rn2_osl, rn1_v, rn1_osl, rn1_agg, rn0_v, rn0_sl, rn0, pickObs, pur_v, pur_b, pur_s, pur_nil, pur_sl, deI, deIs_sl, rng]
end Go.Proofs
