/-
  What is proved here: the contract of the reference's check of a change. Condition: none.
-/
import Derived.Test.YteleljfnjdlnkaaGreatDoorQK1x
namespace Go.Proofs
open Go.Abs
set_option linter.unusedSimpArgs false
set_option linter.unnecessarySimpa false
set_option linter.unusedVariables false
set_option maxHeartbeats 8000000
set_option maxRecDepth 20000

theorem c52 : GenCA K Tryz.prog 52 F62 := by
  refine contractA Tryz.mix K [(47, F83), (48, F48), (81, F81), (82, F82)] [] (by simp [c47, c48, c81, c82]) (by simp) Tryz.func52 rfl (by decide) ?_
  intro xs hxs
  obtain ⟨x, rfl, hp⟩ := F62_in hxs
  rw [F62_res]
  refine ⟨by rw [Tryz.ntmps52]; simp, ?_⟩
  by_cases k1 : x.kind = 1
  · simp -implicitDefEqProofs [Tryz.f52, F83, F48, F81, F82, List.lookup_cons, and_assoc, pick_and, pick_or, if_and, if_or, k1, hp, planEq]
    refine ⟨by intros; exact ⟨x.nm, rfl, hp⟩, ?_⟩
    refine fin_pure (by simp) ?_
    simp -implicitDefEqProofs [pur2_i, pur2_b, pur2_s, pur2_nil, pur2_sl, pur2_tup, rn2_tup, rn2_agg, rn2_osl, rn1_v, rn1_osl, rn1_agg, rn0_v, rn0_sl, rn0, pickObs, pur_v, pur_b, pur_s, pur_nil, pur_sl, deI, deIs_sl, isCh, k1, zc, zf, noS, Chg.cl, Chg.fi, beq0, isE, Bool.and_assoc, Bool.and_comm, Bool.and_left_comm]
  by_cases k2 : x.kind = 2
  · simp -implicitDefEqProofs [Tryz.f52, F83, F48, F81, F82, List.lookup_cons, and_assoc, pick_and, pick_or, if_and, if_or, k2, hp, planEq]
    refine fin_pure (by simp) ?_
    simp -implicitDefEqProofs [pur2_i, pur2_b, pur2_s, pur2_nil, pur2_sl, pur2_tup, rn2_tup, rn2_agg, rn2_osl, rn1_v, rn1_osl, rn1_agg, rn0_v, rn0_sl, rn0, pickObs, pur_v, pur_b, pur_s, pur_nil, pur_sl, deI, deIs_sl, isCh, k2, zc, zf, noS, Chg.cl, Chg.fi, beq0, isE, Bool.and_assoc, Bool.and_comm, Bool.and_left_comm]
  by_cases k3 : x.kind = 3
  · simp -implicitDefEqProofs [Tryz.f52, F83, F48, F81, F82, List.lookup_cons, and_assoc, pick_and, pick_or, if_and, if_or, k3, hp, planEq]
    refine fin_pure (by simp) ?_
    simp -implicitDefEqProofs [pur2_i, pur2_b, pur2_s, pur2_nil, pur2_sl, pur2_tup, rn2_tup, rn2_agg, rn2_osl, rn1_v, rn1_osl, rn1_agg, rn0_v, rn0_sl, rn0, pickObs, pur_v, pur_b, pur_s, pur_nil, pur_sl, deI, deIs_sl, isCh, k3, zc, zf, noS, Chg.cl, Chg.fi, beq0, isE, Bool.and_assoc, Bool.and_comm, Bool.and_left_comm]
  by_cases k4 : x.kind = 4
  · simp -implicitDefEqProofs [Tryz.f52, F83, F48, F81, F82, List.lookup_cons, and_assoc, pick_and, pick_or, if_and, if_or, k4, hp, planEq]
    refine fin_pure (by simp) ?_
    simp -implicitDefEqProofs [pur2_i, pur2_b, pur2_s, pur2_nil, pur2_sl, pur2_tup, rn2_tup, rn2_agg, rn2_osl, rn1_v, rn1_osl, rn1_agg, rn0_v, rn0_sl, rn0, pickObs, pur_v, pur_b, pur_s, pur_nil, pur_sl, deI, deIs_sl, isCh, k4, zc, zf, noS, Chg.cl, Chg.fi, beq0, isE, Bool.and_assoc, Bool.and_comm, Bool.and_left_comm]
  by_cases k5 : x.kind = 5
  · simp -implicitDefEqProofs [Tryz.f52, F83, F48, F81, F82, List.lookup_cons, and_assoc, pick_and, pick_or, if_and, if_or, k5, hp, planEq]
    refine fin_pure (by simp) ?_
    simp -implicitDefEqProofs [pur2_i, pur2_b, pur2_s, pur2_nil, pur2_sl, pur2_tup, rn2_tup, rn2_agg, rn2_osl, rn1_v, rn1_osl, rn1_agg, rn0_v, rn0_sl, rn0, pickObs, pur_v, pur_b, pur_s, pur_nil, pur_sl, deI, deIs_sl, isCh, k5, zc, zf, noS, Chg.cl, Chg.fi, beq0, isE, Bool.and_assoc, Bool.and_comm, Bool.and_left_comm]
  by_cases k6 : x.kind = 6
  · simp -implicitDefEqProofs [Tryz.f52, F83, F48, F81, F82, List.lookup_cons, and_assoc, pick_and, pick_or, if_and, if_or, k6, hp, planEq]
    refine fin_pure (by simp) ?_
    simp -implicitDefEqProofs [pur2_i, pur2_b, pur2_s, pur2_nil, pur2_sl, pur2_tup, rn2_tup, rn2_agg, rn2_osl, rn1_v, rn1_osl, rn1_agg, rn0_v, rn0_sl, rn0, pickObs, pur_v, pur_b, pur_s, pur_nil, pur_sl, deI, deIs_sl, isCh, k6, zc, zf, noS, Chg.cl, Chg.fi, beq0, isE, Bool.and_assoc, Bool.and_comm, Bool.and_left_comm]
  have e : ∀ j : Int, ¬ x.kind = j → (x.kind == j) = false := fun j h => by simp [h]
  simp -implicitDefEqProofs [Tryz.f52, F83, F48, F81, F82, List.lookup_cons, and_assoc, pick_and, pick_or, if_and, if_or, e 1 k1, e 2 k2, e 3 k3, e 4 k4, e 5 k5, e 6 k6, k1, k2, k3, k4, k5, k6]
  refine fin_pure (by simp) ?_
  simp -implicitDefEqProofs [pur2_i, pur2_b, pur2_s, pur2_nil, pur2_sl, pur2_tup, rn2_tup, rn2_agg, rn2_osl, rn1_v, rn1_osl, rn1_agg, rn0_v, rn0_sl, rn0, pickObs, pur_v, pur_b, pur_s, pur_nil, pur_sl, deI, deIs_sl, isCh, k1, k2, k3, k4, k5, k6]
end Go.Proofs
