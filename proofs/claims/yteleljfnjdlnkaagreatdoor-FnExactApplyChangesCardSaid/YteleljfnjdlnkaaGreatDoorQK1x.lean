/-
  What is proved here: contracts of both checks of a change. Condition: none.
-/
import Derived.Test.YteleljfnjdlnkaaGreatDoorC1x
import Derived.Test.YteleljfnjdlnkaaGreatDoorS1x
namespace Go.Proofs
open Go.Abs
set_option linter.unusedSimpArgs false
set_option linter.unnecessarySimpa false
set_option linter.unusedVariables false
set_option maxHeartbeats 8000000
set_option maxRecDepth 20000

def Chg.cl (x : Chg) : Cls := ⟨x.a0, x.a1, x.a2, x.a3, x.a4, x.a5, x.a6, x.a7⟩
def Chg.fi (x : Chg) : Fil := ⟨x.b0, x.b1, x.b2, x.b3, x.b4⟩
def noS (s : ByteArray) : Bool := decide (s.toList = [])
def zc (x : Chg) : Bool := decide (x.a0 = 0) && decide (x.a1 = 0) && decide (x.a2 = 0) && decide (x.a3 = 0) && decide (x.a4 = 0) && decide (x.a5 = 0) && decide (x.a6 = 0) && decide (x.a7 = 0)
def zf (x : Chg) : Bool := decide (x.b0 = 0) && decide (x.b1 = 0) && decide (x.b2 = 0) && decide (x.b3 = 0) && decide (x.b4 = 0)
def clsC (x : Cls) : Bool := x.ok && rng 0 999 x.par && rng 0 60 x.lim
def filC (x : Fil) : Bool := x.ok && rng 1 999 x.target
def isCh (x : Chg) : Bool :=
  if x.kind = 1 then decide (x.num = 0) && zc x && zf x && nmOk x.nm
  else if x.kind = 2 then noS x.nm && zc x && zf x && rng 0 999 x.num
  else if x.kind = 3 then noS x.nm && zc x && zf x && rng 1 99 x.num
  else if x.kind = 4 then noS x.nm && zc x && zf x && rng 1 999 x.num
  else if x.kind = 5 then noS x.nm && decide (x.num = 0) && zf x && clsC x.cl
  else if x.kind = 6 then noS x.nm && decide (x.num = 0) && zc x && filC x.fi
  else false
theorem beq0 (a : Int) : (a == 0) = decide (a = 0) := rfl
theorem isE (s : ByteArray) : s.toList.isEmpty = decide (s.toList = []) := by cases s.toList <;> rfl
def F81 : Fun := ⟨fun xs => xs = [.agg (rX (deA (xs.getD 0 .top) : Cls))] ∧ (fun (x : Cls) => (True)) (deA (xs.getD 0 .top) : Cls), fun xs => (fun (x : Cls) => ((B (clsC x), []) : X × List Ob)) (deA (xs.getD 0 .top) : Cls)⟩
theorem F81_in {xs : List X} (h : F81.pre xs) : ∃ (x : Cls), xs = [.agg (rX x)] ∧ (True) := ⟨_, h.1, h.2⟩
theorem F81_res (x : Cls) : F81.res [.agg (rX x)] = (B (clsC x), []) := by simp [F81]
theorem F81_mk (x : Cls) (h : True) : F81.pre [.agg (rX x)] := by simpa [F81] using h
theorem c81 : GenCA K Tryz.prog 81 F81 := by
  refine contractA Tryz.mix K [(76, F76), (48, F48)] [] (by simp [c76, c48]) (by simp) Tryz.func81 rfl (by decide) ?_
  intro xs hxs
  obtain ⟨x, rfl, hp⟩ := F81_in hxs
  rw [F81_res]
  refine ⟨by rw [Tryz.ntmps81]; simp, ?_⟩
  simp -implicitDefEqProofs [Tryz.f81, F76, F48, List.lookup_cons, and_assoc, pick_and, pick_or, if_and, if_or]
  refine fin_pure (by simp) ?_
  simp -implicitDefEqProofs [pur2_i, pur2_b, pur2_s, pur2_nil, pur2_sl, pur2_tup, rn2_tup, rn2_agg, rn2_osl, rn1_v, rn1_osl, rn1_agg, rn0_v, rn0_sl, rn0, pickObs, pur_v, pur_b, pur_s, pur_nil, pur_sl, deI, deIs_sl, clsC, Bool.and_assoc]
def F82 : Fun := ⟨fun xs => xs = [.agg (rX (deA (xs.getD 0 .top) : Fil))] ∧ (fun (x : Fil) => (True)) (deA (xs.getD 0 .top) : Fil), fun xs => (fun (x : Fil) => ((B (filC x), []) : X × List Ob)) (deA (xs.getD 0 .top) : Fil)⟩
theorem F82_in {xs : List X} (h : F82.pre xs) : ∃ (x : Fil), xs = [.agg (rX x)] ∧ (True) := ⟨_, h.1, h.2⟩
theorem F82_res (x : Fil) : F82.res [.agg (rX x)] = (B (filC x), []) := by simp [F82]
theorem F82_mk (x : Fil) (h : True) : F82.pre [.agg (rX x)] := by simpa [F82] using h
theorem c82 : GenCA K Tryz.prog 82 F82 := by
  refine contractA Tryz.mix K [(80, F80), (48, F48)] [] (by simp [c80, c48]) (by simp) Tryz.func82 rfl (by decide) ?_
  intro xs hxs
  obtain ⟨x, rfl, hp⟩ := F82_in hxs
  rw [F82_res]
  refine ⟨by rw [Tryz.ntmps82]; simp, ?_⟩
  simp -implicitDefEqProofs [Tryz.f82, F80, F48, List.lookup_cons, and_assoc, pick_and, pick_or, if_and, if_or]
  refine fin_pure (by simp) ?_
  simp -implicitDefEqProofs [pur2_i, pur2_b, pur2_s, pur2_nil, pur2_sl, pur2_tup, rn2_tup, rn2_agg, rn2_osl, rn1_v, rn1_osl, rn1_agg, rn0_v, rn0_sl, rn0, pickObs, pur_v, pur_b, pur_s, pur_nil, pur_sl, deI, deIs_sl, filC, Bool.and_assoc]
def F62 : Fun := ⟨fun xs => xs = [.agg (rX (deA (xs.getD 0 .top) : Chg))] ∧ (fun (x : Chg) => (x.nm.size ≤ 1048576)) (deA (xs.getD 0 .top) : Chg), fun xs => (fun (x : Chg) => ((B (isCh x), []) : X × List Ob)) (deA (xs.getD 0 .top) : Chg)⟩
theorem F62_in {xs : List X} (h : F62.pre xs) : ∃ (x : Chg), xs = [.agg (rX x)] ∧ (x.nm.size ≤ 1048576) := ⟨_, h.1, h.2⟩
theorem F62_res (x : Chg) : F62.res [.agg (rX x)] = (B (isCh x), []) := by simp [F62]
theorem F62_mk (x : Chg) (h : x.nm.size ≤ 1048576) : F62.pre [.agg (rX x)] := by simpa [F62] using h
theorem c62 : GenCA K Tryz.prog 62 F62 := by
  refine contractA Tryz.mix K [(83, F83), (97, F97), (89, F89), (93, F93), (98, F98)] [] (by simp [c83, c97, c89, c93, c98]) (by simp) Tryz.func62 rfl (by decide) ?_
  intro xs hxs
  obtain ⟨x, rfl, hp⟩ := F62_in hxs
  rw [F62_res]
  refine ⟨by rw [Tryz.ntmps62]; simp, ?_⟩
  by_cases k1 : x.kind = 1
  · simp -implicitDefEqProofs [Tryz.f62, F83, F97, F89, F93, F98, List.lookup_cons, and_assoc, pick_and, pick_or, if_and, if_or, k1, hp, planEq]
    refine ⟨⟨x.nm, rfl, hp⟩, ?_⟩
    refine fin_pure (by simp) ?_
    simp -implicitDefEqProofs [pur2_i, pur2_b, pur2_s, pur2_nil, pur2_sl, pur2_tup, rn2_tup, rn2_agg, rn2_osl, rn1_v, rn1_osl, rn1_agg, rn0_v, rn0_sl, rn0, pickObs, pur_v, pur_b, pur_s, pur_nil, pur_sl, deI, deIs_sl, isCh, k1, zc, zf, noS, clsC, filC, Chg.cl, Chg.fi, Cls.ok, Cls.rateOk, Cls.burstOk, rng, beq0, isE, Bool.and_assoc, Bool.and_comm, Bool.and_left_comm]
  by_cases k2 : x.kind = 2
  · simp -implicitDefEqProofs [Tryz.f62, F83, F97, F89, F93, F98, List.lookup_cons, and_assoc, pick_and, pick_or, if_and, if_or, k2, hp, planEq]
    refine fin_pure (by simp) ?_
    simp -implicitDefEqProofs [pur2_i, pur2_b, pur2_s, pur2_nil, pur2_sl, pur2_tup, rn2_tup, rn2_agg, rn2_osl, rn1_v, rn1_osl, rn1_agg, rn0_v, rn0_sl, rn0, pickObs, pur_v, pur_b, pur_s, pur_nil, pur_sl, deI, deIs_sl, isCh, k2, zc, zf, noS, clsC, filC, Chg.cl, Chg.fi, Cls.ok, Cls.rateOk, Cls.burstOk, rng, beq0, isE, Bool.and_assoc, Bool.and_comm, Bool.and_left_comm]
  by_cases k3 : x.kind = 3
  · simp -implicitDefEqProofs [Tryz.f62, F83, F97, F89, F93, F98, List.lookup_cons, and_assoc, pick_and, pick_or, if_and, if_or, k3, hp, planEq]
    refine fin_pure (by simp) ?_
    simp -implicitDefEqProofs [pur2_i, pur2_b, pur2_s, pur2_nil, pur2_sl, pur2_tup, rn2_tup, rn2_agg, rn2_osl, rn1_v, rn1_osl, rn1_agg, rn0_v, rn0_sl, rn0, pickObs, pur_v, pur_b, pur_s, pur_nil, pur_sl, deI, deIs_sl, isCh, k3, zc, zf, noS, clsC, filC, Chg.cl, Chg.fi, Cls.ok, Cls.rateOk, Cls.burstOk, rng, beq0, isE, Bool.and_assoc, Bool.and_comm, Bool.and_left_comm]
  by_cases k4 : x.kind = 4
  · simp -implicitDefEqProofs [Tryz.f62, F83, F97, F89, F93, F98, List.lookup_cons, and_assoc, pick_and, pick_or, if_and, if_or, k4, hp, planEq]
    refine fin_pure (by simp) ?_
    simp -implicitDefEqProofs [pur2_i, pur2_b, pur2_s, pur2_nil, pur2_sl, pur2_tup, rn2_tup, rn2_agg, rn2_osl, rn1_v, rn1_osl, rn1_agg, rn0_v, rn0_sl, rn0, pickObs, pur_v, pur_b, pur_s, pur_nil, pur_sl, deI, deIs_sl, isCh, k4, zc, zf, noS, clsC, filC, Chg.cl, Chg.fi, Cls.ok, Cls.rateOk, Cls.burstOk, rng, beq0, isE, Bool.and_assoc, Bool.and_comm, Bool.and_left_comm]
  by_cases k5 : x.kind = 5
  · simp -implicitDefEqProofs [Tryz.f62, F83, F97, F89, F93, F98, List.lookup_cons, and_assoc, pick_and, pick_or, if_and, if_or, k5, hp, planEq]
    refine fin_pure (by simp) ?_
    simp -implicitDefEqProofs [pur2_i, pur2_b, pur2_s, pur2_nil, pur2_sl, pur2_tup, rn2_tup, rn2_agg, rn2_osl, rn1_v, rn1_osl, rn1_agg, rn0_v, rn0_sl, rn0, pickObs, pur_v, pur_b, pur_s, pur_nil, pur_sl, deI, deIs_sl, isCh, k5, zc, zf, noS, clsC, filC, Chg.cl, Chg.fi, Cls.ok, Cls.rateOk, Cls.burstOk, rng, beq0, isE, Bool.and_assoc, Bool.and_comm, Bool.and_left_comm]
    all_goals first | rfl | ac_rfl | (rw [Bool.eq_iff_iff]; simp only [Bool.and_eq_true, decide_eq_true_eq]; grind)
  by_cases k6 : x.kind = 6
  · simp -implicitDefEqProofs [Tryz.f62, F83, F97, F89, F93, F98, List.lookup_cons, and_assoc, pick_and, pick_or, if_and, if_or, k6, hp, planEq]
    refine fin_pure (by simp) ?_
    simp -implicitDefEqProofs [pur2_i, pur2_b, pur2_s, pur2_nil, pur2_sl, pur2_tup, rn2_tup, rn2_agg, rn2_osl, rn1_v, rn1_osl, rn1_agg, rn0_v, rn0_sl, rn0, pickObs, pur_v, pur_b, pur_s, pur_nil, pur_sl, deI, deIs_sl, isCh, k6, zc, zf, noS, clsC, filC, Chg.cl, Chg.fi, Cls.ok, Cls.rateOk, Cls.burstOk, rng, beq0, isE, Bool.and_assoc, Bool.and_comm, Bool.and_left_comm]
    all_goals first | rfl | ac_rfl | (rw [Bool.eq_iff_iff]; simp only [Bool.and_eq_true, decide_eq_true_eq]; grind)
  have e : ∀ j : Int, ¬ x.kind = j → (x.kind == j) = false := fun j h => by simp [h]
  simp -implicitDefEqProofs [Tryz.f62, F83, F97, F89, F93, F98, List.lookup_cons, and_assoc, pick_and, pick_or, if_and, if_or, e 1 k1, e 2 k2, e 3 k3, e 4 k4, e 5 k5, e 6 k6, k1, k2, k3, k4, k5, k6]
  refine fin_pure (by simp) ?_
  simp -implicitDefEqProofs [pur2_i, pur2_b, pur2_s, pur2_nil, pur2_sl, pur2_tup, rn2_tup, rn2_agg, rn2_osl, rn1_v, rn1_osl, rn1_agg, rn0_v, rn0_sl, rn0, pickObs, pur_v, pur_b, pur_s, pur_nil, pur_sl, deI, deIs_sl, isCh, k1, k2, k3, k4, k5, k6]
end Go.Proofs
