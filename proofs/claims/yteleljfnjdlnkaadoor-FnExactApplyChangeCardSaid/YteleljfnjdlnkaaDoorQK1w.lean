/-
  What is proved here: contracts of both checks of a change. Condition: none.
-/
import Derived.Test.YteleljfnjdlnkaaDoorC1w
import Derived.Test.YteleljfnjdlnkaaDoorS1w
namespace Go.Proofs
open Go.Abs
set_option linter.unusedSimpArgs false
set_option linter.unnecessarySimpa false
set_option linter.unusedVariables false
set_option maxHeartbeats 8000000
set_option maxRecDepth 20000

def Chg.cl (x : Chg) : Cls := ⟨x.a0, x.a1, x.a2, x.a3, x.a4, x.a5, x.a6, x.a7⟩
def Chg.fi (x : Chg) : Fil := ⟨x.b0, x.b1, x.b2, x.b3, x.b4⟩
def noS (s : ByteArray) : Bool := decide (s.toList = [])
def zc (x : Chg) : Bool := decide (x.a0 = 0) && decide (x.a1 = 0) && decide (x.a2 = 0) && decide (x.a3 = 0) && decide (x.a4 = 0) && decide (x.a5 = 0) && decide (x.a6 = 0) && decide (x.a7 = 0)
def zf (x : Chg) : Bool := decide (x.b0 = 0) && decide (x.b1 = 0) && decide (x.b2 = 0) && decide (x.b3 = 0) && decide (x.b4 = 0)
def clsC (x : Cls) : Bool := x.ok && rng 0 999 x.par && rng 0 60 x.lim
def filC (x : Fil) : Bool := x.ok && rng 1 999 x.target
def isCh (x : Chg) : Bool :=
  if x.kind = 1 then decide (x.num = 0) && zc x && zf x && nmOk x.nm
  else if x.kind = 2 then noS x.nm && zc x && zf x && rng 0 999 x.num
  else if x.kind = 3 then noS x.nm && zc x && zf x && rng 1 99 x.num
  else if x.kind = 4 then noS x.nm && zc x && zf x && rng 1 999 x.num
  else if x.kind = 5 then noS x.nm && decide (x.num = 0) && zf x && clsC x.cl
  else if x.kind = 6 then noS x.nm && decide (x.num = 0) && zc x && filC x.fi
  else false
theorem beq0 (a : Int) : (a == 0) = decide (a = 0) := rfl
theorem isE (s : ByteArray) : s.toList.isEmpty = decide (s.toList = []) := by cases s.toList <;> rfl
def F33 : Fun := ⟨fun xs => xs = [.agg (rX (deA (xs.getD 0 .top) : Cls))] ∧ (fun (x : Cls) => (True)) (deA (xs.getD 0 .top) : Cls), fun xs => (fun (x : Cls) => ((B (clsC x), []) : X × List Ob)) (deA (xs.getD 0 .top) : Cls)⟩
theorem F33_in {xs : List X} (h : F33.pre xs) : ∃ (x : Cls), xs = [.agg (rX x)] ∧ (True) := ⟨_, h.1, h.2⟩
theorem F33_res (x : Cls) : F33.res [.agg (rX x)] = (B (clsC x), []) := by simp [F33]
theorem F33_mk (x : Cls) (h : True) : F33.pre [.agg (rX x)] := by simpa [F33] using h
theorem c33 : GenCA K Tryd.prog 33 F33 := by
  refine contractA Tryd.mix K [(54, F54), (32, F32)] [] (by simp [c54, c32]) (by simp) Tryd.func33 rfl (by decide) ?_
  intro xs hxs
  obtain ⟨x, rfl, hp⟩ := F33_in hxs
  rw [F33_res]
  refine ⟨by rw [Tryd.ntmps33]; simp, ?_⟩
  simp -implicitDefEqProofs [Tryd.f33, F54, F32, List.lookup_cons, and_assoc, pick_and, pick_or, if_and, if_or]
  refine fin_pure (by simp) ?_
  simp -implicitDefEqProofs [pur2_i, pur2_b, pur2_s, pur2_nil, pur2_sl, pur2_tup, rn2_tup, rn2_agg, rn2_osl, rn1_v, rn1_osl, rn1_agg, rn0_v, rn0_sl, rn0, pickObs, pur_v, pur_b, pur_s, pur_nil, pur_sl, deI, deIs_sl, clsC, Bool.and_assoc]
def F34 : Fun := ⟨fun xs => xs = [.agg (rX (deA (xs.getD 0 .top) : Fil))] ∧ (fun (x : Fil) => (True)) (deA (xs.getD 0 .top) : Fil), fun xs => (fun (x : Fil) => ((B (filC x), []) : X × List Ob)) (deA (xs.getD 0 .top) : Fil)⟩
theorem F34_in {xs : List X} (h : F34.pre xs) : ∃ (x : Fil), xs = [.agg (rX x)] ∧ (True) := ⟨_, h.1, h.2⟩
theorem F34_res (x : Fil) : F34.res [.agg (rX x)] = (B (filC x), []) := by simp [F34]
theorem F34_mk (x : Fil) (h : True) : F34.pre [.agg (rX x)] := by simpa [F34] using h
theorem c34 : GenCA K Tryd.prog 34 F34 := by
  refine contractA Tryd.mix K [(55, F55), (32, F32)] [] (by simp [c55, c32]) (by simp) Tryd.func34 rfl (by decide) ?_
  intro xs hxs
  obtain ⟨x, rfl, hp⟩ := F34_in hxs
  rw [F34_res]
  refine ⟨by rw [Tryd.ntmps34]; simp, ?_⟩
  simp -implicitDefEqProofs [Tryd.f34, F55, F32, List.lookup_cons, and_assoc, pick_and, pick_or, if_and, if_or]
  refine fin_pure (by simp) ?_
  simp -implicitDefEqProofs [pur2_i, pur2_b, pur2_s, pur2_nil, pur2_sl, pur2_tup, rn2_tup, rn2_agg, rn2_osl, rn1_v, rn1_osl, rn1_agg, rn0_v, rn0_sl, rn0, pickObs, pur_v, pur_b, pur_s, pur_nil, pur_sl, deI, deIs_sl, filC, Bool.and_assoc]
def F23 : Fun := ⟨fun xs => xs = [.agg (rX (deA (xs.getD 0 .top) : Chg))] ∧ (fun (x : Chg) => (x.nm.size ≤ 1048576)) (deA (xs.getD 0 .top) : Chg), fun xs => (fun (x : Chg) => ((B (isCh x), []) : X × List Ob)) (deA (xs.getD 0 .top) : Chg)⟩
theorem F23_in {xs : List X} (h : F23.pre xs) : ∃ (x : Chg), xs = [.agg (rX x)] ∧ (x.nm.size ≤ 1048576) := ⟨_, h.1, h.2⟩
theorem F23_res (x : Chg) : F23.res [.agg (rX x)] = (B (isCh x), []) := by simp [F23]
theorem F23_mk (x : Chg) (h : x.nm.size ≤ 1048576) : F23.pre [.agg (rX x)] := by simpa [F23] using h
theorem c23 : GenCA K Tryd.prog 23 F23 := by
  refine contractA Tryd.mix K [(40, F40), (41, F41), (42, F42), (43, F43), (44, F44)] [] (by simp [c40, c41, c42, c43, c44]) (by simp) Tryd.func23 rfl (by decide) ?_
  intro xs hxs
  obtain ⟨x, rfl, hp⟩ := F23_in hxs
  rw [F23_res]
  refine ⟨by rw [Tryd.ntmps23]; simp, ?_⟩
  by_cases k1 : x.kind = 1
  · simp -implicitDefEqProofs [Tryd.f23, F40, F41, F42, F43, F44, List.lookup_cons, and_assoc, pick_and, pick_or, if_and, if_or, k1, hp, planEq]
    refine ⟨⟨x.nm, rfl, hp⟩, ?_⟩
    refine fin_pure (by simp) ?_
    simp -implicitDefEqProofs [pur2_i, pur2_b, pur2_s, pur2_nil, pur2_sl, pur2_tup, rn2_tup, rn2_agg, rn2_osl, rn1_v, rn1_osl, rn1_agg, rn0_v, rn0_sl, rn0, pickObs, pur_v, pur_b, pur_s, pur_nil, pur_sl, deI, deIs_sl, isCh, k1, zc, zf, noS, clsC, filC, Chg.cl, Chg.fi, Cls.ok, Cls.rateOk, Cls.burstOk, rng, beq0, isE, Bool.and_assoc, Bool.and_comm, Bool.and_left_comm]
  by_cases k2 : x.kind = 2
  · simp -implicitDefEqProofs [Tryd.f23, F40, F41, F42, F43, F44, List.lookup_cons, and_assoc, pick_and, pick_or, if_and, if_or, k2, hp, planEq]
    refine fin_pure (by simp) ?_
    simp -implicitDefEqProofs [pur2_i, pur2_b, pur2_s, pur2_nil, pur2_sl, pur2_tup, rn2_tup, rn2_agg, rn2_osl, rn1_v, rn1_osl, rn1_agg, rn0_v, rn0_sl, rn0, pickObs, pur_v, pur_b, pur_s, pur_nil, pur_sl, deI, deIs_sl, isCh, k2, zc, zf, noS, clsC, filC, Chg.cl, Chg.fi, Cls.ok, Cls.rateOk, Cls.burstOk, rng, beq0, isE, Bool.and_assoc, Bool.and_comm, Bool.and_left_comm]
  by_cases k3 : x.kind = 3
  · simp -implicitDefEqProofs [Tryd.f23, F40, F41, F42, F43, F44, List.lookup_cons, and_assoc, pick_and, pick_or, if_and, if_or, k3, hp, planEq]
    refine fin_pure (by simp) ?_
    simp -implicitDefEqProofs [pur2_i, pur2_b, pur2_s, pur2_nil, pur2_sl, pur2_tup, rn2_tup, rn2_agg, rn2_osl, rn1_v, rn1_osl, rn1_agg, rn0_v, rn0_sl, rn0, pickObs, pur_v, pur_b, pur_s, pur_nil, pur_sl, deI, deIs_sl, isCh, k3, zc, zf, noS, clsC, filC, Chg.cl, Chg.fi, Cls.ok, Cls.rateOk, Cls.burstOk, rng, beq0, isE, Bool.and_assoc, Bool.and_comm, Bool.and_left_comm]
  by_cases k4 : x.kind = 4
  · simp -implicitDefEqProofs [Tryd.f23, F40, F41, F42, F43, F44, List.lookup_cons, and_assoc, pick_and, pick_or, if_and, if_or, k4, hp, planEq]
    refine fin_pure (by simp) ?_
    simp -implicitDefEqProofs [pur2_i, pur2_b, pur2_s, pur2_nil, pur2_sl, pur2_tup, rn2_tup, rn2_agg, rn2_osl, rn1_v, rn1_osl, rn1_agg, rn0_v, rn0_sl, rn0, pickObs, pur_v, pur_b, pur_s, pur_nil, pur_sl, deI, deIs_sl, isCh, k4, zc, zf, noS, clsC, filC, Chg.cl, Chg.fi, Cls.ok, Cls.rateOk, Cls.burstOk, rng, beq0, isE, Bool.and_assoc, Bool.and_comm, Bool.and_left_comm]
  by_cases k5 : x.kind = 5
  · simp -implicitDefEqProofs [Tryd.f23, F40, F41, F42, F43, F44, List.lookup_cons, and_assoc, pick_and, pick_or, if_and, if_or, k5, hp, planEq]
    refine fin_pure (by simp) ?_
    simp -implicitDefEqProofs [pur2_i, pur2_b, pur2_s, pur2_nil, pur2_sl, pur2_tup, rn2_tup, rn2_agg, rn2_osl, rn1_v, rn1_osl, rn1_agg, rn0_v, rn0_sl, rn0, pickObs, pur_v, pur_b, pur_s, pur_nil, pur_sl, deI, deIs_sl, isCh, k5, zc, zf, noS, clsC, filC, Chg.cl, Chg.fi, Cls.ok, Cls.rateOk, Cls.burstOk, rng, beq0, isE, Bool.and_assoc, Bool.and_comm, Bool.and_left_comm]
    all_goals first | rfl | ac_rfl | (rw [Bool.eq_iff_iff]; simp only [Bool.and_eq_true, decide_eq_true_eq]; grind)
  by_cases k6 : x.kind = 6
  · simp -implicitDefEqProofs [Tryd.f23, F40, F41, F42, F43, F44, List.lookup_cons, and_assoc, pick_and, pick_or, if_and, if_or, k6, hp, planEq]
    refine fin_pure (by simp) ?_
    simp -implicitDefEqProofs [pur2_i, pur2_b, pur2_s, pur2_nil, pur2_sl, pur2_tup, rn2_tup, rn2_agg, rn2_osl, rn1_v, rn1_osl, rn1_agg, rn0_v, rn0_sl, rn0, pickObs, pur_v, pur_b, pur_s, pur_nil, pur_sl, deI, deIs_sl, isCh, k6, zc, zf, noS, clsC, filC, Chg.cl, Chg.fi, Cls.ok, Cls.rateOk, Cls.burstOk, rng, beq0, isE, Bool.and_assoc, Bool.and_comm, Bool.and_left_comm]
    all_goals first | rfl | ac_rfl | (rw [Bool.eq_iff_iff]; simp only [Bool.and_eq_true, decide_eq_true_eq]; grind)
  have e : ∀ j : Int, ¬ x.kind = j → (x.kind == j) = false := fun j h => by simp [h]
  simp -implicitDefEqProofs [Tryd.f23, F40, F41, F42, F43, F44, List.lookup_cons, and_assoc, pick_and, pick_or, if_and, if_or, e 1 k1, e 2 k2, e 3 k3, e 4 k4, e 5 k5, e 6 k6, k1, k2, k3, k4, k5, k6]
  refine fin_pure (by simp) ?_
  simp -implicitDefEqProofs [pur2_i, pur2_b, pur2_s, pur2_nil, pur2_sl, pur2_tup, rn2_tup, rn2_agg, rn2_osl, rn1_v, rn1_osl, rn1_agg, rn0_v, rn0_sl, rn0, pickObs, pur_v, pur_b, pur_s, pur_nil, pur_sl, deI, deIs_sl, isCh, k1, k2, k3, k4, k5, k6]
end Go.Proofs
