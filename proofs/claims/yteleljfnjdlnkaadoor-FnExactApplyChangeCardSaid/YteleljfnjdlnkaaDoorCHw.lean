/-
  What is proved here: contracts of the law's copy of a change and of its size. Condition: none.
-/
import Derived.Test.YteleljfnjdlnkaaDoorLCw
import Derived.Test.YteleljfnjdlnkaaDoorQK1w
namespace Go.Proofs
open Go.Abs
set_option linter.unusedSimpArgs false
set_option linter.unnecessarySimpa false
set_option linter.unusedVariables false
set_option maxHeartbeats 8000000
set_option maxRecDepth 20000
def F8 : Fun := ⟨fun xs => xs = [.agg (rX (deA (xs.getD 0 .top) : Chg))] ∧ (fun (x : Chg) => (True)) (deA (xs.getD 0 .top) : Chg), fun xs => (fun (x : Chg) => ((.agg (rX x), []) : X × List Ob)) (deA (xs.getD 0 .top) : Chg)⟩
theorem F8_in {xs : List X} (h : F8.pre xs) : ∃ (x : Chg), xs = [.agg (rX x)] ∧ (True) := ⟨_, h.1, h.2⟩
theorem F8_res (x : Chg) : F8.res [.agg (rX x)] = (.agg (rX x), []) := by simp [F8]
theorem F8_mk (x : Chg) (h : True) : F8.pre [.agg (rX x)] := by simpa [F8] using h
theorem c8 : GenCA K Tryd.prog 8 F8 := by
  refine contractA Tryd.mix K [(20, F20), (21, F21)] [] (by simp [c20, c21]) (by simp) Tryd.func8 rfl (by decide) ?_
  intro xs hxs
  obtain ⟨x, rfl, hp⟩ := F8_in hxs
  rw [F8_res]
  refine ⟨by rw [Tryd.ntmps8]; simp, ?_⟩
  simp -implicitDefEqProofs [Tryd.f8, F20, F21, List.lookup_cons, and_assoc, pick_and, pick_or, if_and, if_or]
  refine fin_pure (by simp) ?_
  simp -implicitDefEqProofs [pur2_i, pur2_b, pur2_s, pur2_nil, pur2_sl, pur2_tup, rn2_tup, rn2_agg, rn2_osl, rn1_v, rn1_osl, rn1_agg, rn0_v, rn0_sl, rn0, pickObs, pur_v, pur_b, pur_s, pur_nil, pur_sl, deI, deIs_sl]
def F5 : Fun := ⟨fun xs => xs = [.agg (rX (deA (xs.getD 0 .top) : Chg)), I (deI (xs.getD 1 .top) : Int)] ∧ (fun (x : Chg) (m : Int) => (x.nm.size ≤ 9223372036854775807 ∧ 0 ≤ m ∧ m ≤ 1048576)) (deA (xs.getD 0 .top) : Chg) (deI (xs.getD 1 .top) : Int), fun xs => (fun (x : Chg) (m : Int) => ((I (if m < x.nm.size then -1 else m - x.nm.size), []) : X × List Ob)) (deA (xs.getD 0 .top) : Chg) (deI (xs.getD 1 .top) : Int)⟩
theorem F5_in {xs : List X} (h : F5.pre xs) : ∃ (x : Chg) (m : Int), xs = [.agg (rX x), I m] ∧ (x.nm.size ≤ 9223372036854775807 ∧ 0 ≤ m ∧ m ≤ 1048576) := ⟨_, _, h.1, h.2⟩
theorem F5_res (x : Chg) (m : Int) : F5.res [.agg (rX x), I m] = (I (if m < x.nm.size then -1 else m - x.nm.size), []) := by simp [F5]
theorem F5_mk (x : Chg) (m : Int) (h : x.nm.size ≤ 9223372036854775807 ∧ 0 ≤ m ∧ m ≤ 1048576) : F5.pre [.agg (rX x), I m] := by simpa [F5] using h
theorem c5 : GenCA K Tryd.prog 5 F5 := by
  refine contractA Tryd.mix K [] [] (by simp) (by simp) Tryd.func5 rfl (by decide) ?_
  intro xs hxs
  obtain ⟨x, m, rfl, hp⟩ := F5_in hxs
  rw [F5_res]
  refine ⟨by rw [Tryd.ntmps5]; simp, ?_⟩
  have hw : IntKind.i64.wrap (m - x.nm.size) = m - x.nm.size := w64 (by omega) (by omega)
  by_cases h : m < x.nm.size
  · have h' : m - x.nm.size < 0 := by omega
    simp -implicitDefEqProofs [Tryd.f5, List.lookup_cons, and_assoc, pick_and, pick_or, if_and, if_or, hw, h']
    refine fin_pure (by simp) ?_
    simp -implicitDefEqProofs [pur2_i, pur2_b, pur2_s, pur2_nil, pur2_sl, pur2_tup, rn2_tup, rn2_agg, rn2_osl, rn1_v, rn1_osl, rn1_agg, rn0_v, rn0_sl, rn0, pickObs, pur_v, pur_b, pur_s, pur_nil, pur_sl, deI, deIs_sl, h]
  · have h' : ¬ m - x.nm.size < 0 := by omega
    simp -implicitDefEqProofs [Tryd.f5, List.lookup_cons, and_assoc, pick_and, pick_or, if_and, if_or, hw, h']
    refine fin_pure (by simp) ?_
    simp -implicitDefEqProofs [pur2_i, pur2_b, pur2_s, pur2_nil, pur2_sl, pur2_tup, rn2_tup, rn2_agg, rn2_osl, rn1_v, rn1_osl, rn1_agg, rn0_v, rn0_sl, rn0, pickObs, pur_v, pur_b, pur_s, pur_nil, pur_sl, deI, deIs_sl, h]
end Go.Proofs
