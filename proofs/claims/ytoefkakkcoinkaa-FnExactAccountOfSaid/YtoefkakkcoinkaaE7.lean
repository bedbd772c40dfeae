/-
  What is proved here: the contract of the law of AccountOf. Condition: none.
-/
import Derived.Test.YtoefkakkcoinkaaE6
namespace Go.Proofs
open Go.Abs
set_option linter.unusedSimpArgs false
set_option linter.unusedVariables false
set_option maxHeartbeats 8000000
set_option maxRecDepth 20000

def F4 : Fun := ⟨fun xs => xs = [.sl (tR (deT (xs.getD 0 .top) : List Evt)), I (deI (xs.getD 1 .top) : Int)] ∧ (fun (l : List Evt) (c : Int) => (l.length ≤ 9223372036854775807)) (deT (xs.getD 0 .top) : List Evt) (deI (xs.getD 1 .top) : Int), fun xs => (fun (l : List Evt) (c : Int) => ((B true, []) : X × List Ob)) (deT (xs.getD 0 .top) : List Evt) (deI (xs.getD 1 .top) : Int)⟩
theorem F4_in {xs : List X} (h : F4.pre xs) : ∃ (l : List Evt) (c : Int), xs = [.sl (tR l), I c] ∧ (l.length ≤ 9223372036854775807) := ⟨_, _, h.1, h.2⟩
theorem F4_res (l : List Evt) (c : Int) : F4.res [.sl (tR l), I c] = (B true, []) := by simp [F4]
theorem F4_mk (l : List Evt) (c : Int) (h : l.length ≤ 9223372036854775807) : F4.pre [.sl (tR l), I c] := by simpa [F4] using h
theorem c4 : GenCA K Try.prog 4 F4 := by
  refine contractA Try.mix K [(14, F14), (15, F15), (16, F16), (17, F15), (18, F18), (19, F19), (22, F22)] [(20, M20), (21, M21)] (by simp [c14, c15, c16, c17, c18, c19, c22]) (by simp [m20, m21]) Try.func4 rfl (by decide) ?_
  intro xs hxs
  obtain ⟨l, c, rfl, hp⟩ := F4_in hxs
  rw [F4_res]
  refine ⟨by rw [Try.ntmps4]; simp, ?_⟩
  by_cases hbig : (1048576 : Int) < l.length
  · simp -implicitDefEqProofs [Try.f4, F14, F15, F16, F15, F18, F19, F22, M20, M21, List.lookup_cons, and_assoc, pick_and, pick_or, if_and, if_or, rbR_iR, rbR_nil, rbOb_mk, iR_mf, pickOk, -List.all_eq_true, iR_ok, ok0, iR_eq_nil, deIs_nil, hp, hbig]
    refine fin_pure (by simp) ?_
    simp -implicitDefEqProofs [pur2_i, pur2_b, pur2_s, pur2_nil, pur2_sl, pur2_tup, rn2_tup, rn2_agg, rn2_osl, rn1_v, rn1_osl, rn1_agg, rn0_v, rn0_sl, rn0, pickObs, pur_v, pur_b, pur_s, pur_nil, pur_sl, deI, deIs_sl]
  · have hl1 : l.length ≤ 1048576 := by omega
    have hneg : ¬ (1048576 : Int) - l.length < 0 := by omega
    have hk : ¬ (1 : Int) + 5 * l.length < 0 := by omega
    have hmu : M20.mu = [true] := rfl
    have hmi : M21.mu = [true] := rfl
    have hpe : M20.pre [.osl 0 0, .v (.int .i64 1)] [⟨71, 5, 0, tR l, false, true, none⟩] := .inl ⟨l, 1, rfl, rfl, hl1, by omega, by omega⟩
    have hre : M20.res [.osl 0 0, .v (.int .i64 1)] [⟨71, 5, 0, tR l, false, true, none⟩] = (I (1 + 5 * (l.length : Int)), [⟨71, 5, 0, tR (Evt.mkL 1 l.length), false, true, none⟩]) := by
      simp [M20, tOb, deI]
    by_cases hg : (evsOk l && rng 1 999 c) = true
    · have hA : accR l c = (.tup [.osl 0 0, B true], [⟨3, 1, 0, iR (acc4 l c), false, true, none⟩]) := by rw [accR, if_pos hg]; rfl
      have hl4 : (acc4 l c).length = 4 := rfl
      have hk4 : ¬ (1 : Int) + 4 < 0 := by omega
      simp -implicitDefEqProofs [Try.f4, F14, F15, F16, F15, F18, F19, F22, M20, M21, List.lookup_cons, and_assoc, pick_and, pick_or, if_and, if_or, rbR_iR, rbR_nil, rbOb_mk, iR_mf, pickOk, -List.all_eq_true, iR_ok, ok0, iR_eq_nil, deIs_nil, hp, hbig, hl1, hneg, hk, hmu, hmi, hpe, hre, hA, hl4, iOb, tOb, ints, tR_rb]
      refine fin_pure (by simp) ?_
      simp -implicitDefEqProofs [pur2_i, pur2_b, pur2_s, pur2_nil, pur2_sl, pur2_tup, rn2_tup, rn2_agg, rn2_osl, rn1_v, rn1_osl, rn1_agg, rn0_v, rn0_sl, rn0, pickObs, pur_v, pur_b, pur_s, pur_nil, pur_sl, deI, deIs_sl]
    · have hA : accR l c = (.tup [.sl [], B false], []) := by rw [accR, if_neg hg]
      simp -implicitDefEqProofs [Try.f4, F14, F15, F16, F15, F18, F19, F22, M20, M21, List.lookup_cons, and_assoc, pick_and, pick_or, if_and, if_or, rbR_iR, rbR_nil, rbOb_mk, iR_mf, pickOk, -List.all_eq_true, iR_ok, ok0, iR_eq_nil, deIs_nil, hp, hbig, hl1, hneg, hk, hmu, hmi, hpe, hre, hA, iOb, tOb, ints, tR_rb]
      refine fin_pure (by simp) ?_
      simp -implicitDefEqProofs [pur2_i, pur2_b, pur2_s, pur2_nil, pur2_sl, pur2_tup, rn2_tup, rn2_agg, rn2_osl, rn1_v, rn1_osl, rn1_agg, rn0_v, rn0_sl, rn0, pickObs, pur_v, pur_b, pur_s, pur_nil, pur_sl, deI, deIs_sl]
end Go.Proofs
