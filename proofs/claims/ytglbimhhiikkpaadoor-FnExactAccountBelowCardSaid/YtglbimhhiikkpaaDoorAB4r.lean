/-
  What is proved here: the contract of the law of AccountBelow. Condition: none.
-/
import Derived.Test.YtglbimhhiikkpaaDoorAB3r
namespace Go.Proofs
open Go.Abs
set_option linter.unusedSimpArgs false
set_option linter.unnecessarySimpa false
set_option linter.unusedVariables false
set_option maxHeartbeats 8000000
set_option maxRecDepth 20000

def F8 : Fun := ⟨fun xs => xs = [.agg (cX (deC (xs.getD 0 .top) : Cfg)), .sl (tR (deT (xs.getD 1 .top) : List Evt)), I (deI (xs.getD 2 .top) : Int)] ∧ (fun (c : Cfg) (l : List Evt) (id : Int) => (bigC c ∧ l.length ≤ 9223372036854775807)) (deC (xs.getD 0 .top) : Cfg) (deT (xs.getD 1 .top) : List Evt) (deI (xs.getD 2 .top) : Int), fun xs => (fun (c : Cfg) (l : List Evt) (id : Int) => ((B true, []) : X × List Ob)) (deC (xs.getD 0 .top) : Cfg) (deT (xs.getD 1 .top) : List Evt) (deI (xs.getD 2 .top) : Int)⟩
theorem F8_in {xs : List X} (h : F8.pre xs) : ∃ (c : Cfg) (l : List Evt) (id : Int), xs = [.agg (cX c), .sl (tR l), I id] ∧ (bigC c ∧ l.length ≤ 9223372036854775807) := ⟨_, _, _, h.1, h.2⟩
theorem F8_res (c : Cfg) (l : List Evt) (id : Int) : F8.res [.agg (cX c), .sl (tR l), I id] = (B true, []) := by simp [F8]
theorem F8_mk (c : Cfg) (l : List Evt) (id : Int) (h : bigC c ∧ l.length ≤ 9223372036854775807) : F8.pre [.agg (cX c), .sl (tR l), I id] := by simpa [F8] using h
theorem c8 : GenCA K Tryd.prog 8 F8 := by
  refine contractA Tryd.mix K [(9, F9), (18, F18), (11, F11), (20, F20), (35, F36), (36, F36), (13, F13), (14, F14), (22, F22), (17, F17)] [(15, M15), (37, M37), (16, M16)] (by simp [c9, c18, c11, c20, c35, c36, c13, c14, c22, c17]) (by simp [m15, m37, m16]) Tryd.func8 rfl (by decide) ?_
  intro xs hxs
  obtain ⟨c, l, id, rfl, hp⟩ := F8_in hxs
  rw [F8_res]
  refine ⟨by rw [Tryd.ntmps8]; simp, ?_⟩
  obtain ⟨hbc, hbl⟩ := hp
  by_cases h1 : (1048576 : Int) < cSz c
  · simp -implicitDefEqProofs [Tryd.f8, F9, F18, F11, F20, F36, F36, F13, F14, F22, F17, M15, M37, M16, List.lookup_cons, and_assoc, pick_and, pick_or, if_and, if_or, rbR_iR, rbR_nil, rbOb_mk, iR_mf, pickOk, -List.all_eq_true, iR_ok, ok0, iR_eq_nil, deIs_nil, hbc, h1]
    refine fin_pure (by simp) ?_
    simp -implicitDefEqProofs [pur2_i, pur2_b, pur2_s, pur2_nil, pur2_sl, pur2_tup, rn2_tup, rn2_agg, rn2_osl, rn1_v, rn1_osl, rn1_agg, rn0_v, rn0_sl, rn0, pickObs, pur_v, pur_b, pur_s, pur_nil, pur_sl, deI, deIs_sl]
  have hz1 : 0 ≤ cSz c := by unfold cSz; omega
  have e1 : ¬ (1048576 : Int) - cSz c < 0 := by omega
  have e1' : cSz c ≤ 1048576 := by omega
  have e2 : (1048576 : Int) - cSz c ≤ 1048576 := by omega
  by_cases h2 : (1048576 : Int) - cSz c < l.length
  · simp -implicitDefEqProofs [Tryd.f8, F9, F18, F11, F20, F36, F36, F13, F14, F22, F17, M15, M37, M16, List.lookup_cons, and_assoc, pick_and, pick_or, if_and, if_or, rbR_iR, rbR_nil, rbOb_mk, iR_mf, pickOk, -List.all_eq_true, iR_ok, ok0, iR_eq_nil, deIs_nil, hbc, hbl, h1, e1, e1', e2, hz1, h2]
    refine fin_pure (by simp) ?_
    simp -implicitDefEqProofs [pur2_i, pur2_b, pur2_s, pur2_nil, pur2_sl, pur2_tup, rn2_tup, rn2_agg, rn2_osl, rn1_v, rn1_osl, rn1_agg, rn0_v, rn0_sl, rn0, pickObs, pur_v, pur_b, pur_s, pur_nil, pur_sl, deI, deIs_sl]
  have hoc := okC_of h1 (Int.le_refl _)
  have hol : l.length ≤ 1048576 := by omega
  have e3 : ¬ (1048576 : Int) - cSz c - l.length < 0 := by omega
  have g1 := hoc.1
  have g2 := hoc.2.1
  have hmu : M15.mu = [true] := rfl
  have hme : M37.mu = [true] := rfl
  have hmi : M16.mu = [true] := rfl
  have u1 : (c.cls.length : Int) ≤ 1048576 := by omega
  have u2 : (c.fil.length : Int) ≤ 1048576 := by omega
  have u3 : (l.length : Int) ≤ 1048576 := by omega
  have hpe : ∀ (x : Cfg) (k : Int), okC x → 0 ≤ k → k ≤ 549755813888 → M15.pre [.agg [.v (.string x.name), .osl 0 0, .osl 1 0, I x.dflt], .v (.int .i64 k)] [⟨64, 8, 0, tR x.cls, false, true, none⟩, ⟨65, 5, 0, tR x.fil, false, true, none⟩] := fun x k h a b => ⟨x, k, rfl, rfl, h, a, b⟩
  have hre : ∀ (x : Cfg) (k : Int), M15.res [.agg [.v (.string x.name), .osl 0 0, .osl 1 0, I x.dflt], .v (.int .i64 k)] [⟨64, 8, 0, tR x.cls, false, true, none⟩, ⟨65, 5, 0, tR x.fil, false, true, none⟩] = (I (k + 8 * (x.cls.length : Int) + 5 * (x.fil.length : Int)), [⟨64, 8, 0, tR (Cls.mkL k x.cls.length), false, true, none⟩, ⟨65, 5, 0, tR (Fil.mkL (k + 8 * (x.cls.length : Int)) x.fil.length), false, true, none⟩]) := fun x k => by
    simp [M15, cMk, obl, tOb, deI]
  have hpv : ∀ (L : List Evt) (k : Int), L.length ≤ 1048576 → 0 ≤ k → k ≤ 549755813888 → M37.pre [.osl 0 0, .v (.int .i64 k)] [⟨87, 5, 0, tR L, false, true, none⟩] := fun L k h a b => .inl ⟨L, k, rfl, rfl, h, by omega, by omega⟩
  have hrv : ∀ (L : List Evt) (k : Int), M37.res [.osl 0 0, .v (.int .i64 k)] [⟨87, 5, 0, tR L, false, true, none⟩] = (I (k + 5 * (L.length : Int)), [⟨87, 5, 0, tR (Evt.mkL k L.length), false, true, none⟩]) := fun L k => by
    simp [M37, tOb, deI]
  have k0 : (0 : Int) ≤ 1 + 8 * c.cls.length + 5 * c.fil.length := by omega
  have k1 : (1 : Int) + 8 * c.cls.length + 5 * c.fil.length ≤ 549755813888 := by omega
  have k2 : ¬ (1 : Int) + 8 * c.cls.length + 5 * c.fil.length + 5 * l.length < 0 := by omega
  have hpi0 : M16.pre [.sl [], .v (.int .i64 1)] [] := .inr ⟨1, rfl, rfl, by omega, by omega⟩
  have hri0 : M16.res [.sl [], .v (.int .i64 1)] [] = (I 1, []) := rfl
  have hpi1 : ∀ L : List Int, L.length ≤ 1048576 → M16.pre [.osl 0 0, .v (.int .i64 1)] [⟨3, 1, 0, iR L, false, true, none⟩] := fun L h => .inl ⟨L, 1, rfl, rfl, h, by omega, by omega⟩
  have hri1 : ∀ L : List Int, M16.res [.osl 0 0, .v (.int .i64 1)] [⟨3, 1, 0, iR L, false, true, none⟩] = (I (1 + (L.length : Int)), [⟨3, 1, 0, iR (upI 1 L.length), false, true, none⟩]) := fun L => by
    simp [M16, iOb, deI]
  cases hA : (fitB c l && decide (0 ≤ fidx c.cls id)) with
  | false =>
    have hK : belR c l id = (.tup [.sl [], B false], []) := by rw [belR, hA]; rfl
    have hl4 : True := trivial
    simp -implicitDefEqProofs [Tryd.f8, F9, F18, F11, F20, F36, F13, F14, F22, F17, idx2b, hpi0, hpi1, hri0, hri1, List.lookup_cons, and_assoc, pick_and, pick_or, if_and, if_or, rbR_iR, rbR_nil, rbOb_mk, iR_mf, pickOk, -List.all_eq_true, iR_ok, ok0, iR_eq_nil, deIs_nil, hbc, hbl, h1, e1, e1', e2, e3, hz1, h2, hoc, hol, hK, cO, cOb, tOb, iOb, ints, tR_rb, hmu, hme, hmi, hpe, hre, hpv, hrv, k0, k1, k2, hl4, pur2_tup, pur2_b, pur2_i, pur2_sl, pur_sl, pur_b, pur_v, pur_oslE]
    refine drawP_pu _ (by decide) ?_
    simp -implicitDefEqProofs [Tryd.f8, F9, F18, F11, F20, F36, F13, F14, F22, F17, idx2b, hpi0, hpi1, hri0, hri1, List.lookup_cons, and_assoc, pick_and, pick_or, if_and, if_or, rbR_iR, rbR_nil, rbOb_mk, iR_mf, pickOk, -List.all_eq_true, iR_ok, ok0, iR_eq_nil, deIs_nil, hbc, hbl, h1, e1, e1', e2, e3, hz1, h2, hoc, hol, hK, cO, cOb, tOb, iOb, ints, tR_rb, hmu, hme, hmi, hpe, hre, hpv, hrv, k0, k1, k2, hl4, pur2_tup, pur2_b, pur2_i, pur2_sl, pur_sl, pur_b, pur_v, pur_oslE]
    refine fin_pure (by simp) ?_
    simp -implicitDefEqProofs [pur2_i, pur2_b, pur2_s, pur2_nil, pur2_sl, pur2_tup, rn2_tup, rn2_agg, rn2_osl, rn1_v, rn1_osl, rn1_agg, rn0_v, rn0_sl, rn0, pickObs, pur_v, pur_b, pur_s, pur_nil, pur_sl, deI, deIs_sl]
  | true =>
    have hK : belR c l id = (.tup [.osl 0 0, B true], [⟨3, 1, 0, iR (acc4S l (belI c.cls (fidx c.cls id).toNat (leafL c.cls c.cls.length))), false, true, none⟩]) := by rw [belR, hA]; rfl
    generalize belI c.cls (fidx c.cls id).toNat (leafL c.cls c.cls.length) = ks at hK
    have hl4 : (acc4S l ks).length = 4 := rfl
    simp -implicitDefEqProofs [Tryd.f8, F9, F18, F11, F20, F36, F13, F14, F22, F17, idx2b, hpi0, hpi1, hri0, hri1, List.lookup_cons, and_assoc, pick_and, pick_or, if_and, if_or, rbR_iR, rbR_nil, rbOb_mk, iR_mf, pickOk, -List.all_eq_true, iR_ok, ok0, iR_eq_nil, deIs_nil, hbc, hbl, h1, e1, e1', e2, e3, hz1, h2, hoc, hol, hK, cO, cOb, tOb, iOb, ints, tR_rb, hmu, hme, hmi, hpe, hre, hpv, hrv, k0, k1, k2, hl4, pur2_tup, pur2_b, pur2_i, pur2_sl, pur_sl, pur_b, pur_v, pur_oslE]
    refine drawP_pu _ (by decide) ?_
    simp -implicitDefEqProofs [Tryd.f8, F9, F18, F11, F20, F36, F13, F14, F22, F17, idx2b, hpi0, hpi1, hri0, hri1, List.lookup_cons, and_assoc, pick_and, pick_or, if_and, if_or, rbR_iR, rbR_nil, rbOb_mk, iR_mf, pickOk, -List.all_eq_true, iR_ok, ok0, iR_eq_nil, deIs_nil, hbc, hbl, h1, e1, e1', e2, e3, hz1, h2, hoc, hol, hK, cO, cOb, tOb, iOb, ints, tR_rb, hmu, hme, hmi, hpe, hre, hpv, hrv, k0, k1, k2, hl4, pur2_tup, pur2_b, pur2_i, pur2_sl, pur_sl, pur_b, pur_v, pur_oslE]
    refine fin_pure (by simp) ?_
    simp -implicitDefEqProofs [pur2_i, pur2_b, pur2_s, pur2_nil, pur2_sl, pur2_tup, rn2_tup, rn2_agg, rn2_osl, rn1_v, rn1_osl, rn1_agg, rn0_v, rn0_sl, rn0, pickObs, pur_v, pur_b, pur_s, pur_nil, pur_sl, deI, deIs_sl]
end Go.Proofs
