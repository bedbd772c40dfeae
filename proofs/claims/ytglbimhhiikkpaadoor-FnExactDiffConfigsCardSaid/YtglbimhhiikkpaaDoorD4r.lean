/-
  What is proved here: contracts of both DiffConfigs, and of its law. Condition: none.
-/
import Derived.Test.YtglbimhhiikkpaaDoorD3r
import Derived.Test.YtglbimhhiikkpaaDoorC11r
namespace Go.Proofs
open Go.Abs
set_option linter.unusedSimpArgs false
set_option linter.unnecessarySimpa false
set_option linter.unusedVariables false
set_option maxHeartbeats 8000000
set_option maxRecDepth 20000

@[simp] theorem deT_nil' : (deT (.sl []) : List Chg) = [] := rfl
@[simp] theorem tR_nil' : tR ([] : List Chg) = [] := rfl
def diffAns (c d : Cfg) : X × List Ob := if (isCfg c && isCfg d) = true then (.tup [.osl 0 0, B true], [chOb (diffL c d)]) else (.tup [.sl [], B false], [])
theorem cfg_small {c : Cfg} (h : isCfg c = true) : c.cls.length ≤ 24 ∧ c.fil.length ≤ 16 := by
  simp only [isCfg, Bool.and_eq_true, decide_eq_true_eq] at h
  exact h.1
def F26 : Fun := ⟨fun xs => xs = [.agg (cX (deC (xs.getD 0 .top) : Cfg)), .agg (cX (deC (xs.getD 1 .top) : Cfg))] ∧ (fun (c : Cfg) (d : Cfg) => (okC c ∧ okC d)) (deC (xs.getD 0 .top) : Cfg) (deC (xs.getD 1 .top) : Cfg), fun xs => (fun (c : Cfg) (d : Cfg) => ((diffAns c d) : X × List Ob)) (deC (xs.getD 0 .top) : Cfg) (deC (xs.getD 1 .top) : Cfg)⟩
theorem F26_in {xs : List X} (h : F26.pre xs) : ∃ (c : Cfg) (d : Cfg), xs = [.agg (cX c), .agg (cX d)] ∧ (okC c ∧ okC d) := ⟨_, _, h.1, h.2⟩
theorem F26_res (c : Cfg) (d : Cfg) : F26.res [.agg (cX c), .agg (cX d)] = (diffAns c d) := by simp [F26]
theorem F26_mk (c : Cfg) (d : Cfg) (h : okC c ∧ okC d) : F26.pre [.agg (cX c), .agg (cX d)] := by simpa [F26] using h
theorem c26 : GenCA K Tryd.prog 26 F26 := by
  refine contractA Tryd.mix K [(44, F44), (57, F57)] [] (by simp [c44, c57]) (by simp) Tryd.func26 rfl (by decide) ?_
  intro xs hxs
  obtain ⟨c, d, rfl, hp⟩ := F26_in hxs
  rw [F26_res]
  refine ⟨by rw [Tryd.ntmps26]; simp, ?_⟩
  obtain ⟨hpc, hpd⟩ := hp
  cases gc : isCfg c with
  | false =>
    simp -implicitDefEqProofs [Tryd.f26, F44, F57, List.lookup_cons, and_assoc, pick_and, pick_or, if_and, if_or, hpc, gc]
    refine fin_pure (by simp) ?_
    simp -implicitDefEqProofs [pur2_i, pur2_b, pur2_s, pur2_nil, pur2_sl, pur2_tup, rn2_tup, rn2_agg, rn2_osl, rn1_v, rn1_osl, rn1_agg, rn0_v, rn0_sl, rn0, pickObs, pur_v, pur_b, pur_s, pur_nil, pur_sl, deI, deIs_sl, diffAns, gc]
  | true =>
  cases gd : isCfg d with
  | false =>
    simp -implicitDefEqProofs [Tryd.f26, F44, F57, List.lookup_cons, and_assoc, pick_and, pick_or, if_and, if_or, hpc, hpd, gc, gd]
    refine fin_pure (by simp) ?_
    simp -implicitDefEqProofs [pur2_i, pur2_b, pur2_s, pur2_nil, pur2_sl, pur2_tup, rn2_tup, rn2_agg, rn2_osl, rn1_v, rn1_osl, rn1_agg, rn0_v, rn0_sl, rn0, pickObs, pur_v, pur_b, pur_s, pur_nil, pur_sl, deI, deIs_sl, diffAns, gc, gd]
  | true =>
  simp -implicitDefEqProofs [Tryd.f26, F44, F57, List.lookup_cons, and_assoc, pick_and, pick_or, if_and, if_or, hpc, hpd, gc, gd, chOb, tOb]
  refine fin_own [2] (by simp [pickOk, -List.all_eq_true, tR_ok]) ?_
  simp -implicitDefEqProofs [pur2_i, pur2_b, pur2_s, pur2_nil, pur2_sl, pur2_tup, rn2_tup, rn2_agg, rn2_osl, rn1_v, rn1_osl, rn1_agg, rn0_v, rn0_sl, rn0, pickObs, pur_v, pur_b, pur_s, pur_nil, pur_sl, deI, deIs_sl, chOb, tOb, diffAns, gc, gd]
theorem c25 : GenCA K Tryd.prog 25 F26 := by
  refine contractA Tryd.mix K [(40, F44), (56, F57)] [] (by simp [c40, c56]) (by simp) Tryd.func25 rfl (by decide) ?_
  intro xs hxs
  obtain ⟨c, d, rfl, hp⟩ := F26_in hxs
  rw [F26_res]
  refine ⟨by rw [Tryd.ntmps25]; simp, ?_⟩
  obtain ⟨hpc, hpd⟩ := hp
  cases gc : isCfg c with
  | false =>
    simp -implicitDefEqProofs [Tryd.f25, F44, F57, List.lookup_cons, and_assoc, pick_and, pick_or, if_and, if_or, hpc, gc]
    refine fin_pure (by simp) ?_
    simp -implicitDefEqProofs [pur2_i, pur2_b, pur2_s, pur2_nil, pur2_sl, pur2_tup, rn2_tup, rn2_agg, rn2_osl, rn1_v, rn1_osl, rn1_agg, rn0_v, rn0_sl, rn0, pickObs, pur_v, pur_b, pur_s, pur_nil, pur_sl, deI, deIs_sl, diffAns, gc]
  | true =>
  cases gd : isCfg d with
  | false =>
    simp -implicitDefEqProofs [Tryd.f25, F44, F57, List.lookup_cons, and_assoc, pick_and, pick_or, if_and, if_or, hpc, hpd, gc, gd]
    refine fin_pure (by simp) ?_
    simp -implicitDefEqProofs [pur2_i, pur2_b, pur2_s, pur2_nil, pur2_sl, pur2_tup, rn2_tup, rn2_agg, rn2_osl, rn1_v, rn1_osl, rn1_agg, rn0_v, rn0_sl, rn0, pickObs, pur_v, pur_b, pur_s, pur_nil, pur_sl, deI, deIs_sl, diffAns, gc, gd]
  | true =>
  simp -implicitDefEqProofs [Tryd.f25, F44, F57, List.lookup_cons, and_assoc, pick_and, pick_or, if_and, if_or, hpc, hpd, gc, gd, chOb, tOb]
  refine fin_own [2] (by simp [pickOk, -List.all_eq_true, tR_ok]) ?_
  simp -implicitDefEqProofs [pur2_i, pur2_b, pur2_s, pur2_nil, pur2_sl, pur2_tup, rn2_tup, rn2_agg, rn2_osl, rn1_v, rn1_osl, rn1_agg, rn0_v, rn0_sl, rn0, pickObs, pur_v, pur_b, pur_s, pur_nil, pur_sl, deI, deIs_sl, chOb, tOb, diffAns, gc, gd]
def F6 : Fun := ⟨fun xs => xs = [.agg (cX (deC (xs.getD 0 .top) : Cfg)), .agg (cX (deC (xs.getD 1 .top) : Cfg))] ∧ (fun (c : Cfg) (d : Cfg) => (bigC c ∧ bigC d)) (deC (xs.getD 0 .top) : Cfg) (deC (xs.getD 1 .top) : Cfg), fun xs => (fun (c : Cfg) (d : Cfg) => ((B true, []) : X × List Ob)) (deC (xs.getD 0 .top) : Cfg) (deC (xs.getD 1 .top) : Cfg)⟩
theorem F6_in {xs : List X} (h : F6.pre xs) : ∃ (c : Cfg) (d : Cfg), xs = [.agg (cX c), .agg (cX d)] ∧ (bigC c ∧ bigC d) := ⟨_, _, h.1, h.2⟩
theorem F6_res (c : Cfg) (d : Cfg) : F6.res [.agg (cX c), .agg (cX d)] = (B true, []) := by simp [F6]
theorem F6_mk (c : Cfg) (d : Cfg) (h : bigC c ∧ bigC d) : F6.pre [.agg (cX c), .agg (cX d)] := by simpa [F6] using h
theorem c6 : GenCA K Tryd.prog 6 F6 := by
  refine contractA Tryd.mix K [(9, F9), (11, F11), (25, F26), (26, F26), (27, F27), (14, F14), (29, F29)] [(15, M15), (28, M28)] (by simp [c9, c11, c25, c26, c27, c14, c29]) (by simp [m15, m28]) Tryd.func6 rfl (by decide) ?_
  intro xs hxs
  obtain ⟨c, d, rfl, hp⟩ := F6_in hxs
  rw [F6_res]
  refine ⟨by rw [Tryd.ntmps6]; simp, ?_⟩
  obtain ⟨hbc, hbd⟩ := hp
  by_cases h1 : (1048576 : Int) < cSz c
  · simp -implicitDefEqProofs [Tryd.f6, F9, F11, F26, F26, F27, F14, F29, M15, M28, List.lookup_cons, and_assoc, pick_and, pick_or, if_and, if_or, rbR_iR, rbR_nil, rbOb_mk, iR_mf, pickOk, -List.all_eq_true, iR_ok, ok0, iR_eq_nil, deIs_nil, hbc, h1]
    refine fin_pure (by simp) ?_
    simp -implicitDefEqProofs [pur2_i, pur2_b, pur2_s, pur2_nil, pur2_sl, pur2_tup, rn2_tup, rn2_agg, rn2_osl, rn1_v, rn1_osl, rn1_agg, rn0_v, rn0_sl, rn0, pickObs, pur_v, pur_b, pur_s, pur_nil, pur_sl, deI, deIs_sl]
  have hz1 : 0 ≤ cSz c := by unfold cSz; omega
  have e1 : ¬ (1048576 : Int) - cSz c < 0 := by omega
  have e1' : cSz c ≤ 1048576 := by omega
  have e2 : (1048576 : Int) - cSz c ≤ 1048576 := by omega
  by_cases h2 : (1048576 : Int) - cSz c < cSz d
  · simp -implicitDefEqProofs [Tryd.f6, F9, F11, F26, F26, F27, F14, F29, M15, M28, List.lookup_cons, and_assoc, pick_and, pick_or, if_and, if_or, rbR_iR, rbR_nil, rbOb_mk, iR_mf, pickOk, -List.all_eq_true, iR_ok, ok0, iR_eq_nil, deIs_nil, hbc, hbd, h1, e1, e1', e2, hz1, h2]
    refine fin_pure (by simp) ?_
    simp -implicitDefEqProofs [pur2_i, pur2_b, pur2_s, pur2_nil, pur2_sl, pur2_tup, rn2_tup, rn2_agg, rn2_osl, rn1_v, rn1_osl, rn1_agg, rn0_v, rn0_sl, rn0, pickObs, pur_v, pur_b, pur_s, pur_nil, pur_sl, deI, deIs_sl]
  have hoc := okC_of h1 (Int.le_refl _)
  have hod := okC_of h2 e2
  have e3 : ¬ (1048576 : Int) - cSz c - cSz d < 0 := by omega
  have g1 := hoc.1
  have g2 := hoc.2.1
  have g3 := hod.1
  have g4 := hod.2.1
  have hmu : M15.mu = [true] := rfl
  have hmi : M28.mu = [true] := rfl
  have u1 : (c.cls.length : Int) ≤ 1048576 := by omega
  have u2 : (c.fil.length : Int) ≤ 1048576 := by omega
  have u3 : (d.cls.length : Int) ≤ 1048576 := by omega
  have u4 : (d.fil.length : Int) ≤ 1048576 := by omega
  have hpe : ∀ (x : Cfg) (k : Int), okC x → 0 ≤ k → k ≤ 549755813888 → M15.pre [.agg [.v (.string x.name), .osl 0 0, .osl 1 0, I x.dflt], .v (.int .i64 k)] [⟨64, 8, 0, tR x.cls, false, true, none⟩, ⟨65, 5, 0, tR x.fil, false, true, none⟩] := fun x k h a b => ⟨x, k, rfl, rfl, h, a, b⟩
  have hre : ∀ (x : Cfg) (k : Int), M15.res [.agg [.v (.string x.name), .osl 0 0, .osl 1 0, I x.dflt], .v (.int .i64 k)] [⟨64, 8, 0, tR x.cls, false, true, none⟩, ⟨65, 5, 0, tR x.fil, false, true, none⟩] = (I (k + 8 * (x.cls.length : Int) + 5 * (x.fil.length : Int)), [⟨64, 8, 0, tR (Cls.mkL k x.cls.length), false, true, none⟩, ⟨65, 5, 0, tR (Fil.mkL (k + 8 * (x.cls.length : Int)) x.fil.length), false, true, none⟩]) := fun x k => by
    simp [M15, cMk, obl, tOb, deI]
  have k0 : (0 : Int) ≤ 1 + 8 * c.cls.length + 5 * c.fil.length := by omega
  have k1 : (1 : Int) + 8 * c.cls.length + 5 * c.fil.length ≤ 549755813888 := by omega
  have k2 : ¬ (1 : Int) + 8 * c.cls.length + 5 * c.fil.length + 8 * d.cls.length + 5 * d.fil.length < 0 := by omega
  have hpi0 : M28.pre [.sl [], .v (.int .i64 1)] [] := .inr ⟨1, rfl, rfl, by omega, by omega⟩
  have hri0 : M28.res [.sl [], .v (.int .i64 1)] [] = (I 1, []) := rfl
  have hpi1 : ∀ L : List Chg, L.length ≤ 1048576 → M28.pre [.osl 0 0, .v (.int .i64 1)] [⟨67, 16, 0, tR L, false, true, none⟩] := fun L h => .inl ⟨L, 1, rfl, rfl, h, by omega, by omega⟩
  have hri1 : ∀ L : List Chg, M28.res [.osl 0 0, .v (.int .i64 1)] [⟨67, 16, 0, tR L, false, true, none⟩] = (I (1 + 16 * (L.length : Int)), [⟨67, 16, 0, tR (Chg.mkL 1 L.length), false, true, none⟩]) := fun L => by
    simp [M28, tOb, deI]
  cases hA : (isCfg c && isCfg d) with
  | false =>
    have hK : diffAns c d = (.tup [.sl [], B false], []) := by rw [diffAns, hA]; rfl
    simp -implicitDefEqProofs [Tryd.f6, F9, F11, F26, F27, F14, F29, idx2b, hpi0, hpi1, hri0, hri1, List.lookup_cons, and_assoc, pick_and, pick_or, if_and, if_or, rbR_iR, rbR_nil, rbOb_mk, iR_mf, pickOk, -List.all_eq_true, iR_ok, ok0, iR_eq_nil, deIs_nil, hbc, hbd, h1, e1, e1', e2, e3, hz1, h2, hoc, hod, hK, cO, cOb, tOb, iOb, chOb, ints, tR_rb, hmu, hmi, hpe, hre, k0, k1, k2, pur2_tup, pur2_b, pur2_i, pur2_sl, pur_sl, pur_b, pur_v, pur_oslE]
    refine drawP_pu _ (by decide) ?_
    simp -implicitDefEqProofs [Tryd.f6, F9, F11, F26, F27, F14, F29, idx2b, hpi0, hpi1, hri0, hri1, List.lookup_cons, and_assoc, pick_and, pick_or, if_and, if_or, rbR_iR, rbR_nil, rbOb_mk, iR_mf, pickOk, -List.all_eq_true, iR_ok, ok0, iR_eq_nil, deIs_nil, hbc, hbd, h1, e1, e1', e2, e3, hz1, h2, hoc, hod, hK, cO, cOb, tOb, iOb, chOb, ints, tR_rb, hmu, hmi, hpe, hre, k0, k1, k2, pur2_tup, pur2_b, pur2_i, pur2_sl, pur_sl, pur_b, pur_v, pur_oslE]
    refine drawP_pu _ (by decide) ?_
    simp -implicitDefEqProofs [Tryd.f6, F9, F11, F26, F27, F14, F29, idx2b, hpi0, hpi1, hri0, hri1, List.lookup_cons, and_assoc, pick_and, pick_or, if_and, if_or, rbR_iR, rbR_nil, rbOb_mk, iR_mf, pickOk, -List.all_eq_true, iR_ok, ok0, iR_eq_nil, deIs_nil, hbc, hbd, h1, e1, e1', e2, e3, hz1, h2, hoc, hod, hK, cO, cOb, tOb, iOb, chOb, ints, tR_rb, hmu, hmi, hpe, hre, k0, k1, k2, pur2_tup, pur2_b, pur2_i, pur2_sl, pur_sl, pur_b, pur_v, pur_oslE]
    refine drawP_pu _ (by decide) ?_
    simp -implicitDefEqProofs [Tryd.f6, F9, F11, F26, F27, F14, F29, idx2b, hpi0, hpi1, hri0, hri1, List.lookup_cons, and_assoc, pick_and, pick_or, if_and, if_or, rbR_iR, rbR_nil, rbOb_mk, iR_mf, pickOk, -List.all_eq_true, iR_ok, ok0, iR_eq_nil, deIs_nil, hbc, hbd, h1, e1, e1', e2, e3, hz1, h2, hoc, hod, hK, cO, cOb, tOb, iOb, chOb, ints, tR_rb, hmu, hmi, hpe, hre, k0, k1, k2, pur2_tup, pur2_b, pur2_i, pur2_sl, pur_sl, pur_b, pur_v, pur_oslE]
    refine drawP_pu _ (by decide) ?_
    simp -implicitDefEqProofs [Tryd.f6, F9, F11, F26, F27, F14, F29, idx2b, hpi0, hpi1, hri0, hri1, List.lookup_cons, and_assoc, pick_and, pick_or, if_and, if_or, rbR_iR, rbR_nil, rbOb_mk, iR_mf, pickOk, -List.all_eq_true, iR_ok, ok0, iR_eq_nil, deIs_nil, hbc, hbd, h1, e1, e1', e2, e3, hz1, h2, hoc, hod, hK, cO, cOb, tOb, iOb, chOb, ints, tR_rb, hmu, hmi, hpe, hre, k0, k1, k2, pur2_tup, pur2_b, pur2_i, pur2_sl, pur_sl, pur_b, pur_v, pur_oslE]
    refine fin_pure (by simp) ?_
    simp -implicitDefEqProofs [pur2_i, pur2_b, pur2_s, pur2_nil, pur2_sl, pur2_tup, rn2_tup, rn2_agg, rn2_osl, rn1_v, rn1_osl, rn1_agg, rn0_v, rn0_sl, rn0, pickObs, pur_v, pur_b, pur_s, pur_nil, pur_sl, deI, deIs_sl]
  | true =>
    have hK : diffAns c d = (.tup [.osl 0 0, B true], [⟨67, 16, 0, tR (diffL c d), false, true, none⟩]) := by rw [diffAns, hA]; rfl
    have hkl := diffL_len c d
    have hkl2 : (diffL c d).length ≤ 1048576 := by
      simp only [Bool.and_eq_true] at hA
      have n1 := cfg_small hA.1
      have n2 := cfg_small hA.2
      omega
    have hk5 : (0 : Int) ≤ 1 + 16 * (diffL c d).length := by omega
    have hk4 : ¬ (1 : Int) + 16 * (diffL c d).length < 0 := by omega
    simp -implicitDefEqProofs [Tryd.f6, F9, F11, F26, F27, F14, F29, idx2b, hpi0, hpi1, hri0, hri1, List.lookup_cons, and_assoc, pick_and, pick_or, if_and, if_or, rbR_iR, rbR_nil, rbOb_mk, iR_mf, pickOk, -List.all_eq_true, iR_ok, ok0, iR_eq_nil, deIs_nil, hbc, hbd, h1, e1, e1', e2, e3, hz1, h2, hoc, hod, hK, cO, cOb, tOb, iOb, chOb, ints, tR_rb, hmu, hmi, hpe, hre, k0, k1, k2, hkl2, hk4, hk5, pur2_tup, pur2_b, pur2_i, pur2_sl, pur_sl, pur_b, pur_v, pur_oslE]
    refine drawP_pu _ (by decide) ?_
    simp -implicitDefEqProofs [Tryd.f6, F9, F11, F26, F27, F14, F29, idx2b, hpi0, hpi1, hri0, hri1, List.lookup_cons, and_assoc, pick_and, pick_or, if_and, if_or, rbR_iR, rbR_nil, rbOb_mk, iR_mf, pickOk, -List.all_eq_true, iR_ok, ok0, iR_eq_nil, deIs_nil, hbc, hbd, h1, e1, e1', e2, e3, hz1, h2, hoc, hod, hK, cO, cOb, tOb, iOb, chOb, ints, tR_rb, hmu, hmi, hpe, hre, k0, k1, k2, hkl2, hk4, hk5, pur2_tup, pur2_b, pur2_i, pur2_sl, pur_sl, pur_b, pur_v, pur_oslE]
    refine drawP_pu _ (by decide) ?_
    simp -implicitDefEqProofs [Tryd.f6, F9, F11, F26, F27, F14, F29, idx2b, hpi0, hpi1, hri0, hri1, List.lookup_cons, and_assoc, pick_and, pick_or, if_and, if_or, rbR_iR, rbR_nil, rbOb_mk, iR_mf, pickOk, -List.all_eq_true, iR_ok, ok0, iR_eq_nil, deIs_nil, hbc, hbd, h1, e1, e1', e2, e3, hz1, h2, hoc, hod, hK, cO, cOb, tOb, iOb, chOb, ints, tR_rb, hmu, hmi, hpe, hre, k0, k1, k2, hkl2, hk4, hk5, pur2_tup, pur2_b, pur2_i, pur2_sl, pur_sl, pur_b, pur_v, pur_oslE]
    refine drawP_pu _ (by decide) ?_
    simp -implicitDefEqProofs [Tryd.f6, F9, F11, F26, F27, F14, F29, idx2b, hpi0, hpi1, hri0, hri1, List.lookup_cons, and_assoc, pick_and, pick_or, if_and, if_or, rbR_iR, rbR_nil, rbOb_mk, iR_mf, pickOk, -List.all_eq_true, iR_ok, ok0, iR_eq_nil, deIs_nil, hbc, hbd, h1, e1, e1', e2, e3, hz1, h2, hoc, hod, hK, cO, cOb, tOb, iOb, chOb, ints, tR_rb, hmu, hmi, hpe, hre, k0, k1, k2, hkl2, hk4, hk5, pur2_tup, pur2_b, pur2_i, pur2_sl, pur_sl, pur_b, pur_v, pur_oslE]
    refine drawP_pu _ (by decide) ?_
    simp -implicitDefEqProofs [Tryd.f6, F9, F11, F26, F27, F14, F29, idx2b, hpi0, hpi1, hri0, hri1, List.lookup_cons, and_assoc, pick_and, pick_or, if_and, if_or, rbR_iR, rbR_nil, rbOb_mk, iR_mf, pickOk, -List.all_eq_true, iR_ok, ok0, iR_eq_nil, deIs_nil, hbc, hbd, h1, e1, e1', e2, e3, hz1, h2, hoc, hod, hK, cO, cOb, tOb, iOb, chOb, ints, tR_rb, hmu, hmi, hpe, hre, k0, k1, k2, hkl2, hk4, hk5, pur2_tup, pur2_b, pur2_i, pur2_sl, pur_sl, pur_b, pur_v, pur_oslE]
    refine fin_pure (by simp) ?_
    simp -implicitDefEqProofs [pur2_i, pur2_b, pur2_s, pur2_nil, pur2_sl, pur2_tup, rn2_tup, rn2_agg, rn2_osl, rn1_v, rn1_osl, rn1_agg, rn0_v, rn0_sl, rn0, pickObs, pur_v, pur_b, pur_s, pur_nil, pur_sl, deI, deIs_sl]
end Go.Proofs
