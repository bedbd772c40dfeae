/-
  What is proved here: the law of UndoOf. Condition: none.
-/
import Derived.Test.YteleljfnjdlnkaaGreatDoorAP9ex
import Derived.Test.YteleljfnjdlnkaaGreatDoorApB
namespace Go.Proofs
open Go.Abs Go.Srt
set_option linter.unusedSimpArgs false
set_option linter.unnecessarySimpa false
set_option linter.unusedVariables false
set_option maxHeartbeats 8000000
set_option maxRecDepth 20000
theorem szN_mem (l : List Chg) (x : Chg) (h : x ∈ l) : (x.nm.size : Int) ≤ szN l := by
  obtain ⟨a, b, rfl⟩ := List.append_of_mem h
  have h1 := szN_pos a
  have h2 := szN_pos b
  have e : szN (x :: b) = szN [x] + szN b := szN_app [x] b
  rw [szN_app, e, szN_one]
  omega
theorem okL2_of {l : List Chg} (h : chSz l ≤ 1048576) : okL2 l := by
  have hp := szN_pos l
  unfold chSz at h
  refine ⟨by omega, fun x hx => ?_⟩
  have := szN_mem _ _ hx
  omega
@[simp] theorem deT_nil' : (deT (.sl []) : List Chg) = [] := rfl
@[simp] theorem tR_nil' : tR ([] : List Chg) = [] := rfl
theorem cfg_sm {c : Cfg} (h : isCfg c = true) : c.cls.length ≤ 24 ∧ c.fil.length ≤ 16 := by
  simp only [isCfg, Bool.and_eq_true, decide_eq_true_eq] at h
  exact h.1
theorem apAll_cfg {c d : Cfg} {l : List Chg} (h : apAll c l = some d) : isCfg c = true := by
  unfold apAll at h
  split at h
  · rename_i hg
    simp only [Bool.and_eq_true] at hg
    exact hg.1
  · cases h
def F5 : Fun := ⟨fun xs => xs = [.agg (cX (deC (xs.getD 0 .top) : Cfg)), .sl (tR (deT (xs.getD 1 .top) : List Chg))] ∧ (fun (c : Cfg) (l : List Chg) => (bigC c ∧ bigH l)) (deC (xs.getD 0 .top) : Cfg) (deT (xs.getD 1 .top) : List Chg), fun xs => (fun (c : Cfg) (l : List Chg) => ((B true, []) : X × List Ob)) (deC (xs.getD 0 .top) : Cfg) (deT (xs.getD 1 .top) : List Chg)⟩
theorem F5_in {xs : List X} (h : F5.pre xs) : ∃ (c : Cfg) (l : List Chg), xs = [.agg (cX c), .sl (tR l)] ∧ (bigC c ∧ bigH l) := ⟨_, _, h.1, h.2⟩
theorem F5_res (c : Cfg) (l : List Chg) : F5.res [.agg (cX c), .sl (tR l)] = (B true, []) := by simp [F5]
theorem F5_mk (c : Cfg) (l : List Chg) (h : bigC c ∧ bigH l) : F5.pre [.agg (cX c), .sl (tR l)] := by simpa [F5] using h
theorem c5 : GenCA K Tryz.prog 5 F5 := by
  refine contractA Tryz.mix K [(6, F6), (7, F7), (9, F9), (10, F10), (19, F20), (20, F20), (12, F12), (13, F13), (21, F21)] [(16, M16), (17, M17)] (by simp [c6, c7, c9, c10, c19, c20, c12, c13, c21]) (by simp [m16, m17]) Tryz.func5 rfl (by decide) ?_
  intro xs hxs
  obtain ⟨c, l, rfl, hp⟩ := F5_in hxs
  rw [F5_res]
  refine ⟨by rw [Tryz.ntmps5]; simp, ?_⟩
  obtain ⟨hbc, hbl⟩ := hp
  by_cases h1 : (1048576 : Int) < cSz c
  · simp -implicitDefEqProofs [Tryz.f5, F6, F7, F9, F10, F20, F20, F12, F13, F21, M16, M17, List.lookup_cons, and_assoc, pick_and, pick_or, if_and, if_or, rbR_iR, rbR_nil, rbOb_mk, iR_mf, pickOk, -List.all_eq_true, iR_ok, ok0, iR_eq_nil, deIs_nil, hbc, h1]
    refine fin_pure (by simp) ?_
    simp -implicitDefEqProofs [pur2_i, pur2_b, pur2_s, pur2_nil, pur2_sl, pur2_tup, rn2_tup, rn2_agg, rn2_osl, rn1_v, rn1_osl, rn1_agg, rn0_v, rn0_sl, rn0, pickObs, pur_v, pur_b, pur_s, pur_nil, pur_sl, deI, deIs_sl]
  have hz1 : 0 ≤ cSz c := by unfold cSz; omega
  have e1 : ¬ (1048576 : Int) - cSz c < 0 := by omega
  have e1' : cSz c ≤ 1048576 := by omega
  have e2 : (1048576 : Int) - cSz c ≤ 1048576 := by omega
  by_cases h2 : (1048576 : Int) - cSz c < chSz l
  · simp -implicitDefEqProofs [Tryz.f5, F6, F7, F9, F10, F20, F20, F12, F13, F21, M16, M17, List.lookup_cons, and_assoc, pick_and, pick_or, if_and, if_or, rbR_iR, rbR_nil, rbOb_mk, iR_mf, pickOk, -List.all_eq_true, iR_ok, ok0, iR_eq_nil, deIs_nil, hbc, hbl, h1, e1, e1', e2, hz1, h2]
    refine fin_pure (by simp) ?_
    simp -implicitDefEqProofs [pur2_i, pur2_b, pur2_s, pur2_nil, pur2_sl, pur2_tup, rn2_tup, rn2_agg, rn2_osl, rn1_v, rn1_osl, rn1_agg, rn0_v, rn0_sl, rn0, pickObs, pur_v, pur_b, pur_s, pur_nil, pur_sl, deI, deIs_sl]
  have hoc := okC_of h1 (Int.le_refl _)
  have hol : okL2 l := okL2_of (by omega)
  have e3 : ¬ (1048576 : Int) - cSz c - chSz l < 0 := by omega
  have g1 := hoc.1
  have g2 := hoc.2.1
  have g3 := hol.1
  have hmu : M16.mu = [true] := rfl
  have hmi : M17.mu = [true] := rfl
  have u1 : (c.cls.length : Int) ≤ 1048576 := by omega
  have u2 : (c.fil.length : Int) ≤ 1048576 := by omega
  have u3 : (l.length : Int) ≤ 1048576 := by omega
  have hpe : ∀ (x : Cfg) (k : Int), okC x → 0 ≤ k → k ≤ 549755813888 → M16.pre [.agg [.v (.string x.name), .osl 0 0, .osl 1 0, I x.dflt], .v (.int .i64 k)] [⟨58, 8, 0, tR x.cls, false, true, none⟩, ⟨59, 5, 0, tR x.fil, false, true, none⟩] := fun x k h a b => ⟨x, k, rfl, rfl, h, a, b⟩
  have hre : ∀ (x : Cfg) (k : Int), M16.res [.agg [.v (.string x.name), .osl 0 0, .osl 1 0, I x.dflt], .v (.int .i64 k)] [⟨58, 8, 0, tR x.cls, false, true, none⟩, ⟨59, 5, 0, tR x.fil, false, true, none⟩] = (I (k + 8 * (x.cls.length : Int) + 5 * (x.fil.length : Int)), [⟨58, 8, 0, tR (Cls.mkL k x.cls.length), false, true, none⟩, ⟨59, 5, 0, tR (Fil.mkL (k + 8 * (x.cls.length : Int)) x.fil.length), false, true, none⟩]) := fun x k => by
    simp [M16, cMk, obl, tOb, deI]
  have hpi0 : M17.pre [.sl [], .v (.int .i64 1)] [] := .inr ⟨1, rfl, rfl, by omega, by omega⟩
  have hri0 : M17.res [.sl [], .v (.int .i64 1)] [] = (I 1, []) := rfl
  have hpi1 : ∀ (L : List Chg) (k : Int), L.length ≤ 1048576 → 0 ≤ k → k ≤ 549755813888 → M17.pre [.osl 0 0, .v (.int .i64 k)] [⟨61, 16, 0, tR L, false, true, none⟩] := fun L k h a b => .inl ⟨L, k, rfl, rfl, h, by omega, by omega⟩
  have hri1 : ∀ (L : List Chg) (k : Int), M17.res [.osl 0 0, .v (.int .i64 k)] [⟨61, 16, 0, tR L, false, true, none⟩] = (I (k + 16 * (L.length : Int)), [⟨61, 16, 0, tR (Chg.mkL k L.length), false, true, none⟩]) := fun L k => by
    simp [M17, tOb, deI]
  have k0 : (0 : Int) ≤ 1 + 8 * c.cls.length + 5 * c.fil.length := by omega
  have k1 : (1 : Int) + 8 * c.cls.length + 5 * c.fil.length ≤ 549755813888 := by omega
  have k2 : ¬ (1 : Int) + 8 * c.cls.length + 5 * c.fil.length + 16 * l.length < 0 := by omega
  cases hA : apAll c l with
  | none =>
    have hK : unX c (apAll c l) = (.tup [.sl [], B false], []) := by rw [hA]; rfl
    simp -implicitDefEqProofs [Tryz.f5, F20, F21, hK, hmu, hmi, hpe, hre, hpi0, hri0, hpi1, hri1, k0, k1, k2, F6, F7, F9, F10, F12, F13, List.lookup_cons, and_assoc, pick_and, pick_or, if_and, if_or, rbR_iR, rbR_nil, rbOb_mk, iR_mf, pickOk, -List.all_eq_true, iR_ok, ok0, iR_eq_nil, deIs_nil, hbc, hbl, h1, e1, e1', e2, e3, hz1, h2, hoc, hol, hol.1, cO, cOb, tOb, tR_rb, pur2_tup, pur2_b, pur2_i, pur2_sl, pur_sl, pur_b, pur_v, pur_oslE, pur2osl, purnil2, obCls, obFil]
    refine drawP_pu _ (by decide) ?_
    simp -implicitDefEqProofs [Tryz.f5, F20, F21, hK, hmu, hmi, hpe, hre, hpi0, hri0, hpi1, hri1, k0, k1, k2, F6, F7, F9, F10, F12, F13, List.lookup_cons, and_assoc, pick_and, pick_or, if_and, if_or, rbR_iR, rbR_nil, rbOb_mk, iR_mf, pickOk, -List.all_eq_true, iR_ok, ok0, iR_eq_nil, deIs_nil, hbc, hbl, h1, e1, e1', e2, e3, hz1, h2, hoc, hol, hol.1, cO, cOb, tOb, tR_rb, pur2_tup, pur2_b, pur2_i, pur2_sl, pur_sl, pur_b, pur_v, pur_oslE, pur2osl, purnil2, obCls, obFil]
    refine fin_pure (by simp) ?_
    simp -implicitDefEqProofs [pur2_i, pur2_b, pur2_s, pur2_nil, pur2_sl, pur2_tup, rn2_tup, rn2_agg, rn2_osl, rn1_v, rn1_osl, rn1_agg, rn0_v, rn0_sl, rn0, pickObs, pur_v, pur_b, pur_s, pur_nil, pur_sl, deI, deIs_sl]
  | some d =>
    have hK : unX c (apAll c l) = (.tup [.osl 0 0, B true], [⟨61, 16, 0, tR (diffL d c), false, true, none⟩]) := by rw [hA]; rfl
    have hkl := diffL_len d c
    have hkl2 : (diffL d c).length ≤ 1048576 := by
      have n1 := cfg_sm (apAll_ok hoc hol hA).2
      have n2 := cfg_sm (apAll_cfg hA)
      omega
    have hk5 : (0 : Int) ≤ 1 + 16 * (diffL d c).length := by omega
    have hk4 : ¬ (1 : Int) + 16 * (diffL d c).length < 0 := by omega
    simp -implicitDefEqProofs [Tryz.f5, F20, F21, hK, hmu, hmi, hpe, hre, hpi0, hri0, hpi1, hri1, k0, k1, k2, hkl2, hk5, hk4, Chg.mkL_len, F6, F7, F9, F10, F12, F13, List.lookup_cons, and_assoc, pick_and, pick_or, if_and, if_or, rbR_iR, rbR_nil, rbOb_mk, iR_mf, pickOk, -List.all_eq_true, iR_ok, ok0, iR_eq_nil, deIs_nil, hbc, hbl, h1, e1, e1', e2, e3, hz1, h2, hoc, hol, hol.1, cO, cOb, tOb, tR_rb, pur2_tup, pur2_b, pur2_i, pur2_sl, pur_sl, pur_b, pur_v, pur_oslE, pur2osl, purnil2, obCls, obFil]
    refine drawP_pu _ (by decide) ?_
    simp -implicitDefEqProofs [Tryz.f5, F20, F21, hK, hmu, hmi, hpe, hre, hpi0, hri0, hpi1, hri1, k0, k1, k2, hkl2, hk5, hk4, Chg.mkL_len, F6, F7, F9, F10, F12, F13, List.lookup_cons, and_assoc, pick_and, pick_or, if_and, if_or, rbR_iR, rbR_nil, rbOb_mk, iR_mf, pickOk, -List.all_eq_true, iR_ok, ok0, iR_eq_nil, deIs_nil, hbc, hbl, h1, e1, e1', e2, e3, hz1, h2, hoc, hol, hol.1, cO, cOb, tOb, tR_rb, pur2_tup, pur2_b, pur2_i, pur2_sl, pur_sl, pur_b, pur_v, pur_oslE, pur2osl, purnil2, obCls, obFil]
    refine fin_pure (by simp) ?_
    simp -implicitDefEqProofs [pur2_i, pur2_b, pur2_s, pur2_nil, pur2_sl, pur2_tup, rn2_tup, rn2_agg, rn2_osl, rn1_v, rn1_osl, rn1_agg, rn0_v, rn0_sl, rn0, pickObs, pur_v, pur_b, pur_s, pur_nil, pur_sl, deI, deIs_sl]
end Go.Proofs
