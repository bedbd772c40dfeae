/-
  What is proved here: the law of ApplyChanges. Condition: none.
-/
import Derived.Test.YteleljfnjdlnkaaGreatDoorAP9bx
import Derived.Test.YteleljfnjdlnkaaGreatDoorAP9cx
import Derived.Test.YteleljfnjdlnkaaGreatDoorApB
import Derived.Test.YteleljfnjdlnkaaGreatDoorMK2x
import Derived.Test.YteleljfnjdlnkaaGreatDoorAbs27
namespace Go.Proofs
open Go.Abs Go.Srt
set_option linter.unusedSimpArgs false
set_option linter.unnecessarySimpa false
set_option linter.unusedVariables false
set_option maxHeartbeats 8000000
set_option maxRecDepth 20000

theorem szN_mem (l : List Chg) (x : Chg) (h : x ∈ l) : (x.nm.size : Int) ≤ szN l := by
  obtain ⟨a, b, rfl⟩ := List.append_of_mem h
  have h1 := szN_pos a
  have h2 := szN_pos b
  have e : szN (x :: b) = szN [x] + szN b := szN_app [x] b
  rw [szN_app, e, szN_one]
  omega
theorem okL2_of {l : List Chg} (h : chSz l ≤ 1048576) : okL2 l := by
  have hp := szN_pos l
  unfold chSz at h
  refine ⟨by omega, fun x hx => ?_⟩
  have := szN_mem _ _ hx
  omega
def F4 : Fun := ⟨fun xs => xs = [.agg (cX (deC (xs.getD 0 .top) : Cfg)), .sl (tR (deT (xs.getD 1 .top) : List Chg))] ∧ (fun (c : Cfg) (l : List Chg) => (bigC c ∧ bigH l)) (deC (xs.getD 0 .top) : Cfg) (deT (xs.getD 1 .top) : List Chg), fun xs => (fun (c : Cfg) (l : List Chg) => ((B true, []) : X × List Ob)) (deC (xs.getD 0 .top) : Cfg) (deT (xs.getD 1 .top) : List Chg)⟩
theorem F4_in {xs : List X} (h : F4.pre xs) : ∃ (c : Cfg) (l : List Chg), xs = [.agg (cX c), .sl (tR l)] ∧ (bigC c ∧ bigH l) := ⟨_, _, h.1, h.2⟩
theorem F4_res (c : Cfg) (l : List Chg) : F4.res [.agg (cX c), .sl (tR l)] = (B true, []) := by simp [F4]
theorem F4_mk (c : Cfg) (l : List Chg) (h : bigC c ∧ bigH l) : F4.pre [.agg (cX c), .sl (tR l)] := by simpa [F4] using h
theorem c4 : GenCA K Tryz.prog 4 F4 := by
  refine contractAS Tryz.mix K [(6, F6), (7, F7), (9, F9), (10, F10), (14, F14), (15, F15), (12, F12), (13, F13), (18, F18)] [(16, mkC2), (17, M17)] []
    (by simp [c6, c7, c9, c10, c14, c15, c12, c13, c18]) (by simp [mkC2_ok, m17]) (by simp) Tryz.func4 rfl (by decide) ?_
  intro xs hxs
  obtain ⟨c, l, rfl, hbc, hbl⟩ := F4_in hxs
  rw [F4_res]
  refine ⟨by rw [Tryz.ntmps4]; simp, ?_⟩
  by_cases h1 : (1048576 : Int) < cSz c
  · refine Snd.of ?_
    simp -implicitDefEqProofs [Tryz.f4, F6, List.lookup_cons, and_assoc, pick_and, pick_or, if_and, if_or, rbR_iR, rbR_nil, rbOb_mk, iR_mf, pickOk, -List.all_eq_true, iR_ok, ok0, iR_eq_nil, deIs_nil, hbc, h1]
    refine fin_pure (by simp) ?_
    simp -implicitDefEqProofs [pur2_i, pur2_b, pur2_s, pur2_nil, pur2_sl, pur2_tup, rn2_tup, rn2_agg, rn2_osl, rn1_v, rn1_osl, rn1_agg, rn0_v, rn0_sl, rn0, pickObs, pur_v, pur_b, pur_s, pur_nil, pur_sl, deI, deIs_sl]
  have hz1 : 0 ≤ cSz c := by unfold cSz; omega
  have e1 : ¬ (1048576 : Int) - cSz c < 0 := by omega
  have e1' : cSz c ≤ 1048576 := by omega
  have e2 : (1048576 : Int) - cSz c ≤ 1048576 := by omega
  by_cases h2 : (1048576 : Int) - cSz c < chSz l
  · refine Snd.of ?_
    simp -implicitDefEqProofs [Tryz.f4, F6, F7, List.lookup_cons, and_assoc, pick_and, pick_or, if_and, if_or, rbR_iR, rbR_nil, rbOb_mk, iR_mf, pickOk, -List.all_eq_true, iR_ok, ok0, iR_eq_nil, deIs_nil, hbc, hbl, h1, e1, e1', e2, hz1, h2]
    refine fin_pure (by simp) ?_
    simp -implicitDefEqProofs [pur2_i, pur2_b, pur2_s, pur2_nil, pur2_sl, pur2_tup, rn2_tup, rn2_agg, rn2_osl, rn1_v, rn1_osl, rn1_agg, rn0_v, rn0_sl, rn0, pickObs, pur_v, pur_b, pur_s, pur_nil, pur_sl, deI, deIs_sl]
  have hoc := okC_of h1 (Int.le_refl _)
  have hol : okL2 l := okL2_of (by omega)
  have e3 : ¬ (1048576 : Int) - cSz c - chSz l < 0 := by omega
  have g1 := hoc.1
  have g2 := hoc.2.1
  have g3 := hol.1
  have hmi : M17.mu = [true] := rfl
  have hpi1 : ∀ (L : List Chg) (k : Int), L.length ≤ 1048576 → 0 ≤ k → k ≤ 549755813888 → M17.pre [.osl 0 0, .v (.int .i64 k)] [⟨61, 16, 0, tR L, false, true, none⟩] := fun L k h a b => .inl ⟨L, k, rfl, rfl, h, by omega, by omega⟩
  have hri1 : ∀ (L : List Chg) (k : Int), M17.res [.osl 0 0, .v (.int .i64 k)] [⟨61, 16, 0, tR L, false, true, none⟩] = (I (k + 16 * (L.length : Int)), [⟨61, 16, 0, tR (Chg.mkL k L.length), false, true, none⟩]) := fun L k => by
    simp [M17, tOb, deI]
  have hmu : mkC2.mu = [true] := rfl
  have u1 : (c.cls.length : Int) ≤ 1048576 := by omega
  have u2 : (c.fil.length : Int) ≤ 1048576 := by omega
  have hpe : ∀ (x : Cfg) (k : Int), okC x → 0 ≤ k → k ≤ 549755813888 → mkC2.pre [.agg [.v (.string x.name), .osl 0 0, .osl 1 0, I x.dflt], .v (.int .i64 k)] [⟨58, 8, 0, tR x.cls, false, true, none⟩, ⟨59, 5, 0, tR x.fil, false, true, none⟩] := fun x k h a b => .inl ⟨x, k, rfl, rfl, h, a, b⟩
  have hre : ∀ (x : Cfg) (k : Int), mkC2.res [.agg [.v (.string x.name), .osl 0 0, .osl 1 0, I x.dflt], .v (.int .i64 k)] [⟨58, 8, 0, tR x.cls, false, true, none⟩, ⟨59, 5, 0, tR x.fil, false, true, none⟩] = (I (k + 8 * (x.cls.length : Int) + 5 * (x.fil.length : Int)), [⟨58, 8, 0, tR (Cls.mkL k x.cls.length), false, true, none⟩, ⟨59, 5, 0, tR (Fil.mkL (k + 8 * (x.cls.length : Int)) x.fil.length), false, true, none⟩]) := fun x k => by
    simp [mkC2, M16, cMk, obl, tOb, deI]
  have hpn : mkC2.pre [.agg [.v (.string ⟨#[]⟩), .sl [], .sl [], I 0], .v (.int .i64 1)] [] := .inr ⟨1, rfl, rfl, by omega, by omega⟩
  have hrn : mkC2.res [.agg [.v (.string ⟨#[]⟩), .sl [], .sl [], I 0], .v (.int .i64 1)] [] = (I 1, []) := rfl
  have hph : ∀ (x : Cfg) (n m : Nat), n ≤ 1048576 → m ≤ 1048576 → F18.pre [.agg [.v (.string x.name), .sl (tR (Cls.mkL 1 n)), .sl (tR (Fil.mkL (1 + 8 * (n : Int)) m)), I x.dflt], .v (.int .i64 1)] := fun x n m a b => ⟨x, 1, n, m, rfl, a, b, by omega, by omega⟩
  have hrh : ∀ (x : Cfg) (n m : Nat), F18.res [.agg [.v (.string x.name), .sl (tR (Cls.mkL 1 n)), .sl (tR (Fil.mkL (1 + 8 * (n : Int)) m)), I x.dflt], .v (.int .i64 1)] = (I (1 + 8 * (n : Int) + 5 * (m : Int)), []) := fun x n m => by
    have hd : deC (.agg (cX ⟨x.name, Cls.mkL 1 n, Fil.mkL (1 + 8 * (n : Int)) m, x.dflt⟩)) = ⟨x.name, Cls.mkL 1 n, Fil.mkL (1 + 8 * (n : Int)) m, x.dflt⟩ := by simp
    have hx : (.agg [.v (.string x.name), .sl (tR (Cls.mkL 1 n)), .sl (tR (Fil.mkL (1 + 8 * (n : Int)) m)), I x.dflt] : X) = .agg (cX ⟨x.name, Cls.mkL 1 n, Fil.mkL (1 + 8 * (n : Int)) m, x.dflt⟩) := rfl
    rw [hx]
    simp [F18, deI, Cls.mkL_len, Fil.mkL_len]
  have hph0 : F18.pre [.agg [.v (.string ⟨#[]⟩), .sl [], .sl [], I 0], .v (.int .i64 1)] := ⟨⟨⟨#[]⟩, [], [], 0⟩, 1, 0, 0, rfl, by omega, by omega, by omega, by omega⟩
  have hrh0 : F18.res [.agg [.v (.string ⟨#[]⟩), .sl [], .sl [], I 0], .v (.int .i64 1)] = (I 1, []) := rfl
  have k0 : (0 : Int) ≤ 1 + 8 * c.cls.length + 5 * c.fil.length := by omega
  have k1 : (1 : Int) + 8 * c.cls.length + 5 * c.fil.length ≤ 549755813888 := by omega
  have k2 : ¬ (1 : Int) + 8 * c.cls.length + 5 * c.fil.length + 16 * l.length < 0 := by omega
  cases hA : apAll c l with
  | none =>
    have hK : allX (apAll c l) = (.tup [.agg [.v (.string ⟨#[]⟩), .sl [], .sl [], I 0], B false], []) := by rw [hA]; rfl
    have hK2 : allY (apAll c l) = (.tup [.agg [.v (.string ⟨#[]⟩), .sl [], .sl [], I 0], B false], []) := by rw [hA]; rfl
    have n3 : (deT (X.sl []) : List Cls) = [] := rfl
    have n4 : (deT (X.sl []) : List Fil) = [] := rfl
    have n1 : okC ⟨⟨#[]⟩, [], [], 0⟩ := by refine ⟨by simp, by simp, Nat.zero_le 1048576⟩
    simp only [Tryz.f4, bodyOf, Option.getD_some]
    refine Snd.seqpu ?_
    simp -implicitDefEqProofs [F6, F7, F9, F10, F14, F15, F12, F13, hph, hrh, hph0, hrh0, List.lookup_cons, and_assoc, pick_and, pick_or, if_and, if_or, rbR_iR, rbR_nil, rbOb_mk, iR_mf, pickOk, -List.all_eq_true, iR_ok, ok0, iR_eq_nil, deIs_nil, hbc, hbl, h1, e1, e1', e2, e3, hz1, h2, hoc, hol, hol.1, hK, hK2, cO, cOb, tOb, tR_rb, hmu, hmi, hpe, hre, hpn, hrn, hpi1, hri1, k0, k1, k2, pur2_tup, pur2_b, pur2_i, pur2_sl, pur_sl, pur_b, pur_v, pur_oslE, pur2osl, purnil2, obCls, obFil, n1, n3, n4]
    refine Snd.seqpu ?_
    simp -implicitDefEqProofs [F6, F7, F9, F10, F14, F15, F12, F13, hph, hrh, hph0, hrh0, List.lookup_cons, and_assoc, pick_and, pick_or, if_and, if_or, rbR_iR, rbR_nil, rbOb_mk, iR_mf, pickOk, -List.all_eq_true, iR_ok, ok0, iR_eq_nil, deIs_nil, hbc, hbl, h1, e1, e1', e2, e3, hz1, h2, hoc, hol, hol.1, hK, hK2, cO, cOb, tOb, tR_rb, hmu, hmi, hpe, hre, hpn, hrn, hpi1, hri1, k0, k1, k2, pur2_tup, pur2_b, pur2_i, pur2_sl, pur_sl, pur_b, pur_v, pur_oslE, pur2osl, purnil2, obCls, obFil, n1, n3, n4]
    refine Snd.seqpu ?_
    simp -implicitDefEqProofs [F6, F7, F9, F10, F14, F15, F12, F13, hph, hrh, hph0, hrh0, List.lookup_cons, and_assoc, pick_and, pick_or, if_and, if_or, rbR_iR, rbR_nil, rbOb_mk, iR_mf, pickOk, -List.all_eq_true, iR_ok, ok0, iR_eq_nil, deIs_nil, hbc, hbl, h1, e1, e1', e2, e3, hz1, h2, hoc, hol, hol.1, hK, hK2, cO, cOb, tOb, tR_rb, hmu, hmi, hpe, hre, hpn, hrn, hpi1, hri1, k0, k1, k2, pur2_tup, pur2_b, pur2_i, pur2_sl, pur_sl, pur_b, pur_v, pur_oslE, pur2osl, purnil2, obCls, obFil, n1, n3, n4]
    refine Snd.seqpu ?_
    simp -implicitDefEqProofs [F6, F7, F9, F10, F14, F15, F12, F13, hph, hrh, hph0, hrh0, List.lookup_cons, and_assoc, pick_and, pick_or, if_and, if_or, rbR_iR, rbR_nil, rbOb_mk, iR_mf, pickOk, -List.all_eq_true, iR_ok, ok0, iR_eq_nil, deIs_nil, hbc, hbl, h1, e1, e1', e2, e3, hz1, h2, hoc, hol, hol.1, hK, hK2, cO, cOb, tOb, tR_rb, hmu, hmi, hpe, hre, hpn, hrn, hpi1, hri1, k0, k1, k2, pur2_tup, pur2_b, pur2_i, pur2_sl, pur_sl, pur_b, pur_v, pur_oslE, pur2osl, purnil2, obCls, obFil, n1, n3, n4]
    refine Snd.seqpu ?_
    simp -implicitDefEqProofs [F6, F7, F9, F10, F14, F15, F12, F13, hph, hrh, hph0, hrh0, List.lookup_cons, and_assoc, pick_and, pick_or, if_and, if_or, rbR_iR, rbR_nil, rbOb_mk, iR_mf, pickOk, -List.all_eq_true, iR_ok, ok0, iR_eq_nil, deIs_nil, hbc, hbl, h1, e1, e1', e2, e3, hz1, h2, hoc, hol, hol.1, hK, hK2, cO, cOb, tOb, tR_rb, hmu, hmi, hpe, hre, hpn, hrn, hpi1, hri1, k0, k1, k2, pur2_tup, pur2_b, pur2_i, pur2_sl, pur_sl, pur_b, pur_v, pur_oslE, pur2osl, purnil2, obCls, obFil, n1, n3, n4]
    refine Snd.seqpu ?_
    simp -implicitDefEqProofs [F6, F7, F9, F10, F14, F15, F12, F13, hph, hrh, hph0, hrh0, List.lookup_cons, and_assoc, pick_and, pick_or, if_and, if_or, rbR_iR, rbR_nil, rbOb_mk, iR_mf, pickOk, -List.all_eq_true, iR_ok, ok0, iR_eq_nil, deIs_nil, hbc, hbl, h1, e1, e1', e2, e3, hz1, h2, hoc, hol, hol.1, hK, hK2, cO, cOb, tOb, tR_rb, hmu, hmi, hpe, hre, hpn, hrn, hpi1, hri1, k0, k1, k2, pur2_tup, pur2_b, pur2_i, pur2_sl, pur_sl, pur_b, pur_v, pur_oslE, pur2osl, purnil2, obCls, obFil, n1, n3, n4]
    refine Snd.seqpu ?_
    simp -implicitDefEqProofs [F6, F7, F9, F10, F14, F15, F12, F13, hph, hrh, hph0, hrh0, List.lookup_cons, and_assoc, pick_and, pick_or, if_and, if_or, rbR_iR, rbR_nil, rbOb_mk, iR_mf, pickOk, -List.all_eq_true, iR_ok, ok0, iR_eq_nil, deIs_nil, hbc, hbl, h1, e1, e1', e2, e3, hz1, h2, hoc, hol, hol.1, hK, hK2, cO, cOb, tOb, tR_rb, hmu, hmi, hpe, hre, hpn, hrn, hpi1, hri1, k0, k1, k2, pur2_tup, pur2_b, pur2_i, pur2_sl, pur_sl, pur_b, pur_v, pur_oslE, pur2osl, purnil2, obCls, obFil, n1, n3, n4]
    refine Snd.of ?_
    simp -implicitDefEqProofs [F6, F7, F9, F10, F14, F15, F12, F13, hph, hrh, hph0, hrh0, List.lookup_cons, and_assoc, pick_and, pick_or, if_and, if_or, rbR_iR, rbR_nil, rbOb_mk, iR_mf, pickOk, -List.all_eq_true, iR_ok, ok0, iR_eq_nil, deIs_nil, hbc, hbl, h1, e1, e1', e2, e3, hz1, h2, hoc, hol, hol.1, hK, hK2, cO, cOb, tOb, tR_rb, hmu, hmi, hpe, hre, hpn, hrn, hpi1, hri1, k0, k1, k2, pur2_tup, pur2_b, pur2_i, pur2_sl, pur_sl, pur_b, pur_v, pur_oslE, pur2osl, purnil2, obCls, obFil, n1, n3, n4]
    refine drawP_pu _ (by decide) ?_
    simp -implicitDefEqProofs [F6, F7, F9, F10, F14, F15, F12, F13, hph, hrh, hph0, hrh0, List.lookup_cons, and_assoc, pick_and, pick_or, if_and, if_or, rbR_iR, rbR_nil, rbOb_mk, iR_mf, pickOk, -List.all_eq_true, iR_ok, ok0, iR_eq_nil, deIs_nil, hbc, hbl, h1, e1, e1', e2, e3, hz1, h2, hoc, hol, hol.1, hK, hK2, cO, cOb, tOb, tR_rb, hmu, hmi, hpe, hre, hpn, hrn, hpi1, hri1, k0, k1, k2, pur2_tup, pur2_b, pur2_i, pur2_sl, pur_sl, pur_b, pur_v, pur_oslE, pur2osl, purnil2, obCls, obFil, n1, n3, n4]
    refine fin_pure (by simp) ?_
    simp -implicitDefEqProofs [pur2_i, pur2_b, pur2_s, pur2_nil, pur2_sl, pur2_tup, rn2_tup, rn2_agg, rn2_osl, rn1_v, rn1_osl, rn1_agg, rn0_v, rn0_sl, rn0, pickObs, pur_v, pur_b, pur_s, pur_nil, pur_sl, deI, deIs_sl]
  | some d =>
    have hK : allX (apAll c l) = (.tup [.agg [.v (.string d.name), .osl 0 0, .osl 1 0, I d.dflt], B true], [⟨58, 8, 0, tR d.cls, false, true, none⟩, ⟨59, 5, 0, tR d.fil, false, true, none⟩]) := by rw [hA]; rfl
    have hK2 : allY (apAll c l) = (.tup [.agg (cX d), B true], []) := by rw [hA]; rfl
    have hod := (apAll_ok hoc hol hA).1
    have g5 := hod.1
    have g6 := hod.2.1
    have u5 : (d.cls.length : Int) ≤ 1048576 := by omega
    have u6 : (d.fil.length : Int) ≤ 1048576 := by omega
    have k3 : (0 : Int) ≤ 1 + 8 * d.cls.length + 5 * d.fil.length := by omega
    have k4 : ¬ (1 : Int) + 8 * d.cls.length + 5 * d.fil.length < 0 := by omega
    simp only [Tryz.f4, bodyOf, Option.getD_some]
    refine Snd.seqpu ?_
    simp -implicitDefEqProofs [F6, F7, F9, F10, F14, F15, F12, F13, hph, hrh, hph0, hrh0, List.lookup_cons, and_assoc, pick_and, pick_or, if_and, if_or, rbR_iR, rbR_nil, rbOb_mk, iR_mf, pickOk, -List.all_eq_true, iR_ok, ok0, iR_eq_nil, deIs_nil, hbc, hbl, h1, e1, e1', e2, e3, hz1, h2, hoc, hol, hol.1, hK, hK2, cO, cOb, tOb, tR_rb, hmu, hmi, hpe, hre, hpn, hrn, hpi1, hri1, k0, k1, k2, pur2_tup, pur2_b, pur2_i, pur2_sl, pur_sl, pur_b, pur_v, pur_oslE, pur2osl, purnil2, obCls, obFil, hod, g5, g6, u5, u6, k3, k4]
    refine Snd.seqpu ?_
    simp -implicitDefEqProofs [F6, F7, F9, F10, F14, F15, F12, F13, hph, hrh, hph0, hrh0, List.lookup_cons, and_assoc, pick_and, pick_or, if_and, if_or, rbR_iR, rbR_nil, rbOb_mk, iR_mf, pickOk, -List.all_eq_true, iR_ok, ok0, iR_eq_nil, deIs_nil, hbc, hbl, h1, e1, e1', e2, e3, hz1, h2, hoc, hol, hol.1, hK, hK2, cO, cOb, tOb, tR_rb, hmu, hmi, hpe, hre, hpn, hrn, hpi1, hri1, k0, k1, k2, pur2_tup, pur2_b, pur2_i, pur2_sl, pur_sl, pur_b, pur_v, pur_oslE, pur2osl, purnil2, obCls, obFil, hod, g5, g6, u5, u6, k3, k4]
    refine Snd.seqpu ?_
    simp -implicitDefEqProofs [F6, F7, F9, F10, F14, F15, F12, F13, hph, hrh, hph0, hrh0, List.lookup_cons, and_assoc, pick_and, pick_or, if_and, if_or, rbR_iR, rbR_nil, rbOb_mk, iR_mf, pickOk, -List.all_eq_true, iR_ok, ok0, iR_eq_nil, deIs_nil, hbc, hbl, h1, e1, e1', e2, e3, hz1, h2, hoc, hol, hol.1, hK, hK2, cO, cOb, tOb, tR_rb, hmu, hmi, hpe, hre, hpn, hrn, hpi1, hri1, k0, k1, k2, pur2_tup, pur2_b, pur2_i, pur2_sl, pur_sl, pur_b, pur_v, pur_oslE, pur2osl, purnil2, obCls, obFil, hod, g5, g6, u5, u6, k3, k4]
    refine Snd.seqpu ?_
    simp -implicitDefEqProofs [F6, F7, F9, F10, F14, F15, F12, F13, hph, hrh, hph0, hrh0, List.lookup_cons, and_assoc, pick_and, pick_or, if_and, if_or, rbR_iR, rbR_nil, rbOb_mk, iR_mf, pickOk, -List.all_eq_true, iR_ok, ok0, iR_eq_nil, deIs_nil, hbc, hbl, h1, e1, e1', e2, e3, hz1, h2, hoc, hol, hol.1, hK, hK2, cO, cOb, tOb, tR_rb, hmu, hmi, hpe, hre, hpn, hrn, hpi1, hri1, k0, k1, k2, pur2_tup, pur2_b, pur2_i, pur2_sl, pur_sl, pur_b, pur_v, pur_oslE, pur2osl, purnil2, obCls, obFil, hod, g5, g6, u5, u6, k3, k4]
    refine Snd.seqpu ?_
    simp -implicitDefEqProofs [F6, F7, F9, F10, F14, F15, F12, F13, hph, hrh, hph0, hrh0, List.lookup_cons, and_assoc, pick_and, pick_or, if_and, if_or, rbR_iR, rbR_nil, rbOb_mk, iR_mf, pickOk, -List.all_eq_true, iR_ok, ok0, iR_eq_nil, deIs_nil, hbc, hbl, h1, e1, e1', e2, e3, hz1, h2, hoc, hol, hol.1, hK, hK2, cO, cOb, tOb, tR_rb, hmu, hmi, hpe, hre, hpn, hrn, hpi1, hri1, k0, k1, k2, pur2_tup, pur2_b, pur2_i, pur2_sl, pur_sl, pur_b, pur_v, pur_oslE, pur2osl, purnil2, obCls, obFil, hod, g5, g6, u5, u6, k3, k4]
    refine Snd.seqpu ?_
    simp -implicitDefEqProofs [F6, F7, F9, F10, F14, F15, F12, F13, hph, hrh, hph0, hrh0, List.lookup_cons, and_assoc, pick_and, pick_or, if_and, if_or, rbR_iR, rbR_nil, rbOb_mk, iR_mf, pickOk, -List.all_eq_true, iR_ok, ok0, iR_eq_nil, deIs_nil, hbc, hbl, h1, e1, e1', e2, e3, hz1, h2, hoc, hol, hol.1, hK, hK2, cO, cOb, tOb, tR_rb, hmu, hmi, hpe, hre, hpn, hrn, hpi1, hri1, k0, k1, k2, pur2_tup, pur2_b, pur2_i, pur2_sl, pur_sl, pur_b, pur_v, pur_oslE, pur2osl, purnil2, obCls, obFil, hod, g5, g6, u5, u6, k3, k4]
    refine Snd.seqpu ?_
    simp -implicitDefEqProofs [F6, F7, F9, F10, F14, F15, F12, F13, hph, hrh, hph0, hrh0, List.lookup_cons, and_assoc, pick_and, pick_or, if_and, if_or, rbR_iR, rbR_nil, rbOb_mk, iR_mf, pickOk, -List.all_eq_true, iR_ok, ok0, iR_eq_nil, deIs_nil, hbc, hbl, h1, e1, e1', e2, e3, hz1, h2, hoc, hol, hol.1, hK, hK2, cO, cOb, tOb, tR_rb, hmu, hmi, hpe, hre, hpn, hrn, hpi1, hri1, k0, k1, k2, pur2_tup, pur2_b, pur2_i, pur2_sl, pur_sl, pur_b, pur_v, pur_oslE, pur2osl, purnil2, obCls, obFil, hod, g5, g6, u5, u6, k3, k4]
    refine Snd.of ?_
    simp -implicitDefEqProofs [F6, F7, F9, F10, F14, F15, F12, F13, hph, hrh, hph0, hrh0, List.lookup_cons, and_assoc, pick_and, pick_or, if_and, if_or, rbR_iR, rbR_nil, rbOb_mk, iR_mf, pickOk, -List.all_eq_true, iR_ok, ok0, iR_eq_nil, deIs_nil, hbc, hbl, h1, e1, e1', e2, e3, hz1, h2, hoc, hol, hol.1, hK, hK2, cO, cOb, tOb, tR_rb, hmu, hmi, hpe, hre, hpn, hrn, hpi1, hri1, k0, k1, k2, pur2_tup, pur2_b, pur2_i, pur2_sl, pur_sl, pur_b, pur_v, pur_oslE, pur2osl, purnil2, obCls, obFil, hod, g5, g6, u5, u6, k3, k4]
    refine drawP_pu _ (by decide) ?_
    simp -implicitDefEqProofs [F6, F7, F9, F10, F14, F15, F12, F13, hph, hrh, hph0, hrh0, List.lookup_cons, and_assoc, pick_and, pick_or, if_and, if_or, rbR_iR, rbR_nil, rbOb_mk, iR_mf, pickOk, -List.all_eq_true, iR_ok, ok0, iR_eq_nil, deIs_nil, hbc, hbl, h1, e1, e1', e2, e3, hz1, h2, hoc, hol, hol.1, hK, hK2, cO, cOb, tOb, tR_rb, hmu, hmi, hpe, hre, hpn, hrn, hpi1, hri1, k0, k1, k2, pur2_tup, pur2_b, pur2_i, pur2_sl, pur_sl, pur_b, pur_v, pur_oslE, pur2osl, purnil2, obCls, obFil, hod, g5, g6, u5, u6, k3, k4]
    refine fin_pure (by simp) ?_
    simp -implicitDefEqProofs [pur2_i, pur2_b, pur2_s, pur2_nil, pur2_sl, pur2_tup, rn2_tup, rn2_agg, rn2_osl, rn1_v, rn1_osl, rn1_agg, rn0_v, rn0_sl, rn0, pickObs, pur_v, pur_b, pur_s, pur_nil, pur_sl, deI, deIs_sl]
end Go.Proofs
