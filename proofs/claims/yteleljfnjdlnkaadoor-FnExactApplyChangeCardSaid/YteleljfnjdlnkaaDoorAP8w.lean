/-
  What is proved here: the law of ApplyChange. Condition: none.
-/
import Derived.Test.YteleljfnjdlnkaaDoorAP7w
import Derived.Test.YteleljfnjdlnkaaDoorCHw
import Derived.Test.YteleljfnjdlnkaaDoorMK2w
import Derived.Test.YteleljfnjdlnkaaDoorAbs27
namespace Go.Proofs
open Go.Abs Go.Srt
set_option linter.unusedSimpArgs false
set_option linter.unnecessarySimpa false
set_option linter.unusedVariables false
set_option maxHeartbeats 8000000
set_option maxRecDepth 20000

theorem apA_ok {c d : Cfg} {x : Chg} (ho : okC c) (hn : x.nm.size ≤ 1048576) (h : apA c x = some d) : okC d := by
  unfold apA at h
  split at h
  · rename_i hg
    simp only [Bool.and_eq_true] at hg
    exact apR_okC hg.1 ho hn h
  · cases h
def F3 : Fun := ⟨fun xs => xs = [.agg (cX (deC (xs.getD 0 .top) : Cfg)), .agg (rX (deA (xs.getD 1 .top) : Chg))] ∧ (fun (c : Cfg) (x : Chg) => (bigC c ∧ x.nm.size ≤ 9223372036854775807)) (deC (xs.getD 0 .top) : Cfg) (deA (xs.getD 1 .top) : Chg), fun xs => (fun (c : Cfg) (x : Chg) => ((B true, []) : X × List Ob)) (deC (xs.getD 0 .top) : Cfg) (deA (xs.getD 1 .top) : Chg)⟩
theorem F3_in {xs : List X} (h : F3.pre xs) : ∃ (c : Cfg) (x : Chg), xs = [.agg (cX c), .agg (rX x)] ∧ (bigC c ∧ x.nm.size ≤ 9223372036854775807) := ⟨_, _, h.1, h.2⟩
theorem F3_res (c : Cfg) (x : Chg) : F3.res [.agg (cX c), .agg (rX x)] = (B true, []) := by simp [F3]
theorem F3_mk (c : Cfg) (x : Chg) (h : bigC c ∧ x.nm.size ≤ 9223372036854775807) : F3.pre [.agg (cX c), .agg (rX x)] := by simpa [F3] using h
theorem c3 : GenCA K Tryd.prog 3 F3 := by
  refine contractA Tryd.mix K [(4, F4), (5, F5), (7, F7), (8, F8), (6, F6), (9, F9), (10, F10), (12, F12)] [(11, mkC2)]
    (by simp [c4, c5, c7, c8, c6, c9, c10, c12]) (by simp [mkC2_ok]) Tryd.func3 rfl (by decide) ?_
  intro xs hxs
  obtain ⟨c, x, rfl, hbc, hbx⟩ := F3_in hxs
  rw [F3_res]
  refine ⟨by rw [Tryd.ntmps3]; simp, ?_⟩
  by_cases h1 : (1048576 : Int) < cSz c
  · simp -implicitDefEqProofs [Tryd.f3, F4, List.lookup_cons, and_assoc, pick_and, pick_or, if_and, if_or, rbR_iR, rbR_nil, rbOb_mk, iR_mf, pickOk, -List.all_eq_true, iR_ok, ok0, iR_eq_nil, deIs_nil, hbc, h1]
    refine fin_pure (by simp) ?_
    simp -implicitDefEqProofs [pur2_i, pur2_b, pur2_s, pur2_nil, pur2_sl, pur2_tup, rn2_tup, rn2_agg, rn2_osl, rn1_v, rn1_osl, rn1_agg, rn0_v, rn0_sl, rn0, pickObs, pur_v, pur_b, pur_s, pur_nil, pur_sl, deI, deIs_sl]
  have hz1 : 0 ≤ cSz c := by unfold cSz; omega
  have e1 : ¬ (1048576 : Int) - cSz c < 0 := by omega
  have e1' : cSz c ≤ 1048576 := by omega
  have e2 : (1048576 : Int) - cSz c ≤ 1048576 := by omega
  by_cases h2 : (1048576 : Int) - cSz c < x.nm.size
  · simp -implicitDefEqProofs [Tryd.f3, F4, F5, List.lookup_cons, and_assoc, pick_and, pick_or, if_and, if_or, rbR_iR, rbR_nil, rbOb_mk, iR_mf, pickOk, -List.all_eq_true, iR_ok, ok0, iR_eq_nil, deIs_nil, hbc, hbx, h1, e1, e1', e2, hz1, h2]
    refine fin_pure (by simp) ?_
    simp -implicitDefEqProofs [pur2_i, pur2_b, pur2_s, pur2_nil, pur2_sl, pur2_tup, rn2_tup, rn2_agg, rn2_osl, rn1_v, rn1_osl, rn1_agg, rn0_v, rn0_sl, rn0, pickObs, pur_v, pur_b, pur_s, pur_nil, pur_sl, deI, deIs_sl]
  have hoc := okC_of h1 (Int.le_refl _)
  have hox : x.nm.size ≤ 1048576 := by omega
  have e3 : ¬ (1048576 : Int) - cSz c - x.nm.size < 0 := by omega
  have g1 := hoc.1
  have g2 := hoc.2.1
  have hmu : mkC2.mu = [true] := rfl
  have u1 : (c.cls.length : Int) ≤ 1048576 := by omega
  have u2 : (c.fil.length : Int) ≤ 1048576 := by omega
  have hpe : ∀ (x : Cfg) (k : Int), okC x → 0 ≤ k → k ≤ 549755813888 → mkC2.pre [.agg [.v (.string x.name), .osl 0 0, .osl 1 0, I x.dflt], .v (.int .i64 k)] [⟨41, 8, 0, tR x.cls, false, true, none⟩, ⟨42, 5, 0, tR x.fil, false, true, none⟩] := fun x k h a b => .inl ⟨x, k, rfl, rfl, h, a, b⟩
  have hre : ∀ (x : Cfg) (k : Int), mkC2.res [.agg [.v (.string x.name), .osl 0 0, .osl 1 0, I x.dflt], .v (.int .i64 k)] [⟨41, 8, 0, tR x.cls, false, true, none⟩, ⟨42, 5, 0, tR x.fil, false, true, none⟩] = (I (k + 8 * (x.cls.length : Int) + 5 * (x.fil.length : Int)), [⟨41, 8, 0, tR (Cls.mkL k x.cls.length), false, true, none⟩, ⟨42, 5, 0, tR (Fil.mkL (k + 8 * (x.cls.length : Int)) x.fil.length), false, true, none⟩]) := fun x k => by
    simp [mkC2, M11, cMk, obl, tOb, deI]
  have hpn : mkC2.pre [.agg [.v (.string ⟨#[]⟩), .sl [], .sl [], I 0], .v (.int .i64 1)] [] := .inr ⟨1, rfl, rfl, by omega, by omega⟩
  have hrn : mkC2.res [.agg [.v (.string ⟨#[]⟩), .sl [], .sl [], I 0], .v (.int .i64 1)] [] = (I 1, []) := rfl
  have hph : ∀ (x : Cfg) (n m : Nat), n ≤ 1048576 → m ≤ 1048576 → F12.pre [.agg [.v (.string x.name), .sl (tR (Cls.mkL 1 n)), .sl (tR (Fil.mkL (1 + 8 * (n : Int)) m)), I x.dflt], .v (.int .i64 1)] := fun x n m a b => ⟨x, 1, n, m, rfl, a, b, by omega, by omega⟩
  have hrh : ∀ (x : Cfg) (n m : Nat), F12.res [.agg [.v (.string x.name), .sl (tR (Cls.mkL 1 n)), .sl (tR (Fil.mkL (1 + 8 * (n : Int)) m)), I x.dflt], .v (.int .i64 1)] = (I (1 + 8 * (n : Int) + 5 * (m : Int)), []) := fun x n m => by
    have hd : deC (.agg (cX ⟨x.name, Cls.mkL 1 n, Fil.mkL (1 + 8 * (n : Int)) m, x.dflt⟩)) = ⟨x.name, Cls.mkL 1 n, Fil.mkL (1 + 8 * (n : Int)) m, x.dflt⟩ := by simp
    have hx : (.agg [.v (.string x.name), .sl (tR (Cls.mkL 1 n)), .sl (tR (Fil.mkL (1 + 8 * (n : Int)) m)), I x.dflt] : X) = .agg (cX ⟨x.name, Cls.mkL 1 n, Fil.mkL (1 + 8 * (n : Int)) m, x.dflt⟩) := rfl
    rw [hx]
    simp [F12, deI, Cls.mkL_len, Fil.mkL_len]
  have hph0 : F12.pre [.agg [.v (.string ⟨#[]⟩), .sl [], .sl [], I 0], .v (.int .i64 1)] := ⟨⟨⟨#[]⟩, [], [], 0⟩, 1, 0, 0, rfl, by omega, by omega, by omega, by omega⟩
  have hrh0 : F12.res [.agg [.v (.string ⟨#[]⟩), .sl [], .sl [], I 0], .v (.int .i64 1)] = (I 1, []) := rfl
  have k0 : (0 : Int) ≤ 1 + 8 * c.cls.length + 5 * c.fil.length := by omega
  have k1 : (1 : Int) + 8 * c.cls.length + 5 * c.fil.length ≤ 549755813888 := by omega
  have k2 : ¬ (1 : Int) + 8 * c.cls.length + 5 * c.fil.length < 0 := by omega
  cases hA : apA c x with
  | none =>
    have hK : apX (apA c x) = (.tup [.agg [.v (.string ⟨#[]⟩), .sl [], .sl [], I 0], B false], []) := by rw [hA]; rfl
    have hK2 : rpX (apA c x) = (.tup [.agg [.v (.string ⟨#[]⟩), .sl [], .sl [], I 0], B false], []) := by rw [hA]; rfl
    have n3 : (deT (X.sl []) : List Cls) = [] := rfl
    have n4 : (deT (X.sl []) : List Fil) = [] := rfl
    have n1 : okC ⟨⟨#[]⟩, [], [], 0⟩ := by refine ⟨by simp, by simp, Nat.zero_le 1048576⟩
    have n2 : .agg [.v (.string ⟨#[]⟩), .sl [], .sl [], I 0] = (.agg (cX ⟨⟨#[]⟩, [], [], 0⟩) : X) := rfl
    simp -implicitDefEqProofs [OpOk, Tryd.f3, F4, F5, F7, F8, F9, F6, F10, hph, hrh, hph0, hrh0, List.lookup_cons, and_assoc, pick_and, pick_or, if_and, if_or, rbR_iR, rbR_nil, rbOb_mk, iR_mf, pickOk, -List.all_eq_true, iR_ok, ok0, iR_eq_nil, deIs_nil, hbc, hbx, h1, e1, e1', e2, e3, hz1, h2, hoc, hox, hK, hK2, cO, cOb, tOb, tR_rb, hmu, hpe, hre, hpn, hrn, k0, k1, k2, pur2_tup, pur2_b, pur2_i, pur2_sl, pur_sl, pur_b, pur_v, pur_oslE, pur2osl, purnil2, obCls, obFil, n1, n3, n4]
    refine drawP_xpu _ [(8, 0), (0, 0), (1, 0), (2, 0), (3, 0), (4, 0), (5, 0), (6, 0), (9, 1), (7, 0), (10, 2)] [8, 9] (by decide) ?_
    simp -implicitDefEqProofs [OpOk, Tryd.f3, F4, F5, F7, F8, F9, F6, F10, hph, hrh, hph0, hrh0, List.lookup_cons, and_assoc, pick_and, pick_or, if_and, if_or, rbR_iR, rbR_nil, rbOb_mk, iR_mf, pickOk, -List.all_eq_true, iR_ok, ok0, iR_eq_nil, deIs_nil, hbc, hbx, h1, e1, e1', e2, e3, hz1, h2, hoc, hox, hK, hK2, cO, cOb, tOb, tR_rb, hmu, hpe, hre, hpn, hrn, k0, k1, k2, pur2_tup, pur2_b, pur2_i, pur2_sl, pur_sl, pur_b, pur_v, pur_oslE, pur2osl, purnil2, obCls, obFil, n1, n3, n4]
    refine drawP_xpu _ [(7, 0), (0, 0), (1, 0), (2, 0), (3, 0), (4, 0), (5, 0), (8, 1), (6, 0), (9, 2)] [7, 8] (by decide) ?_
    simp -implicitDefEqProofs [OpOk, Tryd.f3, F4, F5, F7, F8, F9, F6, F10, hph, hrh, hph0, hrh0, List.lookup_cons, and_assoc, pick_and, pick_or, if_and, if_or, rbR_iR, rbR_nil, rbOb_mk, iR_mf, pickOk, -List.all_eq_true, iR_ok, ok0, iR_eq_nil, deIs_nil, hbc, hbx, h1, e1, e1', e2, e3, hz1, h2, hoc, hox, hK, hK2, cO, cOb, tOb, tR_rb, hmu, hpe, hre, hpn, hrn, k0, k1, k2, pur2_tup, pur2_b, pur2_i, pur2_sl, pur_sl, pur_b, pur_v, pur_oslE, pur2osl, purnil2, obCls, obFil, n1, n3, n4]
    refine drawP_pu _ (by decide) ?_
    simp -implicitDefEqProofs [OpOk, Tryd.f3, F4, F5, F7, F8, F9, F6, F10, hph, hrh, hph0, hrh0, List.lookup_cons, and_assoc, pick_and, pick_or, if_and, if_or, rbR_iR, rbR_nil, rbOb_mk, iR_mf, pickOk, -List.all_eq_true, iR_ok, ok0, iR_eq_nil, deIs_nil, hbc, hbx, h1, e1, e1', e2, e3, hz1, h2, hoc, hox, hK, hK2, cO, cOb, tOb, tR_rb, hmu, hpe, hre, hpn, hrn, k0, k1, k2, pur2_tup, pur2_b, pur2_i, pur2_sl, pur_sl, pur_b, pur_v, pur_oslE, pur2osl, purnil2, obCls, obFil, n1, n3, n4]
    refine drawP_xpu _ [(8, 0), (0, 0), (1, 0), (2, 0), (3, 0), (4, 0), (5, 0), (6, 0), (9, 1), (7, 0), (10, 2)] [8, 9] (by decide) ?_
    simp -implicitDefEqProofs [OpOk, Tryd.f3, F4, F5, F7, F8, F9, F6, F10, hph, hrh, hph0, hrh0, List.lookup_cons, and_assoc, pick_and, pick_or, if_and, if_or, rbR_iR, rbR_nil, rbOb_mk, iR_mf, pickOk, -List.all_eq_true, iR_ok, ok0, iR_eq_nil, deIs_nil, hbc, hbx, h1, e1, e1', e2, e3, hz1, h2, hoc, hox, hK, hK2, cO, cOb, tOb, tR_rb, hmu, hpe, hre, hpn, hrn, k0, k1, k2, pur2_tup, pur2_b, pur2_i, pur2_sl, pur_sl, pur_b, pur_v, pur_oslE, pur2osl, purnil2, obCls, obFil, n1, n3, n4]
    refine fin_pure (by simp) ?_
    simp -implicitDefEqProofs [pur2_i, pur2_b, pur2_s, pur2_nil, pur2_sl, pur2_tup, rn2_tup, rn2_agg, rn2_osl, rn1_v, rn1_osl, rn1_agg, rn0_v, rn0_sl, rn0, pickObs, pur_v, pur_b, pur_s, pur_nil, pur_sl, deI, deIs_sl]
  | some d =>
    have hK : apX (apA c x) = (.tup [.agg [.v (.string d.name), .osl 0 0, .osl 1 0, I d.dflt], B true], [⟨41, 8, 0, tR d.cls, false, true, none⟩, ⟨42, 5, 0, tR d.fil, false, true, none⟩]) := by rw [hA]; rfl
    have hK2 : rpX (apA c x) = (.tup [.agg (cX d), B true], []) := by rw [hA]; rfl
    have hod := apA_ok hoc hox hA
    have g3 := hod.1
    have g4 := hod.2.1
    have u3 : (d.cls.length : Int) ≤ 1048576 := by omega
    have u4 : (d.fil.length : Int) ≤ 1048576 := by omega
    have k3 : (0 : Int) ≤ 1 + 8 * d.cls.length + 5 * d.fil.length := by omega
    have k4 : ¬ (1 : Int) + 8 * d.cls.length + 5 * d.fil.length < 0 := by omega
    simp -implicitDefEqProofs [OpOk, Tryd.f3, F4, F5, F7, F8, F9, F6, F10, hph, hrh, hph0, hrh0, List.lookup_cons, and_assoc, pick_and, pick_or, if_and, if_or, rbR_iR, rbR_nil, rbOb_mk, iR_mf, pickOk, -List.all_eq_true, iR_ok, ok0, iR_eq_nil, deIs_nil, hbc, hbx, h1, e1, e1', e2, e3, hz1, h2, hoc, hox, hK, hK2, cO, cOb, tOb, tR_rb, hmu, hpe, hre, hpn, hrn, k0, k1, k2, pur2_tup, pur2_b, pur2_i, pur2_sl, pur_sl, pur_b, pur_v, pur_oslE, pur2osl, purnil2, obCls, obFil, hod, g3, g4, u3, u4, k3, k4]
    refine drawP_xpu _ [(8, 0), (0, 0), (1, 0), (2, 0), (3, 0), (4, 0), (5, 0), (6, 0), (9, 1), (7, 0), (10, 2)] [8, 9] (by decide) ?_
    simp -implicitDefEqProofs [OpOk, Tryd.f3, F4, F5, F7, F8, F9, F6, F10, hph, hrh, hph0, hrh0, List.lookup_cons, and_assoc, pick_and, pick_or, if_and, if_or, rbR_iR, rbR_nil, rbOb_mk, iR_mf, pickOk, -List.all_eq_true, iR_ok, ok0, iR_eq_nil, deIs_nil, hbc, hbx, h1, e1, e1', e2, e3, hz1, h2, hoc, hox, hK, hK2, cO, cOb, tOb, tR_rb, hmu, hpe, hre, hpn, hrn, k0, k1, k2, pur2_tup, pur2_b, pur2_i, pur2_sl, pur_sl, pur_b, pur_v, pur_oslE, pur2osl, purnil2, obCls, obFil, hod, g3, g4, u3, u4, k3, k4]
    refine drawP_w _ 7 3 [(7, 0), (0, 0), (1, 0), (2, 0), (3, 1), (4, 2), (5, 2), (8, 2), (6, 2), (9, 3)] [7, 3, 8] [(0, 0), (1, 0), (2, 0), (3, 0), (7, 1), (4, 1), (5, 1), (8, 2), (6, 1), (9, 3)] [3, 7, 8] (by decide) ?_ ?_
    · simp -implicitDefEqProofs [OpOk, Tryd.f3, F4, F5, F7, F8, F9, F6, F10, hph, hrh, hph0, hrh0, List.lookup_cons, and_assoc, pick_and, pick_or, if_and, if_or, rbR_iR, rbR_nil, rbOb_mk, iR_mf, pickOk, -List.all_eq_true, iR_ok, ok0, iR_eq_nil, deIs_nil, hbc, hbx, h1, e1, e1', e2, e3, hz1, h2, hoc, hox, hK, hK2, cO, cOb, tOb, tR_rb, hmu, hpe, hre, hpn, hrn, k0, k1, k2, pur2_tup, pur2_b, pur2_i, pur2_sl, pur_sl, pur_b, pur_v, pur_oslE, pur2osl, purnil2, obCls, obFil, hod, g3, g4, u3, u4, k3, k4]
      refine drawP_pu _ (by decide) ?_
      simp -implicitDefEqProofs [OpOk, Tryd.f3, F4, F5, F7, F8, F9, F6, F10, hph, hrh, hph0, hrh0, List.lookup_cons, and_assoc, pick_and, pick_or, if_and, if_or, rbR_iR, rbR_nil, rbOb_mk, iR_mf, pickOk, -List.all_eq_true, iR_ok, ok0, iR_eq_nil, deIs_nil, hbc, hbx, h1, e1, e1', e2, e3, hz1, h2, hoc, hox, hK, hK2, cO, cOb, tOb, tR_rb, hmu, hpe, hre, hpn, hrn, k0, k1, k2, pur2_tup, pur2_b, pur2_i, pur2_sl, pur_sl, pur_b, pur_v, pur_oslE, pur2osl, purnil2, obCls, obFil, hod, g3, g4, u3, u4, k3, k4]
      refine drawP_xpu _ [(8, 0), (0, 0), (1, 0), (2, 0), (3, 0), (4, 0), (5, 0), (6, 0), (9, 1), (7, 0), (10, 2)] [8, 9] (by decide) ?_
      simp -implicitDefEqProofs [OpOk, Tryd.f3, F4, F5, F7, F8, F9, F6, F10, hph, hrh, hph0, hrh0, List.lookup_cons, and_assoc, pick_and, pick_or, if_and, if_or, rbR_iR, rbR_nil, rbOb_mk, iR_mf, pickOk, -List.all_eq_true, iR_ok, ok0, iR_eq_nil, deIs_nil, hbc, hbx, h1, e1, e1', e2, e3, hz1, h2, hoc, hox, hK, hK2, cO, cOb, tOb, tR_rb, hmu, hpe, hre, hpn, hrn, k0, k1, k2, pur2_tup, pur2_b, pur2_i, pur2_sl, pur_sl, pur_b, pur_v, pur_oslE, pur2osl, purnil2, obCls, obFil, hod, g3, g4, u3, u4, k3, k4]
      refine fin_pure (by simp) ?_
      simp -implicitDefEqProofs [pur2_i, pur2_b, pur2_s, pur2_nil, pur2_sl, pur2_tup, rn2_tup, rn2_agg, rn2_osl, rn1_v, rn1_osl, rn1_agg, rn0_v, rn0_sl, rn0, pickObs, pur_v, pur_b, pur_s, pur_nil, pur_sl, deI, deIs_sl]
    · simp -implicitDefEqProofs [OpOk, Tryd.f3, F4, F5, F7, F8, F9, F6, F10, hph, hrh, hph0, hrh0, List.lookup_cons, and_assoc, pick_and, pick_or, if_and, if_or, rbR_iR, rbR_nil, rbOb_mk, iR_mf, pickOk, -List.all_eq_true, iR_ok, ok0, iR_eq_nil, deIs_nil, hbc, hbx, h1, e1, e1', e2, e3, hz1, h2, hoc, hox, hK, hK2, cO, cOb, tOb, tR_rb, hmu, hpe, hre, hpn, hrn, k0, k1, k2, pur2_tup, pur2_b, pur2_i, pur2_sl, pur_sl, pur_b, pur_v, pur_oslE, pur2osl, purnil2, obCls, obFil, hod, g3, g4, u3, u4, k3, k4]
      refine drawP_pu _ (by decide) ?_
      simp -implicitDefEqProofs [OpOk, Tryd.f3, F4, F5, F7, F8, F9, F6, F10, hph, hrh, hph0, hrh0, List.lookup_cons, and_assoc, pick_and, pick_or, if_and, if_or, rbR_iR, rbR_nil, rbOb_mk, iR_mf, pickOk, -List.all_eq_true, iR_ok, ok0, iR_eq_nil, deIs_nil, hbc, hbx, h1, e1, e1', e2, e3, hz1, h2, hoc, hox, hK, hK2, cO, cOb, tOb, tR_rb, hmu, hpe, hre, hpn, hrn, k0, k1, k2, pur2_tup, pur2_b, pur2_i, pur2_sl, pur_sl, pur_b, pur_v, pur_oslE, pur2osl, purnil2, obCls, obFil, hod, g3, g4, u3, u4, k3, k4]
      refine drawP_xpu _ [(8, 0), (0, 0), (1, 0), (2, 0), (3, 0), (4, 0), (5, 0), (6, 0), (9, 1), (7, 0), (10, 2)] [8, 9] (by decide) ?_
      simp -implicitDefEqProofs [OpOk, Tryd.f3, F4, F5, F7, F8, F9, F6, F10, hph, hrh, hph0, hrh0, List.lookup_cons, and_assoc, pick_and, pick_or, if_and, if_or, rbR_iR, rbR_nil, rbOb_mk, iR_mf, pickOk, -List.all_eq_true, iR_ok, ok0, iR_eq_nil, deIs_nil, hbc, hbx, h1, e1, e1', e2, e3, hz1, h2, hoc, hox, hK, hK2, cO, cOb, tOb, tR_rb, hmu, hpe, hre, hpn, hrn, k0, k1, k2, pur2_tup, pur2_b, pur2_i, pur2_sl, pur_sl, pur_b, pur_v, pur_oslE, pur2osl, purnil2, obCls, obFil, hod, g3, g4, u3, u4, k3, k4]
      refine fin_pure (by simp) ?_
      simp -implicitDefEqProofs [pur2_i, pur2_b, pur2_s, pur2_nil, pur2_sl, pur2_tup, rn2_tup, rn2_agg, rn2_osl, rn1_v, rn1_osl, rn1_agg, rn0_v, rn0_sl, rn0, pickObs, pur_v, pur_b, pur_s, pur_nil, pur_sl, deI, deIs_sl]
end Go.Proofs
