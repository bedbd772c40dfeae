/-
  What is proved here: the contract of the law of KeptClasses. Condition: none.
-/
import Derived.Test.YtglbimhhiikkpaaDoorC10r
import Derived.Test.YtglbimhhiikkpaaDoorLCr
namespace Go.Proofs
open Go.Abs
set_option linter.unusedSimpArgs false
set_option linter.unnecessarySimpa false
set_option linter.unusedVariables false
set_option maxHeartbeats 8000000
set_option maxRecDepth 20000

@[simp] theorem idx2a (a b : Nat) : List.idxOf? a [a, b] = some 0 := by simp [List.idxOf?, List.findIdx?_cons]
theorem idx2b (a b : Nat) (h : ¬ a = b) : List.idxOf? b [a, b] = some 1 := by simp [List.idxOf?, List.findIdx?_cons, h]
@[simp] theorem pur2_oslC (h : List Ob) (k ver : Nat) : purN h 2 (.osl k ver) = (match h[k]? with
    | some ob => if ob.ver = ver ∧ ob.bx = false then .sl (ob.rows.map fun r => r.map (purN h 1)) else .top
    | none => .top) := rfl
def F3 : Fun := ⟨fun xs => xs = [.agg (cX (deC (xs.getD 0 .top) : Cfg)), .agg (cX (deC (xs.getD 1 .top) : Cfg))] ∧ (fun (c : Cfg) (d : Cfg) => (bigC c ∧ bigC d)) (deC (xs.getD 0 .top) : Cfg) (deC (xs.getD 1 .top) : Cfg), fun xs => (fun (c : Cfg) (d : Cfg) => ((B true, []) : X × List Ob)) (deC (xs.getD 0 .top) : Cfg) (deC (xs.getD 1 .top) : Cfg)⟩
theorem F3_in {xs : List X} (h : F3.pre xs) : ∃ (c : Cfg) (d : Cfg), xs = [.agg (cX c), .agg (cX d)] ∧ (bigC c ∧ bigC d) := ⟨_, _, h.1, h.2⟩
theorem F3_res (c : Cfg) (d : Cfg) : F3.res [.agg (cX c), .agg (cX d)] = (B true, []) := by simp [F3]
theorem F3_mk (c : Cfg) (d : Cfg) (h : bigC c ∧ bigC d) : F3.pre [.agg (cX c), .agg (cX d)] := by simpa [F3] using h
theorem c3 : GenCA K Tryd.prog 3 F3 := by
  refine contractA Tryd.mix K [(9, F9), (11, F11), (10, F12), (12, F12), (13, F13), (14, F14), (17, F17)] [(15, M15), (16, M16)] (by simp [c9, c11, c10, c12, c13, c14, c17]) (by simp [m15, m16]) Tryd.func3 rfl (by decide) ?_
  intro xs hxs
  obtain ⟨c, d, rfl, hp⟩ := F3_in hxs
  rw [F3_res]
  refine ⟨by rw [Tryd.ntmps3]; simp, ?_⟩
  obtain ⟨hbc, hbd⟩ := hp
  by_cases h1 : (1048576 : Int) < cSz c
  · simp -implicitDefEqProofs [Tryd.f3, F9, F11, F12, F12, F13, F14, F17, M15, M16, List.lookup_cons, and_assoc, pick_and, pick_or, if_and, if_or, rbR_iR, rbR_nil, rbOb_mk, iR_mf, pickOk, -List.all_eq_true, iR_ok, ok0, iR_eq_nil, deIs_nil, hbc, h1]
    refine fin_pure (by simp) ?_
    simp -implicitDefEqProofs [pur2_i, pur2_b, pur2_s, pur2_nil, pur2_sl, pur2_tup, rn2_tup, rn2_agg, rn2_osl, rn1_v, rn1_osl, rn1_agg, rn0_v, rn0_sl, rn0, pickObs, pur_v, pur_b, pur_s, pur_nil, pur_sl, deI, deIs_sl]
  have hz1 : 0 ≤ cSz c := by unfold cSz; omega
  have e1 : ¬ (1048576 : Int) - cSz c < 0 := by omega
  have e1' : cSz c ≤ 1048576 := by omega
  have e2 : (1048576 : Int) - cSz c ≤ 1048576 := by omega
  by_cases h2 : (1048576 : Int) - cSz c < cSz d
  · simp -implicitDefEqProofs [Tryd.f3, F9, F11, F12, F12, F13, F14, F17, M15, M16, List.lookup_cons, and_assoc, pick_and, pick_or, if_and, if_or, rbR_iR, rbR_nil, rbOb_mk, iR_mf, pickOk, -List.all_eq_true, iR_ok, ok0, iR_eq_nil, deIs_nil, hbc, hbd, h1, e1, e1', e2, hz1, h2]
    refine fin_pure (by simp) ?_
    simp -implicitDefEqProofs [pur2_i, pur2_b, pur2_s, pur2_nil, pur2_sl, pur2_tup, rn2_tup, rn2_agg, rn2_osl, rn1_v, rn1_osl, rn1_agg, rn0_v, rn0_sl, rn0, pickObs, pur_v, pur_b, pur_s, pur_nil, pur_sl, deI, deIs_sl]
  have hoc := okC_of h1 (Int.le_refl _)
  have hod := okC_of h2 e2
  have e3 : ¬ (1048576 : Int) - cSz c - cSz d < 0 := by omega
  have g1 := hoc.1
  have g2 := hoc.2.1
  have g3 := hod.1
  have g4 := hod.2.1
  have hmu : M15.mu = [true] := rfl
  have hmi : M16.mu = [true] := rfl
  have u1 : (c.cls.length : Int) ≤ 1048576 := by omega
  have u2 : (c.fil.length : Int) ≤ 1048576 := by omega
  have u3 : (d.cls.length : Int) ≤ 1048576 := by omega
  have u4 : (d.fil.length : Int) ≤ 1048576 := by omega
  have hpe : ∀ (x : Cfg) (k : Int), okC x → 0 ≤ k → k ≤ 549755813888 → M15.pre [.agg [.v (.string x.name), .osl 0 0, .osl 1 0, I x.dflt], .v (.int .i64 k)] [⟨64, 8, 0, tR x.cls, false, true, none⟩, ⟨65, 5, 0, tR x.fil, false, true, none⟩] := fun x k h a b => ⟨x, k, rfl, rfl, h, a, b⟩
  have hre : ∀ (x : Cfg) (k : Int), M15.res [.agg [.v (.string x.name), .osl 0 0, .osl 1 0, I x.dflt], .v (.int .i64 k)] [⟨64, 8, 0, tR x.cls, false, true, none⟩, ⟨65, 5, 0, tR x.fil, false, true, none⟩] = (I (k + 8 * (x.cls.length : Int) + 5 * (x.fil.length : Int)), [⟨64, 8, 0, tR (Cls.mkL k x.cls.length), false, true, none⟩, ⟨65, 5, 0, tR (Fil.mkL (k + 8 * (x.cls.length : Int)) x.fil.length), false, true, none⟩]) := fun x k => by
    simp [M15, cMk, obl, tOb, deI]
  have k0 : (0 : Int) ≤ 1 + 8 * c.cls.length + 5 * c.fil.length := by omega
  have k1 : (1 : Int) + 8 * c.cls.length + 5 * c.fil.length ≤ 549755813888 := by omega
  have k2 : ¬ (1 : Int) + 8 * c.cls.length + 5 * c.fil.length + 8 * d.cls.length + 5 * d.fil.length < 0 := by omega
  have hpi0 : M16.pre [.sl [], .v (.int .i64 1)] [] := .inr ⟨1, rfl, rfl, by omega, by omega⟩
  have hri0 : M16.res [.sl [], .v (.int .i64 1)] [] = (I 1, []) := rfl
  have hpi1 : ∀ L : List Int, L.length ≤ 1048576 → M16.pre [.osl 0 0, .v (.int .i64 1)] [⟨3, 1, 0, iR L, false, true, none⟩] := fun L h => .inl ⟨L, 1, rfl, rfl, h, by omega, by omega⟩
  have hri1 : ∀ L : List Int, M16.res [.osl 0 0, .v (.int .i64 1)] [⟨3, 1, 0, iR L, false, true, none⟩] = (I (1 + (L.length : Int)), [⟨3, 1, 0, iR (upI 1 L.length), false, true, none⟩]) := fun L => by
    simp [M16, iOb, deI]
  cases hA : (isCfg c && isCfg d) with
  | false =>
    have hK : keptAns c d = (.tup [.sl [], B false], []) := by rw [keptAns, hA]; rfl
    simp -implicitDefEqProofs [Tryd.f3, F9, F11, F12, F13, F14, F17, idx2b, hpi0, hpi1, hri0, hri1, List.lookup_cons, and_assoc, pick_and, pick_or, if_and, if_or, rbR_iR, rbR_nil, rbOb_mk, iR_mf, pickOk, -List.all_eq_true, iR_ok, ok0, iR_eq_nil, deIs_nil, hbc, hbd, h1, e1, e1', e2, e3, hz1, h2, hoc, hod, hK, cO, cOb, tOb, iOb, ints, tR_rb, hmu, hmi, hpe, hre, k0, k1, k2, pur2_tup, pur2_b, pur2_i, pur2_sl, pur_sl, pur_b, pur_v, pur_oslE]
    refine drawP_pu _ (by decide) ?_
    simp -implicitDefEqProofs [Tryd.f3, F9, F11, F12, F13, F14, F17, idx2b, hpi0, hpi1, hri0, hri1, List.lookup_cons, and_assoc, pick_and, pick_or, if_and, if_or, rbR_iR, rbR_nil, rbOb_mk, iR_mf, pickOk, -List.all_eq_true, iR_ok, ok0, iR_eq_nil, deIs_nil, hbc, hbd, h1, e1, e1', e2, e3, hz1, h2, hoc, hod, hK, cO, cOb, tOb, iOb, ints, tR_rb, hmu, hmi, hpe, hre, k0, k1, k2, pur2_tup, pur2_b, pur2_i, pur2_sl, pur_sl, pur_b, pur_v, pur_oslE]
    refine drawP_pu _ (by decide) ?_
    simp -implicitDefEqProofs [Tryd.f3, F9, F11, F12, F13, F14, F17, idx2b, hpi0, hpi1, hri0, hri1, List.lookup_cons, and_assoc, pick_and, pick_or, if_and, if_or, rbR_iR, rbR_nil, rbOb_mk, iR_mf, pickOk, -List.all_eq_true, iR_ok, ok0, iR_eq_nil, deIs_nil, hbc, hbd, h1, e1, e1', e2, e3, hz1, h2, hoc, hod, hK, cO, cOb, tOb, iOb, ints, tR_rb, hmu, hmi, hpe, hre, k0, k1, k2, pur2_tup, pur2_b, pur2_i, pur2_sl, pur_sl, pur_b, pur_v, pur_oslE]
    refine drawP_pu _ (by decide) ?_
    simp -implicitDefEqProofs [Tryd.f3, F9, F11, F12, F13, F14, F17, idx2b, hpi0, hpi1, hri0, hri1, List.lookup_cons, and_assoc, pick_and, pick_or, if_and, if_or, rbR_iR, rbR_nil, rbOb_mk, iR_mf, pickOk, -List.all_eq_true, iR_ok, ok0, iR_eq_nil, deIs_nil, hbc, hbd, h1, e1, e1', e2, e3, hz1, h2, hoc, hod, hK, cO, cOb, tOb, iOb, ints, tR_rb, hmu, hmi, hpe, hre, k0, k1, k2, pur2_tup, pur2_b, pur2_i, pur2_sl, pur_sl, pur_b, pur_v, pur_oslE]
    refine drawP_pu _ (by decide) ?_
    simp -implicitDefEqProofs [Tryd.f3, F9, F11, F12, F13, F14, F17, idx2b, hpi0, hpi1, hri0, hri1, List.lookup_cons, and_assoc, pick_and, pick_or, if_and, if_or, rbR_iR, rbR_nil, rbOb_mk, iR_mf, pickOk, -List.all_eq_true, iR_ok, ok0, iR_eq_nil, deIs_nil, hbc, hbd, h1, e1, e1', e2, e3, hz1, h2, hoc, hod, hK, cO, cOb, tOb, iOb, ints, tR_rb, hmu, hmi, hpe, hre, k0, k1, k2, pur2_tup, pur2_b, pur2_i, pur2_sl, pur_sl, pur_b, pur_v, pur_oslE]
    refine fin_pure (by simp) ?_
    simp -implicitDefEqProofs [pur2_i, pur2_b, pur2_s, pur2_nil, pur2_sl, pur2_tup, rn2_tup, rn2_agg, rn2_osl, rn1_v, rn1_osl, rn1_agg, rn0_v, rn0_sl, rn0, pickObs, pur_v, pur_b, pur_s, pur_nil, pur_sl, deI, deIs_sl]
  | true =>
    have hK : keptAns c d = (.tup [.osl 0 0, B true], [⟨3, 1, 0, iR (keptL c d c.cls.length), false, true, none⟩]) := by rw [keptAns, hA]; rfl
    have hkl := keptL_len c d c.cls.length
    have hkl2 : (keptL c d c.cls.length).length ≤ 1048576 := by omega
    have hk5 : (0 : Int) ≤ 1 + (keptL c d c.cls.length).length := by omega
    have hk4 : ¬ (1 : Int) + (keptL c d c.cls.length).length < 0 := by omega
    simp -implicitDefEqProofs [Tryd.f3, F9, F11, F12, F13, F14, F17, idx2b, hpi0, hpi1, hri0, hri1, List.lookup_cons, and_assoc, pick_and, pick_or, if_and, if_or, rbR_iR, rbR_nil, rbOb_mk, iR_mf, pickOk, -List.all_eq_true, iR_ok, ok0, iR_eq_nil, deIs_nil, hbc, hbd, h1, e1, e1', e2, e3, hz1, h2, hoc, hod, hK, cO, cOb, tOb, iOb, ints, tR_rb, hmu, hmi, hpe, hre, k0, k1, k2, hkl2, hk4, hk5, pur2_tup, pur2_b, pur2_i, pur2_sl, pur_sl, pur_b, pur_v, pur_oslE]
    refine drawP_pu _ (by decide) ?_
    simp -implicitDefEqProofs [Tryd.f3, F9, F11, F12, F13, F14, F17, idx2b, hpi0, hpi1, hri0, hri1, List.lookup_cons, and_assoc, pick_and, pick_or, if_and, if_or, rbR_iR, rbR_nil, rbOb_mk, iR_mf, pickOk, -List.all_eq_true, iR_ok, ok0, iR_eq_nil, deIs_nil, hbc, hbd, h1, e1, e1', e2, e3, hz1, h2, hoc, hod, hK, cO, cOb, tOb, iOb, ints, tR_rb, hmu, hmi, hpe, hre, k0, k1, k2, hkl2, hk4, hk5, pur2_tup, pur2_b, pur2_i, pur2_sl, pur_sl, pur_b, pur_v, pur_oslE]
    refine drawP_pu _ (by decide) ?_
    simp -implicitDefEqProofs [Tryd.f3, F9, F11, F12, F13, F14, F17, idx2b, hpi0, hpi1, hri0, hri1, List.lookup_cons, and_assoc, pick_and, pick_or, if_and, if_or, rbR_iR, rbR_nil, rbOb_mk, iR_mf, pickOk, -List.all_eq_true, iR_ok, ok0, iR_eq_nil, deIs_nil, hbc, hbd, h1, e1, e1', e2, e3, hz1, h2, hoc, hod, hK, cO, cOb, tOb, iOb, ints, tR_rb, hmu, hmi, hpe, hre, k0, k1, k2, hkl2, hk4, hk5, pur2_tup, pur2_b, pur2_i, pur2_sl, pur_sl, pur_b, pur_v, pur_oslE]
    refine drawP_pu _ (by decide) ?_
    simp -implicitDefEqProofs [Tryd.f3, F9, F11, F12, F13, F14, F17, idx2b, hpi0, hpi1, hri0, hri1, List.lookup_cons, and_assoc, pick_and, pick_or, if_and, if_or, rbR_iR, rbR_nil, rbOb_mk, iR_mf, pickOk, -List.all_eq_true, iR_ok, ok0, iR_eq_nil, deIs_nil, hbc, hbd, h1, e1, e1', e2, e3, hz1, h2, hoc, hod, hK, cO, cOb, tOb, iOb, ints, tR_rb, hmu, hmi, hpe, hre, k0, k1, k2, hkl2, hk4, hk5, pur2_tup, pur2_b, pur2_i, pur2_sl, pur_sl, pur_b, pur_v, pur_oslE]
    refine drawP_pu _ (by decide) ?_
    simp -implicitDefEqProofs [Tryd.f3, F9, F11, F12, F13, F14, F17, idx2b, hpi0, hpi1, hri0, hri1, List.lookup_cons, and_assoc, pick_and, pick_or, if_and, if_or, rbR_iR, rbR_nil, rbOb_mk, iR_mf, pickOk, -List.all_eq_true, iR_ok, ok0, iR_eq_nil, deIs_nil, hbc, hbd, h1, e1, e1', e2, e3, hz1, h2, hoc, hod, hK, cO, cOb, tOb, iOb, ints, tR_rb, hmu, hmi, hpe, hre, k0, k1, k2, hkl2, hk4, hk5, pur2_tup, pur2_b, pur2_i, pur2_sl, pur_sl, pur_b, pur_v, pur_oslE]
    refine fin_pure (by simp) ?_
    simp -implicitDefEqProofs [pur2_i, pur2_b, pur2_s, pur2_nil, pur2_sl, pur2_tup, rn2_tup, rn2_agg, rn2_osl, rn1_v, rn1_osl, rn1_agg, rn0_v, rn0_sl, rn0, pickObs, pur_v, pur_b, pur_s, pur_nil, pur_sl, deI, deIs_sl]
end Go.Proofs
