/-
  What is proved here: the laws of WalkClasses, LineOfClass and LinesOfPart. Condition: none.
-/
import Derived.Test.YtlfgjdfecgjphaaGreatDoorPL1y
import Derived.Test.YtlfgjdfecgjphaaGreatDoorLCy
import Derived.Test.YtlfgjdfecgjphaaGreatDoorOCy
import Derived.Test.YtlfgjdfecgjphaaGreatDoorLIy
namespace Go.Proofs
open Go.Abs
set_option linter.unusedSimpArgs false
set_option linter.unnecessarySimpa false
set_option linter.unusedVariables false
set_option maxHeartbeats 8000000
set_option maxRecDepth 20000
theorem purnil2' (h : List Ob) : purN h 2 (.v (.slice none 0 0)) = .sl [] := rfl
theorem pur2osl' (h : List Ob) (k ver : Nat) : purN h 2 (.osl k ver) = (match h[k]? with
    | some ob => if ob.ver = ver ∧ ob.bx = false then .sl (ob.rows.map fun r => r.map (purN h 1)) else .top
    | none => .top) := rfl
def F3 : Fun := ⟨fun xs => xs = [.agg (cX (deC (xs.getD 0 .top) : Cfg)), I (deI (xs.getD 1 .top) : Int)] ∧ (fun (c : Cfg) (i : Int) => (bigC c)) (deC (xs.getD 0 .top) : Cfg) (deI (xs.getD 1 .top) : Int), fun xs => (fun (c : Cfg) (i : Int) => ((B true, []) : X × List Ob)) (deC (xs.getD 0 .top) : Cfg) (deI (xs.getD 1 .top) : Int)⟩
theorem F3_in {xs : List X} (h : F3.pre xs) : ∃ (c : Cfg) (i : Int), xs = [.agg (cX c), I i] ∧ (bigC c) := ⟨_, _, h.1, h.2⟩
theorem F3_res (c : Cfg) (i : Int) : F3.res [.agg (cX c), I i] = (B true, []) := by simp [F3]
theorem F3_mk (c : Cfg) (i : Int) (h : bigC c) : F3.pre [.agg (cX c), I i] := by simpa [F3] using h
theorem c3 : GenCA K Tryz.prog 3 F3 := by
  refine contractA Tryz.mix K [(9, F9), (11, F11), (10, F12), (12, F12), (13, F13)] [] (by simp [c9, c11, c10, c12, c13]) (by simp) Tryz.func3 rfl (by decide) ?_
  intro xs hxs
  obtain ⟨c, i, rfl, hp⟩ := F3_in hxs
  rw [F3_res]
  refine ⟨by rw [Tryz.ntmps3]; simp, ?_⟩
  have hbc := hp
  by_cases h1 : (1048576 : Int) < cSz c
  · simp -implicitDefEqProofs [Tryz.f3, F9, F11, F12, F12, F13, List.lookup_cons, and_assoc, pick_and, pick_or, if_and, if_or, rbR_iR, rbR_nil, rbOb_mk, iR_mf, pickOk, -List.all_eq_true, iR_ok, ok0, iR_eq_nil, deIs_nil, hbc, h1]
    refine fin_pure (by simp) ?_
    simp -implicitDefEqProofs [pur2_i, pur2_b, pur2_s, pur2_nil, pur2_sl, pur2_tup, rn2_tup, rn2_agg, rn2_osl, rn1_v, rn1_osl, rn1_agg, rn0_v, rn0_sl, rn0, pickObs, pur_v, pur_b, pur_s, pur_nil, pur_sl, deI, deIs_sl]
  have hz1 : 0 ≤ cSz c := by unfold cSz; omega
  have e1 : ¬ (1048576 : Int) - cSz c < 0 := by omega
  have e1' : cSz c ≤ 1048576 := by omega
  have hoc := okC_of h1 (Int.le_refl _)
  have hR : ∃ a b, liR c i = .tup [I a, B b] := by
    unfold liR
    split
    · exact ⟨_, _, rfl⟩
    · exact ⟨_, _, rfl⟩
  obtain ⟨a, b, hK⟩ := hR
  simp -implicitDefEqProofs [Tryz.f3, F12, hK, F9, F11, F13, List.lookup_cons, and_assoc, pick_and, pick_or, if_and, if_or, rbR_iR, rbR_nil, rbOb_mk, iR_mf, pickOk, -List.all_eq_true, iR_ok, ok0, iR_eq_nil, deIs_nil, hbc, h1, e1, e1', hoc, cO, cOb, tOb, tR_rb, pur2_tup, pur2_b, pur2_i, pur2_sl, pur_sl, pur_b, pur_v, pur_oslE, pur2osl', purnil2']
  refine drawP_pu _ (by decide) ?_
  simp -implicitDefEqProofs [F12, hK, F9, F11, F13, List.lookup_cons, and_assoc, pick_and, pick_or, if_and, if_or, rbR_iR, rbR_nil, rbOb_mk, iR_mf, pickOk, -List.all_eq_true, iR_ok, ok0, iR_eq_nil, deIs_nil, hbc, h1, e1, e1', hoc, cO, cOb, tOb, tR_rb, pur2_tup, pur2_b, pur2_i, pur2_sl, pur_sl, pur_b, pur_v, pur_oslE, pur2osl', purnil2']
  refine fin_pure (by simp) ?_
  simp -implicitDefEqProofs [pur2_i, pur2_b, pur2_s, pur2_nil, pur2_sl, pur2_tup, rn2_tup, rn2_agg, rn2_osl, rn1_v, rn1_osl, rn1_agg, rn0_v, rn0_sl, rn0, pickObs, pur_v, pur_b, pur_s, pur_nil, pur_sl, deI, deIs_sl]
def F4 : Fun := ⟨fun xs => xs = [.agg (cX (deC (xs.getD 0 .top) : Cfg)), I (deI (xs.getD 1 .top) : Int)] ∧ (fun (c : Cfg) (i : Int) => (bigC c)) (deC (xs.getD 0 .top) : Cfg) (deI (xs.getD 1 .top) : Int), fun xs => (fun (c : Cfg) (i : Int) => ((B true, []) : X × List Ob)) (deC (xs.getD 0 .top) : Cfg) (deI (xs.getD 1 .top) : Int)⟩
theorem F4_in {xs : List X} (h : F4.pre xs) : ∃ (c : Cfg) (i : Int), xs = [.agg (cX c), I i] ∧ (bigC c) := ⟨_, _, h.1, h.2⟩
theorem F4_res (c : Cfg) (i : Int) : F4.res [.agg (cX c), I i] = (B true, []) := by simp [F4]
theorem F4_mk (c : Cfg) (i : Int) (h : bigC c) : F4.pre [.agg (cX c), I i] := by simpa [F4] using h
theorem c4 : GenCA K Tryz.prog 4 F4 := by
  refine contractA Tryz.mix K [(9, F9), (11, F11), (14, F15), (15, F15), (13, F13)] [] (by simp [c9, c11, c14, c15, c13]) (by simp) Tryz.func4 rfl (by decide) ?_
  intro xs hxs
  obtain ⟨c, i, rfl, hp⟩ := F4_in hxs
  rw [F4_res]
  refine ⟨by rw [Tryz.ntmps4]; simp, ?_⟩
  have hbc := hp
  by_cases h1 : (1048576 : Int) < cSz c
  · simp -implicitDefEqProofs [Tryz.f4, F9, F11, F15, F15, F13, List.lookup_cons, and_assoc, pick_and, pick_or, if_and, if_or, rbR_iR, rbR_nil, rbOb_mk, iR_mf, pickOk, -List.all_eq_true, iR_ok, ok0, iR_eq_nil, deIs_nil, hbc, h1]
    refine fin_pure (by simp) ?_
    simp -implicitDefEqProofs [pur2_i, pur2_b, pur2_s, pur2_nil, pur2_sl, pur2_tup, rn2_tup, rn2_agg, rn2_osl, rn1_v, rn1_osl, rn1_agg, rn0_v, rn0_sl, rn0, pickObs, pur_v, pur_b, pur_s, pur_nil, pur_sl, deI, deIs_sl]
  have hz1 : 0 ≤ cSz c := by unfold cSz; omega
  have e1 : ¬ (1048576 : Int) - cSz c < 0 := by omega
  have e1' : cSz c ≤ 1048576 := by omega
  have hoc := okC_of h1 (Int.le_refl _)
  have hR : ∃ a b d, lpR c i = .tup [I a, I b, B d] := by
    unfold lpR
    split
    · exact ⟨_, _, _, rfl⟩
    · exact ⟨_, _, _, rfl⟩
  obtain ⟨a, b, d, hK⟩ := hR
  simp -implicitDefEqProofs [Tryz.f4, F15, hK, F9, F11, F13, List.lookup_cons, and_assoc, pick_and, pick_or, if_and, if_or, rbR_iR, rbR_nil, rbOb_mk, iR_mf, pickOk, -List.all_eq_true, iR_ok, ok0, iR_eq_nil, deIs_nil, hbc, h1, e1, e1', hoc, cO, cOb, tOb, tR_rb, pur2_tup, pur2_b, pur2_i, pur2_sl, pur_sl, pur_b, pur_v, pur_oslE, pur2osl', purnil2']
  refine drawP_pu _ (by decide) ?_
  simp -implicitDefEqProofs [F15, hK, F9, F11, F13, List.lookup_cons, and_assoc, pick_and, pick_or, if_and, if_or, rbR_iR, rbR_nil, rbOb_mk, iR_mf, pickOk, -List.all_eq_true, iR_ok, ok0, iR_eq_nil, deIs_nil, hbc, h1, e1, e1', hoc, cO, cOb, tOb, tR_rb, pur2_tup, pur2_b, pur2_i, pur2_sl, pur_sl, pur_b, pur_v, pur_oslE, pur2osl', purnil2']
  refine fin_pure (by simp) ?_
  simp -implicitDefEqProofs [pur2_i, pur2_b, pur2_s, pur2_nil, pur2_sl, pur2_tup, rn2_tup, rn2_agg, rn2_osl, rn1_v, rn1_osl, rn1_agg, rn0_v, rn0_sl, rn0, pickObs, pur_v, pur_b, pur_s, pur_nil, pur_sl, deI, deIs_sl]
def F6 : Fun := ⟨fun xs => xs = [.agg (cX (deC (xs.getD 0 .top) : Cfg))] ∧ (fun (c : Cfg) => (bigC c)) (deC (xs.getD 0 .top) : Cfg), fun xs => (fun (c : Cfg) => ((B true, []) : X × List Ob)) (deC (xs.getD 0 .top) : Cfg)⟩
theorem F6_in {xs : List X} (h : F6.pre xs) : ∃ (c : Cfg), xs = [.agg (cX c)] ∧ (bigC c) := ⟨_, h.1, h.2⟩
theorem F6_res (c : Cfg) : F6.res [.agg (cX c)] = (B true, []) := by simp [F6]
theorem F6_mk (c : Cfg) (h : bigC c) : F6.pre [.agg (cX c)] := by simpa [F6] using h
theorem c6 : GenCA K Tryz.prog 6 F6 := by
  refine contractA Tryz.mix K [(9, F9), (11, F11), (18, F19), (19, F19), (20, F20), (13, F13), (23, F23)] [(21, M21), (22, M22)] (by simp [c9, c11, c18, c19, c20, c13, c23]) (by simp [m21, m22]) Tryz.func6 rfl (by decide) ?_
  intro xs hxs
  obtain ⟨c, rfl, hp⟩ := F6_in hxs
  rw [F6_res]
  refine ⟨by rw [Tryz.ntmps6]; simp, ?_⟩
  have hbc := hp
  by_cases h1 : (1048576 : Int) < cSz c
  · simp -implicitDefEqProofs [Tryz.f6, F9, F11, F19, F19, F20, F13, F23, M21, M22, List.lookup_cons, and_assoc, pick_and, pick_or, if_and, if_or, rbR_iR, rbR_nil, rbOb_mk, iR_mf, pickOk, -List.all_eq_true, iR_ok, ok0, iR_eq_nil, deIs_nil, hbc, h1]
    refine fin_pure (by simp) ?_
    simp -implicitDefEqProofs [pur2_i, pur2_b, pur2_s, pur2_nil, pur2_sl, pur2_tup, rn2_tup, rn2_agg, rn2_osl, rn1_v, rn1_osl, rn1_agg, rn0_v, rn0_sl, rn0, pickObs, pur_v, pur_b, pur_s, pur_nil, pur_sl, deI, deIs_sl]
  have hz1 : 0 ≤ cSz c := by unfold cSz; omega
  have e1 : ¬ (1048576 : Int) - cSz c < 0 := by omega
  have e1' : cSz c ≤ 1048576 := by omega
  have hoc := okC_of h1 (Int.le_refl _)
  have g1 := hoc.1
  have g2 := hoc.2.1
  have hmu : M21.mu = [true] := rfl
  have hmi : M22.mu = [true] := rfl
  have u1 : (c.cls.length : Int) ≤ 1048576 := by omega
  have u2 : (c.fil.length : Int) ≤ 1048576 := by omega
  have hpe : ∀ (x : Cfg) (k : Int), okC x → 0 ≤ k → k ≤ 549755813888 → M21.pre [.agg [.v (.string x.name), .osl 0 0, .osl 1 0, I x.dflt], .v (.int .i64 k)] [⟨70, 8, 0, tR x.cls, false, true, none⟩, ⟨81, 5, 0, tR x.fil, false, true, none⟩] := fun x k h a b => ⟨x, k, rfl, rfl, h, a, b⟩
  have hre : ∀ (x : Cfg) (k : Int), M21.res [.agg [.v (.string x.name), .osl 0 0, .osl 1 0, I x.dflt], .v (.int .i64 k)] [⟨70, 8, 0, tR x.cls, false, true, none⟩, ⟨81, 5, 0, tR x.fil, false, true, none⟩] = (I (k + 8 * (x.cls.length : Int) + 5 * (x.fil.length : Int)), [⟨70, 8, 0, tR (Cls.mkL k x.cls.length), false, true, none⟩, ⟨81, 5, 0, tR (Fil.mkL (k + 8 * (x.cls.length : Int)) x.fil.length), false, true, none⟩]) := fun x k => by
    simp [M21, cMk, obl, tOb, deI]
  have k0 : (0 : Int) ≤ 1 + 8 * c.cls.length + 5 * c.fil.length := by omega
  have k1 : (1 : Int) + 8 * c.cls.length + 5 * c.fil.length ≤ 549755813888 := by omega
  have k2 : ¬ (1 : Int) + 8 * c.cls.length + 5 * c.fil.length < 0 := by omega
  have hpi0 : M22.pre [.sl [], .v (.int .i64 1)] [] := .inr ⟨1, rfl, rfl, by omega, by omega⟩
  have hri0 : M22.res [.sl [], .v (.int .i64 1)] [] = (I 1, []) := rfl
  have hpi1 : ∀ L : List Int, L.length ≤ 1048576 → M22.pre [.osl 0 0, .v (.int .i64 1)] [⟨3, 1, 0, iR L, false, true, none⟩] := fun L h => .inl ⟨L, 1, rfl, rfl, h, by omega, by omega⟩
  have hri1 : ∀ L : List Int, M22.res [.osl 0 0, .v (.int .i64 1)] [⟨3, 1, 0, iR L, false, true, none⟩] = (I (1 + (L.length : Int)), [⟨3, 1, 0, iR (upI 1 L.length), false, true, none⟩]) := fun L => by
    simp [M22, iOb, deI]
  cases hA : isCfg c with
  | false =>
    have hK : wkR c = (.tup [.sl [], B false], []) := by simp [wkR, hA]
    simp -implicitDefEqProofs [Tryz.f6, F19, F20, F23, hK, hmu, hmi, hpe, hre, hpi0, hri0, hpi1, hri1, k0, k1, k2, ints, iOb, F9, F11, F13, List.lookup_cons, and_assoc, pick_and, pick_or, if_and, if_or, rbR_iR, rbR_nil, rbOb_mk, iR_mf, pickOk, -List.all_eq_true, iR_ok, ok0, iR_eq_nil, deIs_nil, hbc, h1, e1, e1', hoc, cO, cOb, tOb, tR_rb, pur2_tup, pur2_b, pur2_i, pur2_sl, pur_sl, pur_b, pur_v, pur_oslE, pur2osl', purnil2']
    refine drawP_pu _ (by decide) ?_
    simp -implicitDefEqProofs [Tryz.f6, F19, F20, F23, hK, hmu, hmi, hpe, hre, hpi0, hri0, hpi1, hri1, k0, k1, k2, ints, iOb, F9, F11, F13, List.lookup_cons, and_assoc, pick_and, pick_or, if_and, if_or, rbR_iR, rbR_nil, rbOb_mk, iR_mf, pickOk, -List.all_eq_true, iR_ok, ok0, iR_eq_nil, deIs_nil, hbc, h1, e1, e1', hoc, cO, cOb, tOb, tR_rb, pur2_tup, pur2_b, pur2_i, pur2_sl, pur_sl, pur_b, pur_v, pur_oslE, pur2osl', purnil2']
    refine fin_pure (by simp) ?_
    simp -implicitDefEqProofs [pur2_i, pur2_b, pur2_s, pur2_nil, pur2_sl, pur2_tup, rn2_tup, rn2_agg, rn2_osl, rn1_v, rn1_osl, rn1_agg, rn0_v, rn0_sl, rn0, pickObs, pur_v, pur_b, pur_s, pur_nil, pur_sl, deI, deIs_sl]
  | true =>
    obtain ⟨L, hL⟩ : ∃ L, nI (walk c.cls (topN c.cls)) = L := ⟨_, rfl⟩
    have hK : wkR c = (.tup [.osl 0 0, B true], [⟨3, 1, 0, iR L, false, true, none⟩]) := by rw [← hL]; simp [wkR, hA, iOb]
    have hkl2 : L.length ≤ 1048576 := by
      rw [← hL, nI_len]
      have := walk_len (tree_of (c := c) (by rw [← isCfg_eq]; exact hA)) (top_spec hA).1
      omega
    have hk5 : (0 : Int) ≤ 1 + L.length := by omega
    have hk4 : ¬ (1 : Int) + L.length < 0 := by omega
    simp -implicitDefEqProofs [Tryz.f6, F19, F20, F23, hK, hmu, hmi, hpe, hre, hpi0, hri0, hpi1, hri1, k0, k1, k2, ints, iOb, F9, F11, F13, List.lookup_cons, and_assoc, pick_and, pick_or, if_and, if_or, rbR_iR, rbR_nil, rbOb_mk, iR_mf, pickOk, -List.all_eq_true, iR_ok, ok0, iR_eq_nil, deIs_nil, hbc, h1, e1, e1', hoc, cO, cOb, tOb, tR_rb, pur2_tup, pur2_b, pur2_i, pur2_sl, pur_sl, pur_b, pur_v, pur_oslE, pur2osl', purnil2', hkl2, hk5, hk4]
    refine drawP_pu _ (by decide) ?_
    simp -implicitDefEqProofs [Tryz.f6, F19, F20, F23, hK, hmu, hmi, hpe, hre, hpi0, hri0, hpi1, hri1, k0, k1, k2, ints, iOb, F9, F11, F13, List.lookup_cons, and_assoc, pick_and, pick_or, if_and, if_or, rbR_iR, rbR_nil, rbOb_mk, iR_mf, pickOk, -List.all_eq_true, iR_ok, ok0, iR_eq_nil, deIs_nil, hbc, h1, e1, e1', hoc, cO, cOb, tOb, tR_rb, pur2_tup, pur2_b, pur2_i, pur2_sl, pur_sl, pur_b, pur_v, pur_oslE, pur2osl', purnil2', hkl2, hk5, hk4]
    refine fin_pure (by simp) ?_
    simp -implicitDefEqProofs [pur2_i, pur2_b, pur2_s, pur2_nil, pur2_sl, pur2_tup, rn2_tup, rn2_agg, rn2_osl, rn1_v, rn1_osl, rn1_agg, rn0_v, rn0_sl, rn0, pickObs, pur_v, pur_b, pur_s, pur_nil, pur_sl, deI, deIs_sl]
end Go.Proofs
