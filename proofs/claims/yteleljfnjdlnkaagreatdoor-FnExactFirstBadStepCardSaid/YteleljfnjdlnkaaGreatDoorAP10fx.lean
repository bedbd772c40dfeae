/-
  What is proved here: the law of FirstBadStep. Condition: none.
-/
import Derived.Test.YteleljfnjdlnkaaGreatDoorAP9dx
import Derived.Test.YteleljfnjdlnkaaGreatDoorApB
namespace Go.Proofs
open Go.Abs Go.Srt
set_option linter.unusedSimpArgs false
set_option linter.unnecessarySimpa false
set_option linter.unusedVariables false
set_option maxHeartbeats 8000000
set_option maxRecDepth 20000
theorem szN_mem (l : List Chg) (x : Chg) (h : x ∈ l) : (x.nm.size : Int) ≤ szN l := by
  obtain ⟨a, b, rfl⟩ := List.append_of_mem h
  have h1 := szN_pos a
  have h2 := szN_pos b
  have e : szN (x :: b) = szN [x] + szN b := szN_app [x] b
  rw [szN_app, e, szN_one]
  omega
theorem okL2_of {l : List Chg} (h : chSz l ≤ 1048576) : okL2 l := by
  have hp := szN_pos l
  unfold chSz at h
  refine ⟨by omega, fun x hx => ?_⟩
  have := szN_mem _ _ hx
  omega
def F3 : Fun := ⟨fun xs => xs = [.agg (cX (deC (xs.getD 0 .top) : Cfg)), .sl (tR (deT (xs.getD 1 .top) : List Chg))] ∧ (fun (c : Cfg) (l : List Chg) => (bigC c ∧ bigH l)) (deC (xs.getD 0 .top) : Cfg) (deT (xs.getD 1 .top) : List Chg), fun xs => (fun (c : Cfg) (l : List Chg) => ((B true, []) : X × List Ob)) (deC (xs.getD 0 .top) : Cfg) (deT (xs.getD 1 .top) : List Chg)⟩
theorem F3_in {xs : List X} (h : F3.pre xs) : ∃ (c : Cfg) (l : List Chg), xs = [.agg (cX c), .sl (tR l)] ∧ (bigC c ∧ bigH l) := ⟨_, _, h.1, h.2⟩
theorem F3_res (c : Cfg) (l : List Chg) : F3.res [.agg (cX c), .sl (tR l)] = (B true, []) := by simp [F3]
theorem F3_mk (c : Cfg) (l : List Chg) (h : bigC c ∧ bigH l) : F3.pre [.agg (cX c), .sl (tR l)] := by simpa [F3] using h
theorem c3 : GenCA K Tryz.prog 3 F3 := by
  refine contractA Tryz.mix K [(6, F6), (7, F7), (9, F9), (10, F10), (8, F11), (11, F11), (12, F12), (13, F13)] [] (by simp [c6, c7, c9, c10, c8, c11, c12, c13]) (by simp) Tryz.func3 rfl (by decide) ?_
  intro xs hxs
  obtain ⟨c, l, rfl, hp⟩ := F3_in hxs
  rw [F3_res]
  refine ⟨by rw [Tryz.ntmps3]; simp, ?_⟩
  obtain ⟨hbc, hbl⟩ := hp
  by_cases h1 : (1048576 : Int) < cSz c
  · simp -implicitDefEqProofs [Tryz.f3, F6, F7, F9, F10, F11, F11, F12, F13, List.lookup_cons, and_assoc, pick_and, pick_or, if_and, if_or, rbR_iR, rbR_nil, rbOb_mk, iR_mf, pickOk, -List.all_eq_true, iR_ok, ok0, iR_eq_nil, deIs_nil, hbc, h1]
    refine fin_pure (by simp) ?_
    simp -implicitDefEqProofs [pur2_i, pur2_b, pur2_s, pur2_nil, pur2_sl, pur2_tup, rn2_tup, rn2_agg, rn2_osl, rn1_v, rn1_osl, rn1_agg, rn0_v, rn0_sl, rn0, pickObs, pur_v, pur_b, pur_s, pur_nil, pur_sl, deI, deIs_sl]
  have hz1 : 0 ≤ cSz c := by unfold cSz; omega
  have e1 : ¬ (1048576 : Int) - cSz c < 0 := by omega
  have e1' : cSz c ≤ 1048576 := by omega
  have e2 : (1048576 : Int) - cSz c ≤ 1048576 := by omega
  by_cases h2 : (1048576 : Int) - cSz c < chSz l
  · simp -implicitDefEqProofs [Tryz.f3, F6, F7, F9, F10, F11, F11, F12, F13, List.lookup_cons, and_assoc, pick_and, pick_or, if_and, if_or, rbR_iR, rbR_nil, rbOb_mk, iR_mf, pickOk, -List.all_eq_true, iR_ok, ok0, iR_eq_nil, deIs_nil, hbc, hbl, h1, e1, e1', e2, hz1, h2]
    refine fin_pure (by simp) ?_
    simp -implicitDefEqProofs [pur2_i, pur2_b, pur2_s, pur2_nil, pur2_sl, pur2_tup, rn2_tup, rn2_agg, rn2_osl, rn1_v, rn1_osl, rn1_agg, rn0_v, rn0_sl, rn0, pickObs, pur_v, pur_b, pur_s, pur_nil, pur_sl, deI, deIs_sl]
  have hoc := okC_of h1 (Int.le_refl _)
  have hol : okL2 l := okL2_of (by omega)
  have e3 : ¬ (1048576 : Int) - cSz c - chSz l < 0 := by omega
  have g1 := hoc.1
  have g2 := hoc.2.1
  have g3 := hol.1
  have hR : ∃ a b, fbX c l = .tup [I a, B b] := by
    unfold fbX
    split
    · exact ⟨_, _, rfl⟩
    · exact ⟨_, _, rfl⟩
  obtain ⟨a, b, hK⟩ := hR
  simp -implicitDefEqProofs [Tryz.f3, F11, hK, F6, F7, F9, F10, F12, F13, List.lookup_cons, and_assoc, pick_and, pick_or, if_and, if_or, rbR_iR, rbR_nil, rbOb_mk, iR_mf, pickOk, -List.all_eq_true, iR_ok, ok0, iR_eq_nil, deIs_nil, hbc, hbl, h1, e1, e1', e2, e3, hz1, h2, hoc, hol, hol.1, cO, cOb, tOb, tR_rb, pur2_tup, pur2_b, pur2_i, pur2_sl, pur_sl, pur_b, pur_v, pur_oslE, pur2osl, purnil2, obCls, obFil]
  refine drawP_pu _ (by decide) ?_
  simp -implicitDefEqProofs [Tryz.f3, F11, hK, F6, F7, F9, F10, F12, F13, List.lookup_cons, and_assoc, pick_and, pick_or, if_and, if_or, rbR_iR, rbR_nil, rbOb_mk, iR_mf, pickOk, -List.all_eq_true, iR_ok, ok0, iR_eq_nil, deIs_nil, hbc, hbl, h1, e1, e1', e2, e3, hz1, h2, hoc, hol, hol.1, cO, cOb, tOb, tR_rb, pur2_tup, pur2_b, pur2_i, pur2_sl, pur_sl, pur_b, pur_v, pur_oslE, pur2osl, purnil2, obCls, obFil]
  refine fin_pure (by simp) ?_
  simp -implicitDefEqProofs [pur2_i, pur2_b, pur2_s, pur2_nil, pur2_sl, pur2_tup, rn2_tup, rn2_agg, rn2_osl, rn1_v, rn1_osl, rn1_agg, rn0_v, rn0_sl, rn0, pickObs, pur_v, pur_b, pur_s, pur_nil, pur_sl, deI, deIs_sl]
end Go.Proofs
