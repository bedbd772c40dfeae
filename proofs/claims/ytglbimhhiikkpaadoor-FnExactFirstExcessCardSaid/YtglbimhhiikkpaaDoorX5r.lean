/-
  What is proved here: the contracts of the laws of CeilsHold and FirstExcess. Condition: none.
-/
import Derived.Test.YtglbimhhiikkpaaDoorX4r
import Derived.Test.YtglbimhhiikkpaaDoorLCr
namespace Go.Proofs
open Go.Abs
set_option linter.unusedSimpArgs false
set_option linter.unnecessarySimpa false
set_option linter.unusedVariables false
set_option maxHeartbeats 8000000
set_option maxRecDepth 20000

def F4 : Fun := ⟨fun xs => xs = [.agg (cX (deC (xs.getD 0 .top) : Cfg)), .sl (tR (deT (xs.getD 1 .top) : List Evt))] ∧ (fun (c : Cfg) (l : List Evt) => (bigC c ∧ l.length ≤ 9223372036854775807)) (deC (xs.getD 0 .top) : Cfg) (deT (xs.getD 1 .top) : List Evt), fun xs => (fun (c : Cfg) (l : List Evt) => ((B true, []) : X × List Ob)) (deC (xs.getD 0 .top) : Cfg) (deT (xs.getD 1 .top) : List Evt)⟩
theorem F4_in {xs : List X} (h : F4.pre xs) : ∃ (c : Cfg) (l : List Evt), xs = [.agg (cX c), .sl (tR l)] ∧ (bigC c ∧ l.length ≤ 9223372036854775807) := ⟨_, _, h.1, h.2⟩
theorem F4_res (c : Cfg) (l : List Evt) : F4.res [.agg (cX c), .sl (tR l)] = (B true, []) := by simp [F4]
theorem F4_mk (c : Cfg) (l : List Evt) (h : bigC c ∧ l.length ≤ 9223372036854775807) : F4.pre [.agg (cX c), .sl (tR l)] := by simpa [F4] using h
theorem c4 : GenCA K Tryd.prog 4 F4 := by
  refine contractA Tryd.mix K [(9, F9), (18, F18), (11, F11), (20, F20), (19, F21), (21, F21), (14, F14), (22, F22)] [] (by simp [c9, c18, c11, c20, c19, c21, c14, c22]) (by simp) Tryd.func4 rfl (by decide) ?_
  intro xs hxs
  obtain ⟨c, l, rfl, hp⟩ := F4_in hxs
  rw [F4_res]
  refine ⟨by rw [Tryd.ntmps4]; simp, ?_⟩
  obtain ⟨hbc, hbl⟩ := hp
  by_cases h1 : (1048576 : Int) < cSz c
  · simp -implicitDefEqProofs [Tryd.f4, F9, F18, F11, F20, F21, F21, F14, F22, List.lookup_cons, and_assoc, pick_and, pick_or, if_and, if_or, rbR_iR, rbR_nil, rbOb_mk, iR_mf, pickOk, -List.all_eq_true, iR_ok, ok0, iR_eq_nil, deIs_nil, hbc, h1]
    refine fin_pure (by simp) ?_
    simp -implicitDefEqProofs [pur2_i, pur2_b, pur2_s, pur2_nil, pur2_sl, pur2_tup, rn2_tup, rn2_agg, rn2_osl, rn1_v, rn1_osl, rn1_agg, rn0_v, rn0_sl, rn0, pickObs, pur_v, pur_b, pur_s, pur_nil, pur_sl, deI, deIs_sl]
  have hz1 : 0 ≤ cSz c := by unfold cSz; omega
  have e1 : ¬ (1048576 : Int) - cSz c < 0 := by omega
  have e1' : cSz c ≤ 1048576 := by omega
  have e2 : (1048576 : Int) - cSz c ≤ 1048576 := by omega
  by_cases h2 : (1048576 : Int) - cSz c < l.length
  · simp -implicitDefEqProofs [Tryd.f4, F9, F18, F11, F20, F21, F21, F14, F22, List.lookup_cons, and_assoc, pick_and, pick_or, if_and, if_or, rbR_iR, rbR_nil, rbOb_mk, iR_mf, pickOk, -List.all_eq_true, iR_ok, ok0, iR_eq_nil, deIs_nil, hbc, hbl, h1, e1, e1', e2, hz1, h2]
    refine fin_pure (by simp) ?_
    simp -implicitDefEqProofs [pur2_i, pur2_b, pur2_s, pur2_nil, pur2_sl, pur2_tup, rn2_tup, rn2_agg, rn2_osl, rn1_v, rn1_osl, rn1_agg, rn0_v, rn0_sl, rn0, pickObs, pur_v, pur_b, pur_s, pur_nil, pur_sl, deI, deIs_sl]
  have hoc := okC_of h1 (Int.le_refl _)
  have hol : l.length ≤ 1048576 := by omega
  have e3 : ¬ (1048576 : Int) - cSz c - l.length < 0 := by omega
  have g1 := hoc.1
  have g2 := hoc.2.1
  cases hA : fitB c l with
  | false =>
    have hK : chR c l = .tup [B false, B false] := by rw [chR, hA]; rfl
    simp -implicitDefEqProofs [Tryd.f4, F9, F18, F11, F20, F21, F14, F22, idx2b, List.lookup_cons, and_assoc, pick_and, pick_or, if_and, if_or, rbR_iR, rbR_nil, rbOb_mk, iR_mf, pickOk, -List.all_eq_true, iR_ok, ok0, iR_eq_nil, deIs_nil, hbc, hbl, h1, e1, e1', e2, e3, hz1, h2, hoc, hol, hK, cO, cOb, tOb, tR_rb, pur2_tup, pur2_b, pur2_i, pur2_sl, pur_sl, pur_b, pur_v, pur_oslE]
    refine drawP_pu _ (by decide) ?_
    simp -implicitDefEqProofs [Tryd.f4, F9, F18, F11, F20, F21, F14, F22, idx2b, List.lookup_cons, and_assoc, pick_and, pick_or, if_and, if_or, rbR_iR, rbR_nil, rbOb_mk, iR_mf, pickOk, -List.all_eq_true, iR_ok, ok0, iR_eq_nil, deIs_nil, hbc, hbl, h1, e1, e1', e2, e3, hz1, h2, hoc, hol, hK, cO, cOb, tOb, tR_rb, pur2_tup, pur2_b, pur2_i, pur2_sl, pur_sl, pur_b, pur_v, pur_oslE]
    refine fin_pure (by simp) ?_
    simp -implicitDefEqProofs [pur2_i, pur2_b, pur2_s, pur2_nil, pur2_sl, pur2_tup, rn2_tup, rn2_agg, rn2_osl, rn1_v, rn1_osl, rn1_agg, rn0_v, rn0_sl, rn0, pickObs, pur_v, pur_b, pur_s, pur_nil, pur_sl, deI, deIs_sl]
  | true =>
    have hK : chR c l = .tup [B (exC c l 0).isNone, B true] := by rw [chR, hA]; rfl
    simp -implicitDefEqProofs [Tryd.f4, F9, F18, F11, F20, F21, F14, F22, idx2b, List.lookup_cons, and_assoc, pick_and, pick_or, if_and, if_or, rbR_iR, rbR_nil, rbOb_mk, iR_mf, pickOk, -List.all_eq_true, iR_ok, ok0, iR_eq_nil, deIs_nil, hbc, hbl, h1, e1, e1', e2, e3, hz1, h2, hoc, hol, hK, cO, cOb, tOb, tR_rb, pur2_tup, pur2_b, pur2_i, pur2_sl, pur_sl, pur_b, pur_v, pur_oslE]
    refine drawP_pu _ (by decide) ?_
    simp -implicitDefEqProofs [Tryd.f4, F9, F18, F11, F20, F21, F14, F22, idx2b, List.lookup_cons, and_assoc, pick_and, pick_or, if_and, if_or, rbR_iR, rbR_nil, rbOb_mk, iR_mf, pickOk, -List.all_eq_true, iR_ok, ok0, iR_eq_nil, deIs_nil, hbc, hbl, h1, e1, e1', e2, e3, hz1, h2, hoc, hol, hK, cO, cOb, tOb, tR_rb, pur2_tup, pur2_b, pur2_i, pur2_sl, pur_sl, pur_b, pur_v, pur_oslE]
    refine fin_pure (by simp) ?_
    simp -implicitDefEqProofs [pur2_i, pur2_b, pur2_s, pur2_nil, pur2_sl, pur2_tup, rn2_tup, rn2_agg, rn2_osl, rn1_v, rn1_osl, rn1_agg, rn0_v, rn0_sl, rn0, pickObs, pur_v, pur_b, pur_s, pur_nil, pur_sl, deI, deIs_sl]
def F5 : Fun := ⟨fun xs => xs = [.agg (cX (deC (xs.getD 0 .top) : Cfg)), .sl (tR (deT (xs.getD 1 .top) : List Evt))] ∧ (fun (c : Cfg) (l : List Evt) => (bigC c ∧ l.length ≤ 9223372036854775807)) (deC (xs.getD 0 .top) : Cfg) (deT (xs.getD 1 .top) : List Evt), fun xs => (fun (c : Cfg) (l : List Evt) => ((B true, []) : X × List Ob)) (deC (xs.getD 0 .top) : Cfg) (deT (xs.getD 1 .top) : List Evt)⟩
theorem F5_in {xs : List X} (h : F5.pre xs) : ∃ (c : Cfg) (l : List Evt), xs = [.agg (cX c), .sl (tR l)] ∧ (bigC c ∧ l.length ≤ 9223372036854775807) := ⟨_, _, h.1, h.2⟩
theorem F5_res (c : Cfg) (l : List Evt) : F5.res [.agg (cX c), .sl (tR l)] = (B true, []) := by simp [F5]
theorem F5_mk (c : Cfg) (l : List Evt) (h : bigC c ∧ l.length ≤ 9223372036854775807) : F5.pre [.agg (cX c), .sl (tR l)] := by simpa [F5] using h
theorem c5 : GenCA K Tryd.prog 5 F5 := by
  refine contractA Tryd.mix K [(9, F9), (18, F18), (11, F11), (20, F20), (23, F24), (24, F24), (14, F14), (22, F22)] [] (by simp [c9, c18, c11, c20, c23, c24, c14, c22]) (by simp) Tryd.func5 rfl (by decide) ?_
  intro xs hxs
  obtain ⟨c, l, rfl, hp⟩ := F5_in hxs
  rw [F5_res]
  refine ⟨by rw [Tryd.ntmps5]; simp, ?_⟩
  obtain ⟨hbc, hbl⟩ := hp
  by_cases h1 : (1048576 : Int) < cSz c
  · simp -implicitDefEqProofs [Tryd.f5, F9, F18, F11, F20, F24, F24, F14, F22, List.lookup_cons, and_assoc, pick_and, pick_or, if_and, if_or, rbR_iR, rbR_nil, rbOb_mk, iR_mf, pickOk, -List.all_eq_true, iR_ok, ok0, iR_eq_nil, deIs_nil, hbc, h1]
    refine fin_pure (by simp) ?_
    simp -implicitDefEqProofs [pur2_i, pur2_b, pur2_s, pur2_nil, pur2_sl, pur2_tup, rn2_tup, rn2_agg, rn2_osl, rn1_v, rn1_osl, rn1_agg, rn0_v, rn0_sl, rn0, pickObs, pur_v, pur_b, pur_s, pur_nil, pur_sl, deI, deIs_sl]
  have hz1 : 0 ≤ cSz c := by unfold cSz; omega
  have e1 : ¬ (1048576 : Int) - cSz c < 0 := by omega
  have e1' : cSz c ≤ 1048576 := by omega
  have e2 : (1048576 : Int) - cSz c ≤ 1048576 := by omega
  by_cases h2 : (1048576 : Int) - cSz c < l.length
  · simp -implicitDefEqProofs [Tryd.f5, F9, F18, F11, F20, F24, F24, F14, F22, List.lookup_cons, and_assoc, pick_and, pick_or, if_and, if_or, rbR_iR, rbR_nil, rbOb_mk, iR_mf, pickOk, -List.all_eq_true, iR_ok, ok0, iR_eq_nil, deIs_nil, hbc, hbl, h1, e1, e1', e2, hz1, h2]
    refine fin_pure (by simp) ?_
    simp -implicitDefEqProofs [pur2_i, pur2_b, pur2_s, pur2_nil, pur2_sl, pur2_tup, rn2_tup, rn2_agg, rn2_osl, rn1_v, rn1_osl, rn1_agg, rn0_v, rn0_sl, rn0, pickObs, pur_v, pur_b, pur_s, pur_nil, pur_sl, deI, deIs_sl]
  have hoc := okC_of h1 (Int.le_refl _)
  have hol : l.length ≤ 1048576 := by omega
  have e3 : ¬ (1048576 : Int) - cSz c - l.length < 0 := by omega
  have g1 := hoc.1
  have g2 := hoc.2.1
  have hA : ∃ i j k b, feR c l = .tup [I i, I j, I k, B b] := by
    unfold feR exR
    split
    · split <;> exact ⟨_, _, _, _, rfl⟩
    · exact ⟨_, _, _, _, rfl⟩
  obtain ⟨i, j, k, b, hK⟩ := hA
  · skip
    simp -implicitDefEqProofs [Tryd.f5, F9, F18, F11, F20, F24, F14, F22, idx2b, List.lookup_cons, and_assoc, pick_and, pick_or, if_and, if_or, rbR_iR, rbR_nil, rbOb_mk, iR_mf, pickOk, -List.all_eq_true, iR_ok, ok0, iR_eq_nil, deIs_nil, hbc, hbl, h1, e1, e1', e2, e3, hz1, h2, hoc, hol, hK, cO, cOb, tOb, tR_rb, pur2_tup, pur2_b, pur2_i, pur2_sl, pur_sl, pur_b, pur_v, pur_oslE]
    refine drawP_pu _ (by decide) ?_
    simp -implicitDefEqProofs [Tryd.f5, F9, F18, F11, F20, F24, F14, F22, idx2b, List.lookup_cons, and_assoc, pick_and, pick_or, if_and, if_or, rbR_iR, rbR_nil, rbOb_mk, iR_mf, pickOk, -List.all_eq_true, iR_ok, ok0, iR_eq_nil, deIs_nil, hbc, hbl, h1, e1, e1', e2, e3, hz1, h2, hoc, hol, hK, cO, cOb, tOb, tR_rb, pur2_tup, pur2_b, pur2_i, pur2_sl, pur_sl, pur_b, pur_v, pur_oslE]
    refine fin_pure (by simp) ?_
    simp -implicitDefEqProofs [pur2_i, pur2_b, pur2_s, pur2_nil, pur2_sl, pur2_tup, rn2_tup, rn2_agg, rn2_osl, rn1_v, rn1_osl, rn1_agg, rn0_v, rn0_sl, rn0, pickObs, pur_v, pur_b, pur_s, pur_nil, pur_sl, deI, deIs_sl]
end Go.Proofs
