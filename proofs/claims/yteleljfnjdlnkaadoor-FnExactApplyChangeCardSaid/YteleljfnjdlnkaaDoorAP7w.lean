/-
  What is proved here: contracts of both ApplyChange. Condition: none.
-/
import Derived.Test.YteleljfnjdlnkaaDoorAP5w
import Derived.Test.YteleljfnjdlnkaaDoorAP6w
import Derived.Test.YteleljfnjdlnkaaDoorQK1bw
import Derived.Test.YteleljfnjdlnkaaDoorAPCw
namespace Go.Proofs
open Go.Abs Go.Srt
set_option linter.unusedSimpArgs false
set_option linter.unnecessarySimpa false
set_option linter.unusedVariables false
set_option maxHeartbeats 8000000
set_option maxRecDepth 20000

def apA (c : Cfg) (x : Chg) : Option Cfg := if (ordB c && isCh x) = true then apR c x else none
def F9 : Fun := ⟨fun xs => xs = [.agg (cX (deC (xs.getD 0 .top) : Cfg)), .agg (rX (deA (xs.getD 1 .top) : Chg))] ∧ (fun (c : Cfg) (x : Chg) => (okC c ∧ x.nm.size ≤ 1048576)) (deC (xs.getD 0 .top) : Cfg) (deA (xs.getD 1 .top) : Chg), fun xs => (fun (c : Cfg) (x : Chg) => ((apX (apA c x)) : X × List Ob)) (deC (xs.getD 0 .top) : Cfg) (deA (xs.getD 1 .top) : Chg)⟩
theorem F9_in {xs : List X} (h : F9.pre xs) : ∃ (c : Cfg) (x : Chg), xs = [.agg (cX c), .agg (rX x)] ∧ (okC c ∧ x.nm.size ≤ 1048576) := ⟨_, _, h.1, h.2⟩
theorem F9_res (c : Cfg) (x : Chg) : F9.res [.agg (cX c), .agg (rX x)] = (apX (apA c x)) := by simp [F9]
theorem F9_mk (c : Cfg) (x : Chg) (h : okC c ∧ x.nm.size ≤ 1048576) : F9.pre [.agg (cX c), .agg (rX x)] := by simpa [F9] using h
theorem c9 : GenCA K Tryd.prog 9 F9 := by
  refine contractA Tryd.mix K [(22, F15), (23, F23), (24, F24)] [] (by simp [c22, c23, c24]) (by simp) Tryd.func9 rfl (by decide) ?_
  intro xs hxs
  obtain ⟨c, x, rfl, hp⟩ := F9_in hxs
  rw [F9_res]
  refine ⟨by rw [Tryd.ntmps9]; simp, ?_⟩
  obtain ⟨ho, hn⟩ := hp
  cases g1 : ordB c with
  | false =>
    have hA : apA c x = none := by simp [apA, g1]
    rw [hA, apX_none]
    simp -implicitDefEqProofs [Tryd.f9, F15, F23, F24, List.lookup_cons, and_assoc, pick_and, pick_or, if_and, if_or, ho, g1]
    refine fin_pure (by simp) ?_
    simp -implicitDefEqProofs [pur2_i, pur2_b, pur2_s, pur2_nil, pur2_sl, pur2_tup, rn2_tup, rn2_agg, rn2_osl, rn1_v, rn1_osl, rn1_agg, rn0_v, rn0_sl, rn0, pickObs, pur_v, pur_b, pur_s, pur_nil, pur_sl, deI, deIs_sl, purnil2]
  | true =>
  cases g2 : isCh x with
  | false =>
    have hA : apA c x = none := by simp [apA, g1, g2]
    rw [hA, apX_none]
    simp -implicitDefEqProofs [Tryd.f9, F15, F23, F24, List.lookup_cons, and_assoc, pick_and, pick_or, if_and, if_or, ho, hn, g1, g2]
    refine fin_pure (by simp) ?_
    simp -implicitDefEqProofs [pur2_i, pur2_b, pur2_s, pur2_nil, pur2_sl, pur2_tup, rn2_tup, rn2_agg, rn2_osl, rn1_v, rn1_osl, rn1_agg, rn0_v, rn0_sl, rn0, pickObs, pur_v, pur_b, pur_s, pur_nil, pur_sl, deI, deIs_sl, purnil2]
  | true =>
  have hA : apA c x = apR c x := by simp [apA, g1, g2]
  have hok := (isCh_ok g2 hn).1
  rw [hA]
  cases hr : apR c x with
  | none =>
    rw [apX_none]
    simp -implicitDefEqProofs [Tryd.f9, F15, F23, F24, List.lookup_cons, and_assoc, pick_and, pick_or, if_and, if_or, ho, hn, g1, g2, hok, hr, apX_none]
    refine fin_pure (by simp) ?_
    simp -implicitDefEqProofs [pur2_i, pur2_b, pur2_s, pur2_nil, pur2_sl, pur2_tup, rn2_tup, rn2_agg, rn2_osl, rn1_v, rn1_osl, rn1_agg, rn0_v, rn0_sl, rn0, pickObs, pur_v, pur_b, pur_s, pur_nil, pur_sl, deI, deIs_sl, purnil2]
  | some d =>
    rw [apX_some]
    simp -implicitDefEqProofs [Tryd.f9, F15, F23, F24, List.lookup_cons, and_assoc, pick_and, pick_or, if_and, if_or, ho, hn, g1, g2, hok, hr, apX_some, obCls, obFil]
    refine fin_own [3, 4] (by simp [pickOk, -List.all_eq_true, tR_ok]) ?_
    simp -implicitDefEqProofs [pur2_i, pur2_b, pur2_s, pur2_nil, pur2_sl, pur2_tup, rn2_tup, rn2_agg, rn2_osl, rn1_v, rn1_osl, rn1_agg, rn0_v, rn0_sl, rn0, pickObs, pur_v, pur_b, pur_s, pur_nil, pur_sl, deI, deIs_sl, obCls, obFil]
def F6 : Fun := ⟨fun xs => xs = [.agg (cX (deC (xs.getD 0 .top) : Cfg)), .agg (rX (deA (xs.getD 1 .top) : Chg))] ∧ (fun (c : Cfg) (x : Chg) => (okC c ∧ x.nm.size ≤ 1048576)) (deC (xs.getD 0 .top) : Cfg) (deA (xs.getD 1 .top) : Chg), fun xs => (fun (c : Cfg) (x : Chg) => ((rpX (apA c x)) : X × List Ob)) (deC (xs.getD 0 .top) : Cfg) (deA (xs.getD 1 .top) : Chg)⟩
theorem F6_in {xs : List X} (h : F6.pre xs) : ∃ (c : Cfg) (x : Chg), xs = [.agg (cX c), .agg (rX x)] ∧ (okC c ∧ x.nm.size ≤ 1048576) := ⟨_, _, h.1, h.2⟩
theorem F6_res (c : Cfg) (x : Chg) : F6.res [.agg (cX c), .agg (rX x)] = (rpX (apA c x)) := by simp [F6]
theorem F6_mk (c : Cfg) (x : Chg) (h : okC c ∧ x.nm.size ≤ 1048576) : F6.pre [.agg (cX c), .agg (rX x)] := by simpa [F6] using h
theorem c6 : GenCA K Tryd.prog 6 F6 := by
  refine contractA Tryd.mix K [(15, F15), (16, F23), (17, F17)] [] (by simp [c15, c16, c17]) (by simp) Tryd.func6 rfl (by decide) ?_
  intro xs hxs
  obtain ⟨c, x, rfl, hp⟩ := F6_in hxs
  rw [F6_res]
  refine ⟨by rw [Tryd.ntmps6]; simp, ?_⟩
  obtain ⟨ho, hn⟩ := hp
  cases g1 : ordB c with
  | false =>
    have hA : apA c x = none := by simp [apA, g1]
    rw [hA, rpX_none]
    simp -implicitDefEqProofs [Tryd.f6, F15, F23, F17, List.lookup_cons, and_assoc, pick_and, pick_or, if_and, if_or, ho, g1]
    refine fin_pure (by simp) ?_
    simp -implicitDefEqProofs [pur2_i, pur2_b, pur2_s, pur2_nil, pur2_sl, pur2_tup, rn2_tup, rn2_agg, rn2_osl, rn1_v, rn1_osl, rn1_agg, rn0_v, rn0_sl, rn0, pickObs, pur_v, pur_b, pur_s, pur_nil, pur_sl, deI, deIs_sl, purnil2]
  | true =>
  cases g2 : isCh x with
  | false =>
    have hA : apA c x = none := by simp [apA, g1, g2]
    rw [hA, rpX_none]
    simp -implicitDefEqProofs [Tryd.f6, F15, F23, F17, List.lookup_cons, and_assoc, pick_and, pick_or, if_and, if_or, ho, hn, g1, g2]
    refine fin_pure (by simp) ?_
    simp -implicitDefEqProofs [pur2_i, pur2_b, pur2_s, pur2_nil, pur2_sl, pur2_tup, rn2_tup, rn2_agg, rn2_osl, rn1_v, rn1_osl, rn1_agg, rn0_v, rn0_sl, rn0, pickObs, pur_v, pur_b, pur_s, pur_nil, pur_sl, deI, deIs_sl, purnil2]
  | true =>
  have hA : apA c x = apR c x := by simp [apA, g1, g2]
  have hok := isCh_ok g2 hn
  rw [hA]
  cases hr : apR c x with
  | none =>
    rw [rpX_none]
    simp -implicitDefEqProofs [Tryd.f6, F15, F23, F17, List.lookup_cons, and_assoc, pick_and, pick_or, if_and, if_or, ho, hn, g1, g2, hok, hr, rpX_none]
    refine fin_pure (by simp) ?_
    simp -implicitDefEqProofs [pur2_i, pur2_b, pur2_s, pur2_nil, pur2_sl, pur2_tup, rn2_tup, rn2_agg, rn2_osl, rn1_v, rn1_osl, rn1_agg, rn0_v, rn0_sl, rn0, pickObs, pur_v, pur_b, pur_s, pur_nil, pur_sl, deI, deIs_sl, purnil2]
  | some d =>
    rw [rpX_some]
    simp -implicitDefEqProofs [Tryd.f6, F15, F23, F17, List.lookup_cons, and_assoc, pick_and, pick_or, if_and, if_or, ho, hn, g1, g2, hok, hr, rpX_some]
    refine fin_pure (by simp) ?_
    simp -implicitDefEqProofs [pur2_i, pur2_b, pur2_s, pur2_nil, pur2_sl, pur2_tup, rn2_tup, rn2_agg, rn2_osl, rn1_v, rn1_osl, rn1_agg, rn0_v, rn0_sl, rn0, pickObs, pur_v, pur_b, pur_s, pur_nil, pur_sl, deI, deIs_sl, purnil2]
end Go.Proofs
