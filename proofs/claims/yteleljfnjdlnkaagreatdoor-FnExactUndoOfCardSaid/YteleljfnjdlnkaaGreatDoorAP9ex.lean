/-
  What is proved here: contracts of both UndoOf. Condition: none.
-/
import Derived.Test.YteleljfnjdlnkaaGreatDoorAP9bx
import Derived.Test.YteleljfnjdlnkaaGreatDoorAP9cx
import Derived.Test.YteleljfnjdlnkaaGreatDoorDfA
namespace Go.Proofs
open Go.Abs Go.Srt
set_option linter.unusedSimpArgs false
set_option linter.unnecessarySimpa false
set_option linter.unusedVariables false
set_option maxHeartbeats 8000000
set_option maxRecDepth 20000

/-! ### the way back -/
def unX (c : Cfg) : Option Cfg → X × List Ob
  | some d => (.tup [.osl 0 0, B true], [chOb (diffL d c)])
  | none => (.tup [.sl [], B false], [])
def F20 : Fun := ⟨fun xs => xs = [.agg (cX (deC (xs.getD 0 .top) : Cfg)), .sl (tR (deT (xs.getD 1 .top) : List Chg))] ∧ (fun (c : Cfg) (l : List Chg) => (okC c ∧ okL2 l)) (deC (xs.getD 0 .top) : Cfg) (deT (xs.getD 1 .top) : List Chg), fun xs => (fun (c : Cfg) (l : List Chg) => ((unX c (apAll c l)) : X × List Ob)) (deC (xs.getD 0 .top) : Cfg) (deT (xs.getD 1 .top) : List Chg)⟩
theorem F20_in {xs : List X} (h : F20.pre xs) : ∃ (c : Cfg) (l : List Chg), xs = [.agg (cX c), .sl (tR l)] ∧ (okC c ∧ okL2 l) := ⟨_, _, h.1, h.2⟩
theorem F20_res (c : Cfg) (l : List Chg) : F20.res [.agg (cX c), .sl (tR l)] = (unX c (apAll c l)) := by simp [F20]
theorem F20_mk (c : Cfg) (l : List Chg) (h : okC c ∧ okL2 l) : F20.pre [.agg (cX c), .sl (tR l)] := by simpa [F20] using h
theorem c20 : GenCA K Tryz.prog 20 F20 := by
  refine contractA Tryz.mix K [(15, F15), (46, F46)] [] (by simp [c15, c46]) (by simp) Tryz.func20 rfl (by decide) ?_
  intro xs hxs
  obtain ⟨c, l, rfl, hp⟩ := F20_in hxs
  rw [F20_res]
  refine ⟨by rw [Tryz.ntmps20]; simp, ?_⟩
  obtain ⟨hc, hl⟩ := hp
  cases e : apAll c l with
  | none =>
    simp -implicitDefEqProofs [Tryz.f20, F15, F46, List.lookup_cons, and_assoc, pick_and, pick_or, if_and, if_or, hc, hl, e, allX, nilCf]
    refine fin_pure (by simp) ?_
    simp -implicitDefEqProofs [pur2_i, pur2_b, pur2_s, pur2_nil, pur2_sl, pur2_tup, rn2_tup, rn2_agg, rn2_osl, rn1_v, rn1_osl, rn1_agg, rn0_v, rn0_sl, rn0, pickObs, pur_v, pur_b, pur_s, pur_nil, pur_sl, deI, deIs_sl, unX]
  | some d =>
    have hg := apAll_ok hc hl e
    have hd := hg.1
    have g := hg.2
    have hdC : okC ⟨d.name, d.cls, d.fil, d.dflt⟩ := hd
    have gC : isCfg ⟨d.name, d.cls, d.fil, d.dflt⟩ = true := g
    simp -implicitDefEqProofs [Tryz.f20, F15, F46, List.lookup_cons, and_assoc, pick_and, pick_or, if_and, if_or, hc, hl, e, allX, cAg, cOk, obCls, obFil, pur2osl, hd, hdC, g, gC, chOb, tOb]
    refine fin_own [4] (by simp [pickOk, -List.all_eq_true, tR_ok]) ?_
    simp -implicitDefEqProofs [pur2_i, pur2_b, pur2_s, pur2_nil, pur2_sl, pur2_tup, rn2_tup, rn2_agg, rn2_osl, rn1_v, rn1_osl, rn1_agg, rn0_v, rn0_sl, rn0, pickObs, pur_v, pur_b, pur_s, pur_nil, pur_sl, deI, deIs_sl, unX, chOb, tOb]
theorem c19 : GenCA K Tryz.prog 19 F20 := by
  refine contractA Tryz.mix K [(14, F14), (45, F46)] [] (by simp [c14, c45]) (by simp) Tryz.func19 rfl (by decide) ?_
  intro xs hxs
  obtain ⟨c, l, rfl, hp⟩ := F20_in hxs
  rw [F20_res]
  refine ⟨by rw [Tryz.ntmps19]; simp, ?_⟩
  obtain ⟨hc, hl⟩ := hp
  cases e : apAll c l with
  | none =>
    simp -implicitDefEqProofs [Tryz.f19, F14, F46, List.lookup_cons, and_assoc, pick_and, pick_or, if_and, if_or, hc, hl, e, allY, nilCf]
    refine fin_pure (by simp) ?_
    simp -implicitDefEqProofs [pur2_i, pur2_b, pur2_s, pur2_nil, pur2_sl, pur2_tup, rn2_tup, rn2_agg, rn2_osl, rn1_v, rn1_osl, rn1_agg, rn0_v, rn0_sl, rn0, pickObs, pur_v, pur_b, pur_s, pur_nil, pur_sl, deI, deIs_sl, unX]
  | some d =>
    have hg := apAll_ok hc hl e
    have hd := hg.1
    have g := hg.2
    simp -implicitDefEqProofs [Tryz.f19, F14, F46, List.lookup_cons, and_assoc, pick_and, pick_or, if_and, if_or, hc, hl, e, allY, hd, g, chOb, tOb]
    refine fin_own [2] (by simp [pickOk, -List.all_eq_true, tR_ok]) ?_
    simp -implicitDefEqProofs [pur2_i, pur2_b, pur2_s, pur2_nil, pur2_sl, pur2_tup, rn2_tup, rn2_agg, rn2_osl, rn1_v, rn1_osl, rn1_agg, rn0_v, rn0_sl, rn0, pickObs, pur_v, pur_b, pur_s, pur_nil, pur_sl, deI, deIs_sl, unX, chOb, tOb]
end Go.Proofs
