/-
  What is proved here: the contract of the program's ApplyChanges. Condition: none.
-/
import Derived.Test.YteleljfnjdlnkaaGreatDoorAP9ax
namespace Go.Proofs
open Go.Abs Go.Srt
set_option linter.unusedSimpArgs false
set_option linter.unnecessarySimpa false
set_option linter.unusedVariables false
set_option maxHeartbeats 8000000
set_option maxRecDepth 20000

def F15 : Fun := ⟨fun xs => xs = [.agg (cX (deC (xs.getD 0 .top) : Cfg)), .sl (tR (deT (xs.getD 1 .top) : List Chg))] ∧ (fun (c : Cfg) (l : List Chg) => (okC c ∧ okL2 l)) (deC (xs.getD 0 .top) : Cfg) (deT (xs.getD 1 .top) : List Chg), fun xs => (fun (c : Cfg) (l : List Chg) => ((allX (apAll c l)) : X × List Ob)) (deC (xs.getD 0 .top) : Cfg) (deT (xs.getD 1 .top) : List Chg)⟩
theorem F15_in {xs : List X} (h : F15.pre xs) : ∃ (c : Cfg) (l : List Chg), xs = [.agg (cX c), .sl (tR l)] ∧ (okC c ∧ okL2 l) := ⟨_, _, h.1, h.2⟩
theorem F15_res (c : Cfg) (l : List Chg) : F15.res [.agg (cX c), .sl (tR l)] = (allX (apAll c l)) := by simp [F15]
theorem F15_mk (c : Cfg) (l : List Chg) (h : okC c ∧ okL2 l) : F15.pre [.agg (cX c), .sl (tR l)] := by simpa [F15] using h
theorem c15 : GenCA K Tryz.prog 15 F15 := by
  refine contractAN Tryz.mix K [(31, F31), (32, F32), (33, F33), (34, F34)] [] [(39, M39)]
    (by simp [c31, c32, c33, c34]) (by simp) (by simp [n39]) Tryz.func15 rfl (by decide) ?_
  intro xs hxs
  obtain ⟨c, l, rfl, hc, hl⟩ := F15_in hxs
  rw [F15_res]
  refine ⟨by rw [Tryz.ntmps15]; simp, ?_⟩
  have hoC : okC ⟨c.name, c.cls, c.fil, c.dflt⟩ := hc
  cases g1 : isCfg c with
  | false =>
    have e : apAll c l = none := by simp [apAll, g1]
    rw [e]
    simp -implicitDefEqProofs [Tryz.f15, List.lookup_cons, and_assoc, pick_and, pick_or, if_and, if_or, F31, hc, g1]
    refine fin_pure (by simp) ?_
    simp -implicitDefEqProofs [pur2_i, pur2_b, pur2_s, pur2_nil, pur2_sl, pur2_tup, rn2_tup, rn2_agg, rn2_osl, rn1_v, rn1_osl, rn1_agg, rn0_v, rn0_sl, rn0, pickObs, pur_v, pur_b, pur_s, pur_nil, pur_sl, deI, deIs_sl, allX, nilCf, purnil2]
  | true =>
  cases g2 : chsOk l with
  | false =>
    have e : apAll c l = none := by simp [apAll, g1, g2]
    rw [e]
    simp -implicitDefEqProofs [Tryz.f15, List.lookup_cons, and_assoc, pick_and, pick_or, if_and, if_or, F31, F32, hc, hl, g1, g2]
    refine fin_pure (by simp) ?_
    simp -implicitDefEqProofs [pur2_i, pur2_b, pur2_s, pur2_nil, pur2_sl, pur2_tup, rn2_tup, rn2_agg, rn2_osl, rn1_v, rn1_osl, rn1_agg, rn0_v, rn0_sl, rn0, pickObs, pur_v, pur_b, pur_s, pur_nil, pur_sl, deI, deIs_sl, allX, nilCf, purnil2]
  | true =>
  have hch : ∀ x ∈ l, isCh x = true := by
    simp only [chsOk, Bool.and_eq_true, List.all_eq_true] at g2
    exact g2.1
  have h100 : l.length ≤ 100 := by
    simp only [chsOk, Bool.and_eq_true, decide_eq_true_eq] at g2
    exact g2.2
  simp -implicitDefEqProofs [Tryz.f15, List.lookup_cons, and_assoc, pick_and, pick_or, if_and, if_or, F31, F32, F33, hc, hl, g1, g2, obCls, obFil]
  refine loopP_inv (fun s : Nat × Cfg => ⟨43, tl [(4, .optr 1 0 0 0), (6, .optr 2 0 0 0), (22, .sl (tR l)), (23, I l.length), (24, I s.1)], [cBx c, ⟨34, 4, 0, [[.v (.string ⟨#[]⟩), .v (.slice none 0 0), .v (.slice none 0 0), I 0]], true, true, none⟩, ⟨34, 4, 0, [[.v (.string s.2.name), .osl 3 0, .osl 4 0, I s.2.dflt]], true, true, none⟩, obCls s.2.cls, obFil s.2.fil]⟩)
    (fun s => s.1 ≤ l.length ∧ okC s.2 ∧ ordB s.2 = true ∧ allR s.2 (l.drop s.1) = allR c l) (fun s => l.length - s.1) (0, c) ⟨Nat.zero_le _, hc, cfg_ord g1, by simp⟩ ?_ ?_
  · simp only [cBx, obCls, obFil]
    refine Wk.tlPN [0, 1, 4, 2, 3] (by simp [pickOkN]) (by simp) ?_
    simp [hold, upd, tl_cons]
  rintro ⟨k, d⟩ ⟨hk, hd, hb, ha⟩
  simp only at hk hd hb ha
  have hdC : okC ⟨d.name, d.cls, d.fil, d.dflt⟩ := hd
  have hbC : ordB ⟨d.name, d.cls, d.fil, d.dflt⟩ = true := hb
  by_cases h : k < l.length
  · have hx := hl.2 l[k] (List.getElem_mem h)
    have hok := (isCh_ok (hch _ (List.getElem_mem h)) hx).1
    have hw := w64n (show k < 4611686018427387904 by omega)
    have hdr : l.drop k = l[k] :: l.drop (k + 1) := List.drop_eq_getElem_cons h
    cases hr : apR d l[k] with
    | none =>
      have e : apAll c l = none := by unfold apAll; rw [← ha, hdr]; simp [g1, g2, allR, hr]
      rw [e]
      simp -implicitDefEqProofs [List.lookup_cons, and_assoc, pick_and, pick_or, if_and, if_or, F34, apX_none, apX_some, pur2osl, purnil2, obCls, obFil, cBx, h, hd, hdC, hb, hbC, hok, hr]
      refine fin_pure (by simp) ?_
      simp -implicitDefEqProofs [pur2_i, pur2_b, pur2_s, pur2_nil, pur2_sl, pur2_tup, rn2_tup, rn2_agg, rn2_osl, rn1_v, rn1_osl, rn1_agg, rn0_v, rn0_sl, rn0, pickObs, pur_v, pur_b, pur_s, pur_nil, pur_sl, deI, deIs_sl, allX, nilCf, purnil2]
    | some d' =>
      have hr' : apR ⟨d.name, d.cls, d.fil, d.dflt⟩ l[k] = some d' := hr
      simp -implicitDefEqProofs [List.lookup_cons, and_assoc, pick_and, pick_or, if_and, if_or, F34, apX_none, apX_some, pur2osl, purnil2, obCls, obFil, cBx, h, hd, hdC, hb, hbC, hok, hr, hr']
      refine ⟨k + 1, by omega, d', apR_okC hb hd hx hr, apR_ord hb hr, ?_, by omega, ?_⟩
      · rw [← ha, hdr]
        simp [allR, hr]
      · refine Wk.tlPN [0, 1, 2, 6, 7] (by simp [pickOkN]) (by simp) ?_
        simp [hold, upd, tl_cons, hw]
  · have e : k = l.length := by omega
    subst e
    simp only [List.drop_length, allR] at ha
    have i1 : M39.pre [.agg [.v (.string d.name), .osl 0 0, .osl 1 0, I d.dflt]] [⟨58, 8, 0, tR d.cls, false, true, none⟩, ⟨59, 5, 0, tR d.fil, false, true, none⟩] := ⟨d, rfl, rfl, hd⟩
    have i2 : M39.res [.agg [.v (.string d.name), .osl 0 0, .osl 1 0, I d.dflt]] [⟨58, 8, 0, tR d.cls, false, true, none⟩, ⟨59, 5, 0, tR d.fil, false, true, none⟩] = (.tup [if isCfg d = true then cAg d else nilRw, B (isCfg d)], cOk d) := by
      show (X.tup [if isCfg (unA [cAg d] (cOk d)) = true then cAg (unA [cAg d] (cOk d)) else nilRw, B (isCfg (unA [cAg d] (cOk d)))], cOk (unA [cAg d] (cOk d))) = _
      rw [unA_eq]
    have i3 : M39.mu = [true] := rfl
    cases g : isCfg d with
    | false =>
      have e : apAll c l = none := by unfold apAll; rw [← ha]; simp [g1, g2, g]
      rw [e]
      simp -implicitDefEqProofs [List.lookup_cons, and_assoc, pick_and, pick_or, if_and, if_or, F34, apX_none, apX_some, pur2osl, purnil2, obCls, obFil, cBx, i1, i2, i3, g, cOk, nilRw, pickOkN]
      refine fin_pure (by simp) ?_
      simp -implicitDefEqProofs [pur2_i, pur2_b, pur2_s, pur2_nil, pur2_sl, pur2_tup, rn2_tup, rn2_agg, rn2_osl, rn1_v, rn1_osl, rn1_agg, rn0_v, rn0_sl, rn0, pickObs, pur_v, pur_b, pur_s, pur_nil, pur_sl, deI, deIs_sl, allX, nilCf, purnil2]
    | true =>
      have e : apAll c l = some d := by unfold apAll; rw [← ha]; simp [g1, g2, g]
      rw [e]
      simp -implicitDefEqProofs [List.lookup_cons, and_assoc, pick_and, pick_or, if_and, if_or, F34, apX_none, apX_some, pur2osl, purnil2, obCls, obFil, cBx, i1, i2, i3, g, cOk, cAg, pickOkN]
      refine fin_own [3, 4] (by simp [pickOk, -List.all_eq_true, tR_ok]) ?_
      simp -implicitDefEqProofs [pur2_i, pur2_b, pur2_s, pur2_nil, pur2_sl, pur2_tup, rn2_tup, rn2_agg, rn2_osl, rn1_v, rn1_osl, rn1_agg, rn0_v, rn0_sl, rn0, pickObs, pur_v, pur_b, pur_s, pur_nil, pur_sl, deI, deIs_sl, allX, cAg, cOk, obCls, obFil]
end Go.Proofs
