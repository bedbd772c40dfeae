/-
  What is proved here: contracts of both FirstBadStep. Condition: none.
-/
import Derived.Test.YteleljfnjdlnkaaGreatDoorAP9ax
namespace Go.Proofs
open Go.Abs Go.Srt
set_option linter.unusedSimpArgs false
set_option linter.unnecessarySimpa false
set_option linter.unusedVariables false
set_option maxHeartbeats 8000000
set_option maxRecDepth 20000

theorem shT {α : Type} [Rw α] (l : List α) (p : X → Bool) (hp : ∀ v, p (.v v) = true) : ∀ r ∈ tR l, ∀ x ∈ r, p x = true := by
  intro r hr x hx
  have := tR_all l p hp
  rw [List.all_eq_true] at this
  exact List.all_eq_true.1 (this r hr) x hx
def fbX (c : Cfg) (l : List Chg) : X := if (isCfg c && chsOk l) = true then .tup [I (badStep c l), B true] else .tup [I 0, B false]
def F11 : Fun := ⟨fun xs => xs = [.agg (cX (deC (xs.getD 0 .top) : Cfg)), .sl (tR (deT (xs.getD 1 .top) : List Chg))] ∧ (fun (c : Cfg) (l : List Chg) => (okC c ∧ okL2 l)) (deC (xs.getD 0 .top) : Cfg) (deT (xs.getD 1 .top) : List Chg), fun xs => (fun (c : Cfg) (l : List Chg) => ((fbX c l, []) : X × List Ob)) (deC (xs.getD 0 .top) : Cfg) (deT (xs.getD 1 .top) : List Chg)⟩
theorem F11_in {xs : List X} (h : F11.pre xs) : ∃ (c : Cfg) (l : List Chg), xs = [.agg (cX c), .sl (tR l)] ∧ (okC c ∧ okL2 l) := ⟨_, _, h.1, h.2⟩
theorem F11_res (c : Cfg) (l : List Chg) : F11.res [.agg (cX c), .sl (tR l)] = (fbX c l, []) := by simp [F11]
theorem F11_mk (c : Cfg) (l : List Chg) (h : okC c ∧ okL2 l) : F11.pre [.agg (cX c), .sl (tR l)] := by simpa [F11] using h
theorem c11 : GenCA K Tryz.prog 11 F11 := by
  refine contractA Tryz.mix K [(31, F31), (32, F32), (33, F33), (34, F34)] [] (by simp [c31, c32, c33, c34]) (by simp) Tryz.func11 rfl (by decide) ?_
  intro xs hxs
  obtain ⟨c, l, rfl, hp⟩ := F11_in hxs
  rw [F11_res]
  refine ⟨by rw [Tryz.ntmps11]; simp, ?_⟩
  obtain ⟨hc, hl⟩ := hp
  have hoC : okC ⟨c.name, c.cls, c.fil, c.dflt⟩ := hc
  cases g1 : isCfg c with
  | false =>
    simp -implicitDefEqProofs [Tryz.f11, F31, F32, F33, F34, List.lookup_cons, and_assoc, pick_and, pick_or, if_and, if_or, hc, g1]
    refine fin_pure (by simp) ?_
    simp -implicitDefEqProofs [pur2_i, pur2_b, pur2_s, pur2_nil, pur2_sl, pur2_tup, rn2_tup, rn2_agg, rn2_osl, rn1_v, rn1_osl, rn1_agg, rn0_v, rn0_sl, rn0, pickObs, pur_v, pur_b, pur_s, pur_nil, pur_sl, deI, deIs_sl, fbX, g1]
  | true =>
  cases g2 : chsOk l with
  | false =>
    simp -implicitDefEqProofs [Tryz.f11, F31, F32, F33, F34, List.lookup_cons, and_assoc, pick_and, pick_or, if_and, if_or, hc, hl, g1, g2]
    refine fin_pure (by simp) ?_
    simp -implicitDefEqProofs [pur2_i, pur2_b, pur2_s, pur2_nil, pur2_sl, pur2_tup, rn2_tup, rn2_agg, rn2_osl, rn1_v, rn1_osl, rn1_agg, rn0_v, rn0_sl, rn0, pickObs, pur_v, pur_b, pur_s, pur_nil, pur_sl, deI, deIs_sl, fbX, g1, g2]
  | true =>
  have hch : ∀ x ∈ l, isCh x = true := by
    simp only [chsOk, Bool.and_eq_true, List.all_eq_true] at g2
    exact g2.1
  have hF : fbX c l = .tup [I (badStep c l), B true] := by simp [fbX, g1, g2]
  have hlen : l.length ≤ 1048576 := hl.1
  rw [hF]
  simp -implicitDefEqProofs [Tryz.f11, F31, F32, F33, F34, List.lookup_cons, and_assoc, pick_and, pick_or, if_and, if_or, hc, hl, g1, g2, obCls, obFil]
  refine loopP_inv (fun s : Nat × Cfg => ⟨46, tl [(1, .sl (tR l)), (6, .optr 1 0 0 0), (21, .sl (tR l)), (22, I l.length), (23, I s.1)], [cBx c, ⟨34, 4, 0, [[.v (.string s.2.name), .osl 2 0, .osl 3 0, I s.2.dflt]], true, true, none⟩, obCls s.2.cls, obFil s.2.fil]⟩)
    (fun s => s.1 ≤ l.length ∧ okC s.2 ∧ ordB s.2 = true ∧ s.1 + badStep s.2 (l.drop s.1) = badStep c l) (fun s => l.length - s.1) (0, c) ⟨Nat.zero_le _, hc, cfg_ord g1, by simp⟩ ?_ ?_
  · simp only [cBx, obCls, obFil]
    refine Wk.tlPN [0, 3, 1, 2] (by simp [pickOkN]) (by simp) ?_
    simp [hold, upd, tl_cons]
  rintro ⟨k, d⟩ ⟨hk, hd, hb, ha⟩
  simp only at hk hd hb ha
  have hdC : okC ⟨d.name, d.cls, d.fil, d.dflt⟩ := hd
  have hbC : ordB ⟨d.name, d.cls, d.fil, d.dflt⟩ = true := hb
  by_cases h : k < l.length
  · have hx := hl.2 l[k] (List.getElem_mem h)
    have hok := (isCh_ok (hch _ (List.getElem_mem h)) hx).1
    have hw := w64n (show k < 4611686018427387904 by omega)
    have hdr : l.drop k = l[k] :: l.drop (k + 1) := List.drop_eq_getElem_cons h
    cases hr : apR d l[k] with
    | none =>
      have e : badStep c l = k := by rw [← ha, hdr]; simp [badStep, hr]
      rw [e]
      have hr' : apR ⟨d.name, d.cls, d.fil, d.dflt⟩ l[k] = none := hr
      simp -implicitDefEqProofs [List.lookup_cons, and_assoc, pick_and, pick_or, if_and, if_or, F34, F31, apX_none, apX_some, pur2osl, purnil2, obCls, obFil, cBx, h, hd, hdC, hb, hbC, hok, hr, hr']
      refine fin_pure (by simp) ?_
      simp -implicitDefEqProofs [pur2_i, pur2_b, pur2_s, pur2_nil, pur2_sl, pur2_tup, rn2_tup, rn2_agg, rn2_osl, rn1_v, rn1_osl, rn1_agg, rn0_v, rn0_sl, rn0, pickObs, pur_v, pur_b, pur_s, pur_nil, pur_sl, deI, deIs_sl, purnil2]
    | some d' =>
      have hr' : apR ⟨d.name, d.cls, d.fil, d.dflt⟩ l[k] = some d' := hr
      have hd' : okC ⟨d'.name, d'.cls, d'.fil, d'.dflt⟩ := apR_okC hb hd hx hr
      cases g : isCfg d' with
      | false =>
        have g' : isCfg ⟨d'.name, d'.cls, d'.fil, d'.dflt⟩ = false := g
        have e : badStep c l = k := by rw [← ha, hdr]; simp [badStep, hr, g]
        rw [e]
        simp -implicitDefEqProofs [List.lookup_cons, and_assoc, pick_and, pick_or, if_and, if_or, F34, F31, apX_none, apX_some, pur2osl, purnil2, obCls, obFil, cBx, h, hd, hdC, hb, hbC, hok, hr, hr', g, g', hd']
        refine ⟨shT _ _ fun _ => rfl, shT _ _ fun _ => rfl, fin_pure (by simp) ?_⟩
        simp -implicitDefEqProofs [pur2_i, pur2_b, pur2_s, pur2_nil, pur2_sl, pur2_tup, rn2_tup, rn2_agg, rn2_osl, rn1_v, rn1_osl, rn1_agg, rn0_v, rn0_sl, rn0, pickObs, pur_v, pur_b, pur_s, pur_nil, pur_sl, deI, deIs_sl, purnil2]
      | true =>
        have g' : isCfg ⟨d'.name, d'.cls, d'.fil, d'.dflt⟩ = true := g
        simp -implicitDefEqProofs [List.lookup_cons, and_assoc, pick_and, pick_or, if_and, if_or, F34, F31, apX_none, apX_some, pur2osl, purnil2, obCls, obFil, cBx, h, hd, hdC, hb, hbC, hok, hr, hr', g, g', hd']
        refine ⟨shT _ _ fun _ => rfl, shT _ _ fun _ => rfl, k + 1, by omega, d', hd', apR_ord hb hr, ?_, by omega, ?_⟩
        · rw [← ha, hdr]
          simp [badStep, hr, g]
          omega
        · refine Wk.tlPN [0, 1, 5, 6] (by simp [pickOkN]) (by simp) ?_
          simp [hold, upd, tl_cons, hw]
  · have e : k = l.length := by omega
    subst e
    have e : badStep c l = l.length := by rw [← ha]; simp [badStep]
    rw [e]
    simp -implicitDefEqProofs [List.lookup_cons, and_assoc, pick_and, pick_or, if_and, if_or, F34, apX_none, apX_some, pur2osl, purnil2, obCls, obFil, cBx]
    refine fin_pure (by simp) ?_
    simp -implicitDefEqProofs [pur2_i, pur2_b, pur2_s, pur2_nil, pur2_sl, pur2_tup, rn2_tup, rn2_agg, rn2_osl, rn1_v, rn1_osl, rn1_agg, rn0_v, rn0_sl, rn0, pickObs, pur_v, pur_b, pur_s, pur_nil, pur_sl, deI, deIs_sl, purnil2]
theorem c8 : GenCA K Tryz.prog 8 F11 := by
  refine contractA Tryz.mix K [(25, F31), (26, F32), (27, F27)] [] (by simp [c25, c26, c27]) (by simp) Tryz.func8 rfl (by decide) ?_
  intro xs hxs
  obtain ⟨c, l, rfl, hp⟩ := F11_in hxs
  rw [F11_res]
  refine ⟨by rw [Tryz.ntmps8]; simp, ?_⟩
  obtain ⟨hc, hl⟩ := hp
  cases g1 : isCfg c with
  | false =>
    simp -implicitDefEqProofs [Tryz.f8, F31, F32, F27, List.lookup_cons, and_assoc, pick_and, pick_or, if_and, if_or, hc, g1]
    refine fin_pure (by simp) ?_
    simp -implicitDefEqProofs [pur2_i, pur2_b, pur2_s, pur2_nil, pur2_sl, pur2_tup, rn2_tup, rn2_agg, rn2_osl, rn1_v, rn1_osl, rn1_agg, rn0_v, rn0_sl, rn0, pickObs, pur_v, pur_b, pur_s, pur_nil, pur_sl, deI, deIs_sl, fbX, g1]
  | true =>
  cases g2 : chsOk l with
  | false =>
    simp -implicitDefEqProofs [Tryz.f8, F31, F32, F27, List.lookup_cons, and_assoc, pick_and, pick_or, if_and, if_or, hc, hl, g1, g2]
    refine fin_pure (by simp) ?_
    simp -implicitDefEqProofs [pur2_i, pur2_b, pur2_s, pur2_nil, pur2_sl, pur2_tup, rn2_tup, rn2_agg, rn2_osl, rn1_v, rn1_osl, rn1_agg, rn0_v, rn0_sl, rn0, pickObs, pur_v, pur_b, pur_s, pur_nil, pur_sl, deI, deIs_sl, fbX, g1, g2]
  | true =>
  have hch : ∀ x ∈ l, isCh x = true := by
    simp only [chsOk, Bool.and_eq_true, List.all_eq_true] at g2
    exact g2.1
  have hF : fbX c l = .tup [I (badStep c l), B true] := by simp [fbX, g1, g2]
  have hlen : l.length ≤ 1048576 := hl.1
  rw [hF]
  simp -implicitDefEqProofs [Tryz.f8, F31, F32, F27, List.lookup_cons, and_assoc, pick_and, pick_or, if_and, if_or, hc, hl, g1, g2]
  refine loopP_inv (fun s : Nat × Cfg => ⟨43, tl [(1, .sl (tR l)), (2, .optr 0 0 0 0), (18, .sl (tR l)), (19, I l.length), (20, I s.1)], [cBx s.2]⟩)
    (fun s => s.1 ≤ l.length ∧ okC s.2 ∧ ordB s.2 = true ∧ s.1 + badStep s.2 (l.drop s.1) = badStep c l) (fun s => l.length - s.1) (0, c) ⟨Nat.zero_le _, hc, cfg_ord g1, by simp⟩ ?_ ?_
  · simp only [cBx]
    exact Wk.tl (by simp [hold, upd, tl_cons])
  rintro ⟨k, d⟩ ⟨hk, hd, hb, ha⟩
  simp only at hk hd hb ha
  by_cases h : k < l.length
  · have hx := hl.2 l[k] (List.getElem_mem h)
    have hok := isCh_ok (hch _ (List.getElem_mem h)) hx
    have hw := w64n (show k < 4611686018427387904 by omega)
    have hdr : l.drop k = l[k] :: l.drop (k + 1) := List.drop_eq_getElem_cons h
    cases hr : apR d l[k] with
    | none =>
      have e : badStep c l = k := by rw [← ha, hdr]; simp [badStep, hr]
      rw [e]
      simp -implicitDefEqProofs [List.lookup_cons, and_assoc, pick_and, pick_or, if_and, if_or, h, hd, hb, hok, hr, rpX_none, cBx]
      refine fin_pure (by simp) ?_
      simp -implicitDefEqProofs [pur2_i, pur2_b, pur2_s, pur2_nil, pur2_sl, pur2_tup, rn2_tup, rn2_agg, rn2_osl, rn1_v, rn1_osl, rn1_agg, rn0_v, rn0_sl, rn0, pickObs, pur_v, pur_b, pur_s, pur_nil, pur_sl, deI, deIs_sl, purnil2]
    | some d' =>
      have hd' : okC d' := apR_okC hb hd hx hr
      cases g : isCfg d' with
      | false =>
        have e : badStep c l = k := by rw [← ha, hdr]; simp [badStep, hr, g]
        rw [e]
        simp -implicitDefEqProofs [List.lookup_cons, and_assoc, pick_and, pick_or, if_and, if_or, h, hd, hb, hok, hr, rpX_some, cBx, g, hd']
        refine fin_pure (by simp) ?_
        simp -implicitDefEqProofs [pur2_i, pur2_b, pur2_s, pur2_nil, pur2_sl, pur2_tup, rn2_tup, rn2_agg, rn2_osl, rn1_v, rn1_osl, rn1_agg, rn0_v, rn0_sl, rn0, pickObs, pur_v, pur_b, pur_s, pur_nil, pur_sl, deI, deIs_sl, purnil2]
      | true =>
        simp -implicitDefEqProofs [List.lookup_cons, and_assoc, pick_and, pick_or, if_and, if_or, h, hd, hb, hok, hr, rpX_some, cBx, g, hd']
        refine ⟨k + 1, by omega, d', hd', apR_ord hb hr, ?_, by omega, ?_⟩
        · rw [← ha, hdr]
          simp [badStep, hr, g]
          omega
        · exact Wk.tlD (m := 1) rfl (by simp [hold, upd, tl_cons, hw]) (by simp [okL_cons, okL_nil, ok1, ok0]) (okH_cBx _ _ _ (by simp [okH_nil]))
  · have e : k = l.length := by omega
    subst e
    have e : badStep c l = l.length := by rw [← ha]; simp [badStep]
    rw [e]
    simp -implicitDefEqProofs [List.lookup_cons, and_assoc, pick_and, pick_or, if_and, if_or, cBx]
    refine fin_pure (by simp) ?_
    simp -implicitDefEqProofs [pur2_i, pur2_b, pur2_s, pur2_nil, pur2_sl, pur2_tup, rn2_tup, rn2_agg, rn2_osl, rn1_v, rn1_osl, rn1_agg, rn0_v, rn0_sl, rn0, pickObs, pur_v, pur_b, pur_s, pur_nil, pur_sl, deI, deIs_sl, purnil2]
end Go.Proofs
