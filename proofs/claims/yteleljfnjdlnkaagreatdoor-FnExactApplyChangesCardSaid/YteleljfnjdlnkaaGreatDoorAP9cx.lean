/-
  What is proved here: contracts of the reference's ApplyChanges. Condition: none.
-/
import Derived.Test.YteleljfnjdlnkaaGreatDoorAP9ax
namespace Go.Proofs
open Go.Abs Go.Srt
set_option linter.unusedSimpArgs false
set_option linter.unnecessarySimpa false
set_option linter.unusedVariables false
set_option maxHeartbeats 8000000
set_option maxRecDepth 20000

def F38 : Fun := ⟨fun xs => xs = [.agg (cX (deC (xs.getD 0 .top) : Cfg)), .sl (tR (deT (xs.getD 1 .top) : List Chg))] ∧ (fun (c : Cfg) (l : List Chg) => (okC c ∧ ordB c = true ∧ okL2 l ∧ (∀ x ∈ l, isCh x = true) ∧ l.length ≤ 100)) (deC (xs.getD 0 .top) : Cfg) (deT (xs.getD 1 .top) : List Chg), fun xs => (fun (c : Cfg) (l : List Chg) => ((allY (match allR c l with | none => none | some d => if isCfg d = true then some d else none)) : X × List Ob)) (deC (xs.getD 0 .top) : Cfg) (deT (xs.getD 1 .top) : List Chg)⟩
theorem F38_in {xs : List X} (h : F38.pre xs) : ∃ (c : Cfg) (l : List Chg), xs = [.agg (cX c), .sl (tR l)] ∧ (okC c ∧ ordB c = true ∧ okL2 l ∧ (∀ x ∈ l, isCh x = true) ∧ l.length ≤ 100) := ⟨_, _, h.1, h.2⟩
theorem F38_res (c : Cfg) (l : List Chg) : F38.res [.agg (cX c), .sl (tR l)] = (allY (match allR c l with | none => none | some d => if isCfg d = true then some d else none)) := by simp [F38]
theorem F38_mk (c : Cfg) (l : List Chg) (h : okC c ∧ ordB c = true ∧ okL2 l ∧ (∀ x ∈ l, isCh x = true) ∧ l.length ≤ 100) : F38.pre [.agg (cX c), .sl (tR l)] := by simpa [F38] using h
theorem c38 : GenCA K Tryz.prog 38 F38 := by
  refine contractA Tryz.mix K [(53, F53), (27, F27), (72, F72)] [] (by simp [c53, c27, c72]) (by simp) Tryz.func38 rfl (by decide) ?_
  intro xs hxs
  obtain ⟨c, l, rfl, hp⟩ := F38_in hxs
  rw [F38_res]
  refine ⟨by rw [Tryz.ntmps38]; simp, ?_⟩
  obtain ⟨hc, hoB, hl, hch, h100⟩ := hp
  simp -implicitDefEqProofs [Tryz.f38, F53, F27, F72, List.lookup_cons, and_assoc, pick_and, pick_or, if_and, if_or, hc]
  refine loopP_inv (fun s : Nat × Cfg => ⟨34, tl [(4, .optr 1 0 0 0), (6, .optr 2 0 0 0), (13, .sl (tR l)), (14, I l.length), (15, I s.1)], [cBx c, ⟨34, 4, 0, [[.v (.string ⟨#[]⟩), .v (.slice none 0 0), .v (.slice none 0 0), I 0]], true, true, none⟩, cBx s.2]⟩)
    (fun s => s.1 ≤ l.length ∧ okC s.2 ∧ ordB s.2 = true ∧ allR s.2 (l.drop s.1) = allR c l) (fun s => l.length - s.1) (0, c) ⟨Nat.zero_le _, hc, hoB, by simp⟩ ?_ ?_
  · simp only [cBx]
    exact Wk.tl (by simp [hold, upd, tl_cons])
  rintro ⟨k, d⟩ ⟨hk, hd, hb, ha⟩
  simp only at hk hd hb ha
  by_cases h : k < l.length
  · have hx := hl.2 l[k] (List.getElem_mem h)
    have hok := isCh_ok (hch _ (List.getElem_mem h)) hx
    have hw := w64n (show k < 4611686018427387904 by omega)
    have hdr : l.drop k = l[k] :: l.drop (k + 1) := List.drop_eq_getElem_cons h
    cases hr : apR d l[k] with
    | none =>
      have e : allR c l = none := by rw [← ha, hdr]; simp [allR, hr]
      rw [e]
      simp -implicitDefEqProofs [List.lookup_cons, and_assoc, pick_and, pick_or, if_and, if_or, h, hd, hb, hok, hr, rpX_none, cBx]
      refine fin_pure (by simp) ?_
      simp -implicitDefEqProofs [pur2_i, pur2_b, pur2_s, pur2_nil, pur2_sl, pur2_tup, rn2_tup, rn2_agg, rn2_osl, rn1_v, rn1_osl, rn1_agg, rn0_v, rn0_sl, rn0, pickObs, pur_v, pur_b, pur_s, pur_nil, pur_sl, deI, deIs_sl, allY, nilCf, purnil2]
    | some d' =>
      simp -implicitDefEqProofs [List.lookup_cons, and_assoc, pick_and, pick_or, if_and, if_or, h, hd, hb, hok, hr, rpX_some, cBx]
      refine ⟨k + 1, by omega, d', apR_okC hb hd hx hr, apR_ord hb hr, ?_, by omega, ?_⟩
      · rw [← ha, hdr]
        simp [allR, hr]
      · exact Wk.tlD (m := 3) rfl (by simp [hold, upd, tl_cons, hw]) (by simp [okL_cons, okL_nil, ok1, ok0]) (okH_cBx _ _ _ (by simp [okH_cons, okH_nil, ok0, ok1]))
  · have e : k = l.length := by omega
    subst e
    simp only [List.drop_length, allR] at ha
    cases g : isCfg d with
    | false =>
      simp only [← ha, g]
      simp -implicitDefEqProofs [List.lookup_cons, and_assoc, pick_and, pick_or, if_and, if_or, hd, g, cBx, nilCf]
      refine fin_pure (by simp) ?_
      simp -implicitDefEqProofs [pur2_i, pur2_b, pur2_s, pur2_nil, pur2_sl, pur2_tup, rn2_tup, rn2_agg, rn2_osl, rn1_v, rn1_osl, rn1_agg, rn0_v, rn0_sl, rn0, pickObs, pur_v, pur_b, pur_s, pur_nil, pur_sl, deI, deIs_sl, allY, nilCf, purnil2]
    | true =>
      simp only [← ha, g]
      simp -implicitDefEqProofs [List.lookup_cons, and_assoc, pick_and, pick_or, if_and, if_or, hd, g, cBx]
      refine fin_pure (by simp) ?_
      simp -implicitDefEqProofs [pur2_i, pur2_b, pur2_s, pur2_nil, pur2_sl, pur2_tup, rn2_tup, rn2_agg, rn2_osl, rn1_v, rn1_osl, rn1_agg, rn0_v, rn0_sl, rn0, pickObs, pur_v, pur_b, pur_s, pur_nil, pur_sl, deI, deIs_sl, allY]
def F14 : Fun := ⟨fun xs => xs = [.agg (cX (deC (xs.getD 0 .top) : Cfg)), .sl (tR (deT (xs.getD 1 .top) : List Chg))] ∧ (fun (c : Cfg) (l : List Chg) => (okC c ∧ okL2 l)) (deC (xs.getD 0 .top) : Cfg) (deT (xs.getD 1 .top) : List Chg), fun xs => (fun (c : Cfg) (l : List Chg) => ((allY (apAll c l)) : X × List Ob)) (deC (xs.getD 0 .top) : Cfg) (deT (xs.getD 1 .top) : List Chg)⟩
theorem F14_in {xs : List X} (h : F14.pre xs) : ∃ (c : Cfg) (l : List Chg), xs = [.agg (cX c), .sl (tR l)] ∧ (okC c ∧ okL2 l) := ⟨_, _, h.1, h.2⟩
theorem F14_res (c : Cfg) (l : List Chg) : F14.res [.agg (cX c), .sl (tR l)] = (allY (apAll c l)) := by simp [F14]
theorem F14_mk (c : Cfg) (l : List Chg) (h : okC c ∧ okL2 l) : F14.pre [.agg (cX c), .sl (tR l)] := by simpa [F14] using h
theorem c14 : GenCA K Tryz.prog 14 F14 := by
  refine contractA Tryz.mix K [(25, F31), (26, F32), (38, F38)] [] (by simp [c25, c26, c38]) (by simp) Tryz.func14 rfl (by decide) ?_
  intro xs hxs
  obtain ⟨c, l, rfl, hp⟩ := F14_in hxs
  rw [F14_res]
  refine ⟨by rw [Tryz.ntmps14]; simp, ?_⟩
  obtain ⟨hc, hl⟩ := hp
  cases g1 : isCfg c with
  | false =>
    have e : apAll c l = none := by simp [apAll, g1]
    rw [e]
    simp -implicitDefEqProofs [Tryz.f14, F31, F32, F38, List.lookup_cons, and_assoc, pick_and, pick_or, if_and, if_or, hc, g1]
    refine fin_pure (by simp) ?_
    simp -implicitDefEqProofs [pur2_i, pur2_b, pur2_s, pur2_nil, pur2_sl, pur2_tup, rn2_tup, rn2_agg, rn2_osl, rn1_v, rn1_osl, rn1_agg, rn0_v, rn0_sl, rn0, pickObs, pur_v, pur_b, pur_s, pur_nil, pur_sl, deI, deIs_sl, allY, nilCf, purnil2]
  | true =>
  cases g2 : chsOk l with
  | false =>
    have e : apAll c l = none := by simp [apAll, g1, g2]
    rw [e]
    simp -implicitDefEqProofs [Tryz.f14, F31, F32, F38, List.lookup_cons, and_assoc, pick_and, pick_or, if_and, if_or, hc, hl, g1, g2]
    refine fin_pure (by simp) ?_
    simp -implicitDefEqProofs [pur2_i, pur2_b, pur2_s, pur2_nil, pur2_sl, pur2_tup, rn2_tup, rn2_agg, rn2_osl, rn1_v, rn1_osl, rn1_agg, rn0_v, rn0_sl, rn0, pickObs, pur_v, pur_b, pur_s, pur_nil, pur_sl, deI, deIs_sl, allY, nilCf, purnil2]
  | true =>
  have hch : ∀ x ∈ l, isCh x = true := by
    simp only [chsOk, Bool.and_eq_true, List.all_eq_true] at g2
    exact g2.1
  have h100 : l.length ≤ 100 := by
    simp only [chsOk, Bool.and_eq_true, decide_eq_true_eq] at g2
    exact g2.2
  have hoB := cfg_ord g1
  have e : apAll c l = (match allR c l with | none => none | some d => if isCfg d = true then some d else none) := by unfold apAll; rw [g1, g2]; rfl
  rw [e]
  cases hr : allR c l with
  | none =>
    simp -implicitDefEqProofs [Tryz.f14, F31, F32, F38, List.lookup_cons, and_assoc, pick_and, pick_or, if_and, if_or, hc, hl, g1, g2, hoB, hch, h100, hr, allY, nilCf]
    refine ⟨hch, fin_pure (by simp) ?_⟩
    simp -implicitDefEqProofs [pur2_i, pur2_b, pur2_s, pur2_nil, pur2_sl, pur2_tup, rn2_tup, rn2_agg, rn2_osl, rn1_v, rn1_osl, rn1_agg, rn0_v, rn0_sl, rn0, pickObs, pur_v, pur_b, pur_s, pur_nil, pur_sl, deI, deIs_sl, purnil2]
  | some d =>
    cases g : isCfg d with
    | false =>
      simp -implicitDefEqProofs [Tryz.f14, F31, F32, F38, List.lookup_cons, and_assoc, pick_and, pick_or, if_and, if_or, hc, hl, g1, g2, hoB, hch, h100, hr, g, allY, nilCf]
      refine ⟨hch, fin_pure (by simp) ?_⟩
      simp -implicitDefEqProofs [pur2_i, pur2_b, pur2_s, pur2_nil, pur2_sl, pur2_tup, rn2_tup, rn2_agg, rn2_osl, rn1_v, rn1_osl, rn1_agg, rn0_v, rn0_sl, rn0, pickObs, pur_v, pur_b, pur_s, pur_nil, pur_sl, deI, deIs_sl, purnil2]
    | true =>
      simp -implicitDefEqProofs [Tryz.f14, F31, F32, F38, List.lookup_cons, and_assoc, pick_and, pick_or, if_and, if_or, hc, hl, g1, g2, hoB, hch, h100, hr, g, allY]
      refine ⟨hch, fin_pure (by simp) ?_⟩
      simp -implicitDefEqProofs [pur2_i, pur2_b, pur2_s, pur2_nil, pur2_sl, pur2_tup, rn2_tup, rn2_agg, rn2_osl, rn1_v, rn1_osl, rn1_agg, rn0_v, rn0_sl, rn0, pickObs, pur_v, pur_b, pur_s, pur_nil, pur_sl, deI, deIs_sl, purnil2]
end Go.Proofs
