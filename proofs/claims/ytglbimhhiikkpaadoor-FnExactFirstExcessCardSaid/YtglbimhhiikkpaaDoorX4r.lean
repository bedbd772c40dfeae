/-
  What is proved here: contracts of both CeilsHold and both FirstExcess, and of their laws. Condition: none.
-/
import Derived.Test.YtglbimhhiikkpaaDoorX3r
import Derived.Test.YtglbimhhiikkpaaDoorE5r
namespace Go.Proofs
open Go.Abs
set_option linter.unusedSimpArgs false
set_option linter.unnecessarySimpa false
set_option linter.unusedVariables false
set_option maxHeartbeats 8000000
set_option maxRecDepth 20000

def chR (c : Cfg) (l : List Evt) : X := if fitB c l = true then .tup [B (exC c l 0).isNone, B true] else .tup [B false, B false]
def F21 : Fun := ⟨fun xs => xs = [.agg (cX (deC (xs.getD 0 .top) : Cfg)), .sl (tR (deT (xs.getD 1 .top) : List Evt))] ∧ (fun (c : Cfg) (l : List Evt) => (okC c ∧ l.length ≤ 1048576)) (deC (xs.getD 0 .top) : Cfg) (deT (xs.getD 1 .top) : List Evt), fun xs => (fun (c : Cfg) (l : List Evt) => ((chR c l, []) : X × List Ob)) (deC (xs.getD 0 .top) : Cfg) (deT (xs.getD 1 .top) : List Evt)⟩
theorem F21_in {xs : List X} (h : F21.pre xs) : ∃ (c : Cfg) (l : List Evt), xs = [.agg (cX c), .sl (tR l)] ∧ (okC c ∧ l.length ≤ 1048576) := ⟨_, _, h.1, h.2⟩
theorem F21_res (c : Cfg) (l : List Evt) : F21.res [.agg (cX c), .sl (tR l)] = (chR c l, []) := by simp [F21]
theorem F21_mk (c : Cfg) (l : List Evt) (h : okC c ∧ l.length ≤ 1048576) : F21.pre [.agg (cX c), .sl (tR l)] := by simpa [F21] using h
theorem c21 : GenCA K Tryd.prog 21 F21 := by
  refine contractA Tryd.mix K [(53, F53), (54, F54)] [] (by simp [c53, c54]) (by simp) Tryd.func21 rfl (by decide) ?_
  intro xs hxs
  obtain ⟨c, l, rfl, hp⟩ := F21_in hxs
  rw [F21_res]
  refine ⟨by rw [Tryd.ntmps21]; simp, ?_⟩
  obtain ⟨hok, hl⟩ := hp
  cases gf : fitB c l with
  | false =>
    simp -implicitDefEqProofs [Tryd.f21, F53, F54, List.lookup_cons, and_assoc, pick_and, pick_or, if_and, if_or, hok, hl, gf]
    refine fin_pure (by simp) ?_
    simp -implicitDefEqProofs [pur2_i, pur2_b, pur2_s, pur2_nil, pur2_sl, pur2_tup, rn2_tup, rn2_agg, rn2_osl, rn1_v, rn1_osl, rn1_agg, rn0_v, rn0_sl, rn0, pickObs, pur_v, pur_b, pur_s, pur_nil, pur_sl, deI, deIs_sl, chR, gf]
  | true =>
  have hfit := gf
  simp only [fitB, Bool.and_eq_true] at hfit
  obtain ⟨⟨hg, he⟩, hfa⟩ := hfit
  cases hx : exC c l 0 with
  | none =>
    simp -implicitDefEqProofs [Tryd.f21, F53, F54, List.lookup_cons, and_assoc, pick_and, pick_or, if_and, if_or, hok, hl, gf, hg, he, hx, exR]
    refine fin_pure (by simp) ?_
    simp -implicitDefEqProofs [pur2_i, pur2_b, pur2_s, pur2_nil, pur2_sl, pur2_tup, rn2_tup, rn2_agg, rn2_osl, rn1_v, rn1_osl, rn1_agg, rn0_v, rn0_sl, rn0, pickObs, pur_v, pur_b, pur_s, pur_nil, pur_sl, deI, deIs_sl, chR, gf, hx]
  | some p =>
    simp -implicitDefEqProofs [Tryd.f21, F53, F54, List.lookup_cons, and_assoc, pick_and, pick_or, if_and, if_or, hok, hl, gf, hg, he, hx, exR]
    refine fin_pure (by simp) ?_
    simp -implicitDefEqProofs [pur2_i, pur2_b, pur2_s, pur2_nil, pur2_sl, pur2_tup, rn2_tup, rn2_agg, rn2_osl, rn1_v, rn1_osl, rn1_agg, rn0_v, rn0_sl, rn0, pickObs, pur_v, pur_b, pur_s, pur_nil, pur_sl, deI, deIs_sl, chR, gf, hx]
theorem c19 : GenCA K Tryd.prog 19 F21 := by
  refine contractA Tryd.mix K [(50, F53), (51, F51)] [] (by simp [c50, c51]) (by simp) Tryd.func19 rfl (by decide) ?_
  intro xs hxs
  obtain ⟨c, l, rfl, hp⟩ := F21_in hxs
  rw [F21_res]
  refine ⟨by rw [Tryd.ntmps19]; simp, ?_⟩
  obtain ⟨hok, hl⟩ := hp
  cases gf : fitB c l with
  | false =>
    simp -implicitDefEqProofs [Tryd.f19, F53, F51, List.lookup_cons, and_assoc, pick_and, pick_or, if_and, if_or, hok, hl, gf]
    refine fin_pure (by simp) ?_
    simp -implicitDefEqProofs [pur2_i, pur2_b, pur2_s, pur2_nil, pur2_sl, pur2_tup, rn2_tup, rn2_agg, rn2_osl, rn1_v, rn1_osl, rn1_agg, rn0_v, rn0_sl, rn0, pickObs, pur_v, pur_b, pur_s, pur_nil, pur_sl, deI, deIs_sl, chR, gf]
  | true =>
  have hfit := gf
  simp only [fitB, Bool.and_eq_true] at hfit
  obtain ⟨⟨hg, he⟩, hfa⟩ := hfit
  cases hx : exC c l 0 with
  | none =>
    simp -implicitDefEqProofs [Tryd.f19, F53, F51, List.lookup_cons, and_assoc, pick_and, pick_or, if_and, if_or, hok, hl, gf, hg, he, hx, exRs]
    refine fin_pure (by simp) ?_
    simp -implicitDefEqProofs [pur2_i, pur2_b, pur2_s, pur2_nil, pur2_sl, pur2_tup, rn2_tup, rn2_agg, rn2_osl, rn1_v, rn1_osl, rn1_agg, rn0_v, rn0_sl, rn0, pickObs, pur_v, pur_b, pur_s, pur_nil, pur_sl, deI, deIs_sl, chR, gf, hx]
  | some p =>
    have h0 : ¬ (p.1 : Int) < 0 := by omega
    simp -implicitDefEqProofs [Tryd.f19, F53, F51, List.lookup_cons, and_assoc, pick_and, pick_or, if_and, if_or, hok, hl, gf, hg, he, hx, exRs]
    refine fin_pure (by simp) ?_
    simp -implicitDefEqProofs [pur2_i, pur2_b, pur2_s, pur2_nil, pur2_sl, pur2_tup, rn2_tup, rn2_agg, rn2_osl, rn1_v, rn1_osl, rn1_agg, rn0_v, rn0_sl, rn0, pickObs, pur_v, pur_b, pur_s, pur_nil, pur_sl, deI, deIs_sl, chR, gf, hx, h0]
def feR (c : Cfg) (l : List Evt) : X := if fitB c l = true then exR c (exC c l 0) else .tup [I 0, I 0, I 0, B false]
def F24 : Fun := ⟨fun xs => xs = [.agg (cX (deC (xs.getD 0 .top) : Cfg)), .sl (tR (deT (xs.getD 1 .top) : List Evt))] ∧ (fun (c : Cfg) (l : List Evt) => (okC c ∧ l.length ≤ 1048576)) (deC (xs.getD 0 .top) : Cfg) (deT (xs.getD 1 .top) : List Evt), fun xs => (fun (c : Cfg) (l : List Evt) => ((feR c l, []) : X × List Ob)) (deC (xs.getD 0 .top) : Cfg) (deT (xs.getD 1 .top) : List Evt)⟩
theorem F24_in {xs : List X} (h : F24.pre xs) : ∃ (c : Cfg) (l : List Evt), xs = [.agg (cX c), .sl (tR l)] ∧ (okC c ∧ l.length ≤ 1048576) := ⟨_, _, h.1, h.2⟩
theorem F24_res (c : Cfg) (l : List Evt) : F24.res [.agg (cX c), .sl (tR l)] = (feR c l, []) := by simp [F24]
theorem F24_mk (c : Cfg) (l : List Evt) (h : okC c ∧ l.length ≤ 1048576) : F24.pre [.agg (cX c), .sl (tR l)] := by simpa [F24] using h
theorem c24 : GenCA K Tryd.prog 24 F24 := by
  refine contractA Tryd.mix K [(53, F53), (54, F54)] [] (by simp [c53, c54]) (by simp) Tryd.func24 rfl (by decide) ?_
  intro xs hxs
  obtain ⟨c, l, rfl, hp⟩ := F24_in hxs
  rw [F24_res]
  refine ⟨by rw [Tryd.ntmps24]; simp, ?_⟩
  obtain ⟨hok, hl⟩ := hp
  cases gf : fitB c l with
  | false =>
    simp -implicitDefEqProofs [Tryd.f24, F53, F54, List.lookup_cons, and_assoc, pick_and, pick_or, if_and, if_or, hok, hl, gf]
    refine fin_pure (by simp) ?_
    simp -implicitDefEqProofs [pur2_i, pur2_b, pur2_s, pur2_nil, pur2_sl, pur2_tup, rn2_tup, rn2_agg, rn2_osl, rn1_v, rn1_osl, rn1_agg, rn0_v, rn0_sl, rn0, pickObs, pur_v, pur_b, pur_s, pur_nil, pur_sl, deI, deIs_sl, feR, gf]
  | true =>
  have hfit := gf
  simp only [fitB, Bool.and_eq_true] at hfit
  obtain ⟨⟨hg, he⟩, hfa⟩ := hfit
  cases hx : exC c l 0 with
  | none =>
    simp -implicitDefEqProofs [Tryd.f24, F53, F54, List.lookup_cons, and_assoc, pick_and, pick_or, if_and, if_or, hok, hl, gf, hg, he, hx, exR]
    refine fin_pure (by simp) ?_
    simp -implicitDefEqProofs [pur2_i, pur2_b, pur2_s, pur2_nil, pur2_sl, pur2_tup, rn2_tup, rn2_agg, rn2_osl, rn1_v, rn1_osl, rn1_agg, rn0_v, rn0_sl, rn0, pickObs, pur_v, pur_b, pur_s, pur_nil, pur_sl, deI, deIs_sl, feR, gf, hx, exR]
  | some p =>
    simp -implicitDefEqProofs [Tryd.f24, F53, F54, List.lookup_cons, and_assoc, pick_and, pick_or, if_and, if_or, hok, hl, gf, hg, he, hx, exR]
    refine fin_pure (by simp) ?_
    simp -implicitDefEqProofs [pur2_i, pur2_b, pur2_s, pur2_nil, pur2_sl, pur2_tup, rn2_tup, rn2_agg, rn2_osl, rn1_v, rn1_osl, rn1_agg, rn0_v, rn0_sl, rn0, pickObs, pur_v, pur_b, pur_s, pur_nil, pur_sl, deI, deIs_sl, feR, gf, hx, exR]
theorem exC_lt (c : Cfg) (l : List Evt) (p : Nat × Nat × Nat) (h : exC c l 0 = some p) : p.1 < c.cls.length := by
  unfold exC at h
  rw [List.drop_zero] at h
  obtain ⟨j, hj, hq⟩ := List.exists_of_findSome?_eq_some h
  simp at hj
  cases hx : exOf c l j with
  | none => rw [hx] at hq; cases hq
  | some q => rw [hx] at hq; simp at hq; rw [← hq]; exact hj
theorem c23 : GenCA K Tryd.prog 23 F24 := by
  refine contractA Tryd.mix K [(50, F53), (51, F51)] [] (by simp [c50, c51]) (by simp) Tryd.func23 rfl (by decide) ?_
  intro xs hxs
  obtain ⟨c, l, rfl, hp⟩ := F24_in hxs
  rw [F24_res]
  refine ⟨by rw [Tryd.ntmps23]; simp, ?_⟩
  obtain ⟨hok, hl⟩ := hp
  cases gf : fitB c l with
  | false =>
    simp -implicitDefEqProofs [Tryd.f23, F53, F51, List.lookup_cons, and_assoc, pick_and, pick_or, if_and, if_or, hok, hl, gf]
    refine fin_pure (by simp) ?_
    simp -implicitDefEqProofs [pur2_i, pur2_b, pur2_s, pur2_nil, pur2_sl, pur2_tup, rn2_tup, rn2_agg, rn2_osl, rn1_v, rn1_osl, rn1_agg, rn0_v, rn0_sl, rn0, pickObs, pur_v, pur_b, pur_s, pur_nil, pur_sl, deI, deIs_sl, feR, gf]
  | true =>
  have hfit := gf
  simp only [fitB, Bool.and_eq_true] at hfit
  obtain ⟨⟨hg, he⟩, hfa⟩ := hfit
  cases hx : exC c l 0 with
  | none =>
    simp -implicitDefEqProofs [Tryd.f23, F53, F51, List.lookup_cons, and_assoc, pick_and, pick_or, if_and, if_or, hok, hl, gf, hg, he, hx, exRs]
    refine fin_pure (by simp) ?_
    simp -implicitDefEqProofs [pur2_i, pur2_b, pur2_s, pur2_nil, pur2_sl, pur2_tup, rn2_tup, rn2_agg, rn2_osl, rn1_v, rn1_osl, rn1_agg, rn0_v, rn0_sl, rn0, pickObs, pur_v, pur_b, pur_s, pur_nil, pur_sl, deI, deIs_sl, feR, gf, hx, exR]
  | some p =>
    have h0 : ¬ (p.1 : Int) < 0 := by omega
    have hlt := exC_lt c l p hx
    simp -implicitDefEqProofs [Tryd.f23, F53, F51, List.lookup_cons, and_assoc, pick_and, pick_or, if_and, if_or, hok, hl, gf, hg, he, hx, exRs, h0, hlt]
    refine fin_pure (by simp) ?_
    simp -implicitDefEqProofs [pur2_i, pur2_b, pur2_s, pur2_nil, pur2_sl, pur2_tup, rn2_tup, rn2_agg, rn2_osl, rn1_v, rn1_osl, rn1_agg, rn0_v, rn0_sl, rn0, pickObs, pur_v, pur_b, pur_s, pur_nil, pur_sl, deI, deIs_sl, feR, gf, hx, exR, atC_eq hlt]
end Go.Proofs
