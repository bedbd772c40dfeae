/-
  What is proved here: contracts of both WalkClasses, LineOfClass and LinesOfPart. Condition: none.
-/
import Derived.Test.YtlfgjdfecgjphaaGreatDoorPR5y
import Derived.Test.YtlfgjdfecgjphaaGreatDoorPS1y
namespace Go.Proofs
open Go.Abs
set_option linter.unusedSimpArgs false
set_option linter.unnecessarySimpa false
set_option linter.unusedVariables false
set_option maxHeartbeats 8000000
set_option maxRecDepth 20000

def wkR (c : Cfg) : X × List Ob := if isCfg c = true then (.tup [.osl 0 0, B true], [iOb (nI (walk c.cls (topN c.cls)))]) else (.tup [.sl [], B false], [])
def F19 : Fun := ⟨fun xs => xs = [.agg (cX (deC (xs.getD 0 .top) : Cfg))] ∧ (fun (c : Cfg) => (okC c)) (deC (xs.getD 0 .top) : Cfg), fun xs => (fun (c : Cfg) => ((wkR c) : X × List Ob)) (deC (xs.getD 0 .top) : Cfg)⟩
theorem F19_in {xs : List X} (h : F19.pre xs) : ∃ (c : Cfg), xs = [.agg (cX c)] ∧ (okC c) := ⟨_, h.1, h.2⟩
theorem F19_res (c : Cfg) : F19.res [.agg (cX c)] = (wkR c) := by simp [F19]
theorem F19_mk (c : Cfg) (h : okC c) : F19.pre [.agg (cX c)] := by simpa [F19] using h
theorem c19 : GenCA K Tryz.prog 19 F19 := by
  refine contractA Tryz.mix K [(48, F48), (38, F38)] [] (by simp [c48, c38]) (by simp) Tryz.func19 rfl (by decide) ?_
  intro xs hxs
  obtain ⟨c, rfl, hp⟩ := F19_in hxs
  rw [F19_res]
  refine ⟨by rw [Tryz.ntmps19]; simp, ?_⟩
  cases g : isCfg c with
  | false =>
    have e : wkR c = (.tup [.sl [], B false], []) := by simp [wkR, g]
    rw [e]
    simp -implicitDefEqProofs [Tryz.f19, F48, F38, List.lookup_cons, and_assoc, pick_and, pick_or, if_and, if_or, hp, g]
    refine fin_pure (by simp) ?_
    simp -implicitDefEqProofs [pur2_i, pur2_b, pur2_s, pur2_nil, pur2_sl, pur2_tup, rn2_tup, rn2_agg, rn2_osl, rn1_v, rn1_osl, rn1_agg, rn0_v, rn0_sl, rn0, pickObs, pur_v, pur_b, pur_s, pur_nil, pur_sl, deI, deIs_sl]
  | true =>
    have e : wkR c = (.tup [.osl 0 0, B true], [iOb (nI (walk c.cls (topN c.cls)))]) := by simp [wkR, g]
    rw [e, ← prn_order c]
    simp -implicitDefEqProofs [Tryz.f19, F48, F38, List.lookup_cons, and_assoc, pick_and, pick_or, if_and, if_or, hp, g, obF, boxP, sOb, nOb]
    refine fin_own [3] (by simp [pickOk, -List.all_eq_true, iR_ok]) ?_
    simp -implicitDefEqProofs [pur2_i, pur2_b, pur2_s, pur2_nil, pur2_sl, pur2_tup, rn2_tup, rn2_agg, rn2_osl, rn1_v, rn1_osl, rn1_agg, rn0_v, rn0_sl, rn0, pickObs, pur_v, pur_b, pur_s, pur_nil, pur_sl, deI, deIs_sl, iOb]
theorem c18 : GenCA K Tryz.prog 18 F19 := by
  refine contractA Tryz.mix K [(42, F48), (44, F67), (43, F43)] [] (by simp [c42, c44, c43]) (by simp) Tryz.func18 rfl (by decide) ?_
  intro xs hxs
  obtain ⟨c, rfl, hp⟩ := F19_in hxs
  rw [F19_res]
  refine ⟨by rw [Tryz.ntmps18]; simp, ?_⟩
  cases g : isCfg c with
  | false =>
    have e : wkR c = (.tup [.sl [], B false], []) := by simp [wkR, g]
    rw [e]
    simp -implicitDefEqProofs [Tryz.f18, F48, F67, F43, List.lookup_cons, and_assoc, pick_and, pick_or, if_and, if_or, hp, g]
    refine fin_pure (by simp) ?_
    simp -implicitDefEqProofs [pur2_i, pur2_b, pur2_s, pur2_nil, pur2_sl, pur2_tup, rn2_tup, rn2_agg, rn2_osl, rn1_v, rn1_osl, rn1_agg, rn0_v, rn0_sl, rn0, pickObs, pur_v, pur_b, pur_s, pur_nil, pur_sl, deI, deIs_sl]
  | true =>
    have e : wkR c = (.tup [.osl 0 0, B true], [iOb (nI (walk c.cls (topN c.cls)))]) := by simp [wkR, g]
    rw [e]
    have hI : okI c (topN c.cls : Int) := ⟨hp, by omega, by have := (top_spec g).1; omega⟩
    simp -implicitDefEqProofs [Tryz.f18, F48, F67, F43, List.lookup_cons, and_assoc, pick_and, pick_or, if_and, if_or, hp, g]
    refine drawP_cut _ 3 (by decide) ?_
    simp -implicitDefEqProofs [List.lookup_cons, and_assoc, pick_and, pick_or, if_and, if_or, hp, g, hI, iOb]
    refine fin_own [1] (by simp [pickOk, -List.all_eq_true, iR_ok]) ?_
    simp -implicitDefEqProofs [pur2_i, pur2_b, pur2_s, pur2_nil, pur2_sl, pur2_tup, rn2_tup, rn2_agg, rn2_osl, rn1_v, rn1_osl, rn1_agg, rn0_v, rn0_sl, rn0, pickObs, pur_v, pur_b, pur_s, pur_nil, pur_sl, deI, deIs_sl, iOb]
def liR (c : Cfg) (i : Int) : X := if isCfg c = true ∧ 0 ≤ i ∧ i < c.cls.length then .tup [I (lineOf c.cls i.toNat), B true] else .tup [I 0, B false]
def lpR (c : Cfg) (i : Int) : X := if isCfg c = true ∧ 0 ≤ i ∧ i < c.cls.length then .tup [I (lineOf c.cls i.toNat), I ((lineOf c.cls i.toNat : Int) + size c.cls i.toNat - 1), B true] else .tup [I 0, I 0, B false]
def hasI (c : Cfg) (i : Int) : Bool := isCfg c && decide (0 ≤ i) && decide (i < c.cls.length)
theorem hasI_iff (c : Cfg) (i : Int) : hasI c i = true ↔ isCfg c = true ∧ 0 ≤ i ∧ i < c.cls.length := by simp [hasI, and_assoc]
def F37 : Fun := ⟨fun xs => xs = [.agg (cX (deC (xs.getD 0 .top) : Cfg)), I (deI (xs.getD 1 .top) : Int)] ∧ (fun (c : Cfg) (i : Int) => (okC c)) (deC (xs.getD 0 .top) : Cfg) (deI (xs.getD 1 .top) : Int), fun xs => (fun (c : Cfg) (i : Int) => ((B (hasI c i), []) : X × List Ob)) (deC (xs.getD 0 .top) : Cfg) (deI (xs.getD 1 .top) : Int)⟩
theorem F37_in {xs : List X} (h : F37.pre xs) : ∃ (c : Cfg) (i : Int), xs = [.agg (cX c), I i] ∧ (okC c) := ⟨_, _, h.1, h.2⟩
theorem F37_res (c : Cfg) (i : Int) : F37.res [.agg (cX c), I i] = (B (hasI c i), []) := by simp [F37]
theorem F37_mk (c : Cfg) (i : Int) (h : okC c) : F37.pre [.agg (cX c), I i] := by simpa [F37] using h
theorem c37 : GenCA K Tryz.prog 37 F37 := by
  refine contractA Tryz.mix K [(48, F48)] [] (by simp [c48]) (by simp) Tryz.func37 rfl (by decide) ?_
  intro xs hxs
  obtain ⟨c, i, rfl, hp⟩ := F37_in hxs
  rw [F37_res]
  refine ⟨by rw [Tryz.ntmps37]; simp, ?_⟩
  cases g : isCfg c with
  | false =>
    simp -implicitDefEqProofs [Tryz.f37, F48, List.lookup_cons, and_assoc, pick_and, pick_or, if_and, if_or, hp, g]
    refine fin_pure (by simp) ?_
    simp -implicitDefEqProofs [pur2_i, pur2_b, pur2_s, pur2_nil, pur2_sl, pur2_tup, rn2_tup, rn2_agg, rn2_osl, rn1_v, rn1_osl, rn1_agg, rn0_v, rn0_sl, rn0, pickObs, pur_v, pur_b, pur_s, pur_nil, pur_sl, deI, deIs_sl, hasI, g]
  | true =>
    simp -implicitDefEqProofs [Tryz.f37, F48, List.lookup_cons, and_assoc, pick_and, pick_or, if_and, if_or, hp, g]
    refine fin_pure (by simp) ?_
    simp -implicitDefEqProofs [pur2_i, pur2_b, pur2_s, pur2_nil, pur2_sl, pur2_tup, rn2_tup, rn2_agg, rn2_osl, rn1_v, rn1_osl, rn1_agg, rn0_v, rn0_sl, rn0, pickObs, pur_v, pur_b, pur_s, pur_nil, pur_sl, deI, deIs_sl, hasI, g]
theorem c33 : GenCA K Tryz.prog 33 F37 := by
  refine contractA Tryz.mix K [(42, F48), (60, F60)] [] (by simp [c42, c60]) (by simp) Tryz.func33 rfl (by decide) ?_
  intro xs hxs
  obtain ⟨c, i, rfl, hp⟩ := F37_in hxs
  rw [F37_res]
  refine ⟨by rw [Tryz.ntmps33]; simp, ?_⟩
  obtain ⟨h1, h2, h3⟩ := hp
  have hp : okC c := ⟨h1, h2, h3⟩
  cases g : isCfg c with
  | false =>
    simp -implicitDefEqProofs [Tryz.f33, F48, F60, List.lookup_cons, and_assoc, pick_and, pick_or, if_and, if_or, hp, g]
    refine fin_pure (by simp) ?_
    simp -implicitDefEqProofs [pur2_i, pur2_b, pur2_s, pur2_nil, pur2_sl, pur2_tup, rn2_tup, rn2_agg, rn2_osl, rn1_v, rn1_osl, rn1_agg, rn0_v, rn0_sl, rn0, pickObs, pur_v, pur_b, pur_s, pur_nil, pur_sl, deI, deIs_sl, hasI, g]
  | true =>
    have hw : IntKind.i64.wrap ((c.cls.length : Int) - 1) = (c.cls.length : Int) - 1 := w64 (by omega) (by omega)
    simp -implicitDefEqProofs [Tryz.f33, F48, F60, List.lookup_cons, and_assoc, pick_and, pick_or, if_and, if_or, hp, g, hw]
    refine fin_pure (by simp) ?_
    simp -implicitDefEqProofs [pur2_i, pur2_b, pur2_s, pur2_nil, pur2_sl, pur2_tup, rn2_tup, rn2_agg, rn2_osl, rn1_v, rn1_osl, rn1_agg, rn0_v, rn0_sl, rn0, pickObs, pur_v, pur_b, pur_s, pur_nil, pur_sl, deI, deIs_sl, hasI, g, rng, hw]
    congr 1
    exact decide_eq_decide.2 (by omega)
theorem fst_at {c : Cfg} (hg : isCfg c = true) {q : PS} (hq : prn c = q) (i : Nat) (hi : i < c.cls.length) : (∀ h : i < q.first.length, q.first[i] = (lineOf c.cls i : Int)) ∧ (∀ h : i < q.last.length, q.last[i] = (lineOf c.cls i : Int) + size c.cls i - 1) ∧ i < q.first.length ∧ i < q.last.length := by
  obtain ⟨h1, h2⟩ := prn_fl hg i hi
  obtain ⟨l1, l2⟩ := prn_len hg
  rw [hq] at h1 h2 l1 l2
  refine ⟨fun h => ?_, fun h => ?_, by omega, by omega⟩
  · rw [List.getElem?_eq_getElem h] at h1; exact Option.some.inj h1
  · rw [List.getElem?_eq_getElem h] at h2; exact Option.some.inj h2
def F12 : Fun := ⟨fun xs => xs = [.agg (cX (deC (xs.getD 0 .top) : Cfg)), I (deI (xs.getD 1 .top) : Int)] ∧ (fun (c : Cfg) (i : Int) => (okC c)) (deC (xs.getD 0 .top) : Cfg) (deI (xs.getD 1 .top) : Int), fun xs => (fun (c : Cfg) (i : Int) => ((liR c i, []) : X × List Ob)) (deC (xs.getD 0 .top) : Cfg) (deI (xs.getD 1 .top) : Int)⟩
theorem F12_in {xs : List X} (h : F12.pre xs) : ∃ (c : Cfg) (i : Int), xs = [.agg (cX c), I i] ∧ (okC c) := ⟨_, _, h.1, h.2⟩
theorem F12_res (c : Cfg) (i : Int) : F12.res [.agg (cX c), I i] = (liR c i, []) := by simp [F12]
theorem F12_mk (c : Cfg) (i : Int) (h : okC c) : F12.pre [.agg (cX c), I i] := by simpa [F12] using h
theorem c12 : GenCA K Tryz.prog 12 F12 := by
  refine contractA Tryz.mix K [(37, F37), (38, F38)] [] (by simp [c37, c38]) (by simp) Tryz.func12 rfl (by decide) ?_
  intro xs hxs
  obtain ⟨c, i, rfl, hp⟩ := F12_in hxs
  rw [F12_res]
  refine ⟨by rw [Tryz.ntmps12]; simp, ?_⟩
  cases g : hasI c i with
  | false =>
    have e : liR c i = .tup [I 0, B false] := by unfold liR; rw [if_neg (by rw [← hasI_iff]; simp [g])]
    rw [e]
    simp -implicitDefEqProofs [Tryz.f12, F37, F38, List.lookup_cons, and_assoc, pick_and, pick_or, if_and, if_or, hp, g]
    refine fin_pure (by simp) ?_
    simp -implicitDefEqProofs [pur2_i, pur2_b, pur2_s, pur2_nil, pur2_sl, pur2_tup, rn2_tup, rn2_agg, rn2_osl, rn1_v, rn1_osl, rn1_agg, rn0_v, rn0_sl, rn0, pickObs, pur_v, pur_b, pur_s, pur_nil, pur_sl, deI, deIs_sl]
  | true =>
    obtain ⟨hg, h0, h1⟩ := (hasI_iff c i).1 g
    have e : liR c i = .tup [I (lineOf c.cls i.toNat), B true] := by unfold liR; rw [if_pos ⟨hg, h0, h1⟩]
    rw [e]
    obtain ⟨i, rfl⟩ := Int.eq_ofNat_of_zero_le h0
    have hi : i < c.cls.length := by omega
    obtain ⟨q, hq⟩ : ∃ q, prn c = q := ⟨_, rfl⟩
    obtain ⟨v1, v2, k1, k2⟩ := fst_at hg hq i hi
    simp -implicitDefEqProofs [Tryz.f12, F37, F38, List.lookup_cons, and_assoc, pick_and, pick_or, if_and, if_or, hp, g, hg, hq, obF, boxP, sOb, nOb, v1, k1]
    refine fin_pure (by simp) ?_
    simp -implicitDefEqProofs [pur2_i, pur2_b, pur2_s, pur2_nil, pur2_sl, pur2_tup, rn2_tup, rn2_agg, rn2_osl, rn1_v, rn1_osl, rn1_agg, rn0_v, rn0_sl, rn0, pickObs, pur_v, pur_b, pur_s, pur_nil, pur_sl, deI, deIs_sl]
theorem c10 : GenCA K Tryz.prog 10 F12 := by
  refine contractA Tryz.mix K [(33, F37), (34, F34)] [] (by simp [c33, c34]) (by simp) Tryz.func10 rfl (by decide) ?_
  intro xs hxs
  obtain ⟨c, i, rfl, hp⟩ := F12_in hxs
  rw [F12_res]
  refine ⟨by rw [Tryz.ntmps10]; simp, ?_⟩
  cases g : hasI c i with
  | false =>
    have e : liR c i = .tup [I 0, B false] := by unfold liR; rw [if_neg (by rw [← hasI_iff]; simp [g])]
    rw [e]
    simp -implicitDefEqProofs [Tryz.f10, F37, F34, List.lookup_cons, and_assoc, pick_and, pick_or, if_and, if_or, hp, g]
    refine fin_pure (by simp) ?_
    simp -implicitDefEqProofs [pur2_i, pur2_b, pur2_s, pur2_nil, pur2_sl, pur2_tup, rn2_tup, rn2_agg, rn2_osl, rn1_v, rn1_osl, rn1_agg, rn0_v, rn0_sl, rn0, pickObs, pur_v, pur_b, pur_s, pur_nil, pur_sl, deI, deIs_sl]
  | true =>
    obtain ⟨hg, h0, h1⟩ := (hasI_iff c i).1 g
    have e : liR c i = .tup [I (lineOf c.cls i.toNat), B true] := by unfold liR; rw [if_pos ⟨hg, h0, h1⟩]
    rw [e]
    have hI : okI c i := ⟨hp, h0, h1⟩
    simp -implicitDefEqProofs [Tryz.f10, F37, F34, List.lookup_cons, and_assoc, pick_and, pick_or, if_and, if_or, hp, g, hg, hI]
    refine fin_pure (by simp) ?_
    simp -implicitDefEqProofs [pur2_i, pur2_b, pur2_s, pur2_nil, pur2_sl, pur2_tup, rn2_tup, rn2_agg, rn2_osl, rn1_v, rn1_osl, rn1_agg, rn0_v, rn0_sl, rn0, pickObs, pur_v, pur_b, pur_s, pur_nil, pur_sl, deI, deIs_sl]
def F15 : Fun := ⟨fun xs => xs = [.agg (cX (deC (xs.getD 0 .top) : Cfg)), I (deI (xs.getD 1 .top) : Int)] ∧ (fun (c : Cfg) (i : Int) => (okC c)) (deC (xs.getD 0 .top) : Cfg) (deI (xs.getD 1 .top) : Int), fun xs => (fun (c : Cfg) (i : Int) => ((lpR c i, []) : X × List Ob)) (deC (xs.getD 0 .top) : Cfg) (deI (xs.getD 1 .top) : Int)⟩
theorem F15_in {xs : List X} (h : F15.pre xs) : ∃ (c : Cfg) (i : Int), xs = [.agg (cX c), I i] ∧ (okC c) := ⟨_, _, h.1, h.2⟩
theorem F15_res (c : Cfg) (i : Int) : F15.res [.agg (cX c), I i] = (lpR c i, []) := by simp [F15]
theorem F15_mk (c : Cfg) (i : Int) (h : okC c) : F15.pre [.agg (cX c), I i] := by simpa [F15] using h
theorem c15 : GenCA K Tryz.prog 15 F15 := by
  refine contractA Tryz.mix K [(37, F37), (38, F38)] [] (by simp [c37, c38]) (by simp) Tryz.func15 rfl (by decide) ?_
  intro xs hxs
  obtain ⟨c, i, rfl, hp⟩ := F15_in hxs
  rw [F15_res]
  refine ⟨by rw [Tryz.ntmps15]; simp, ?_⟩
  cases g : hasI c i with
  | false =>
    have e : lpR c i = .tup [I 0, I 0, B false] := by unfold lpR; rw [if_neg (by rw [← hasI_iff]; simp [g])]
    rw [e]
    simp -implicitDefEqProofs [Tryz.f15, F37, F38, List.lookup_cons, and_assoc, pick_and, pick_or, if_and, if_or, hp, g]
    refine fin_pure (by simp) ?_
    simp -implicitDefEqProofs [pur2_i, pur2_b, pur2_s, pur2_nil, pur2_sl, pur2_tup, rn2_tup, rn2_agg, rn2_osl, rn1_v, rn1_osl, rn1_agg, rn0_v, rn0_sl, rn0, pickObs, pur_v, pur_b, pur_s, pur_nil, pur_sl, deI, deIs_sl]
  | true =>
    obtain ⟨hg, h0, h1⟩ := (hasI_iff c i).1 g
    have e : lpR c i = .tup [I (lineOf c.cls i.toNat), I ((lineOf c.cls i.toNat : Int) + size c.cls i.toNat - 1), B true] := by unfold lpR; rw [if_pos ⟨hg, h0, h1⟩]
    rw [e]
    obtain ⟨i, rfl⟩ := Int.eq_ofNat_of_zero_le h0
    have hi : i < c.cls.length := by omega
    obtain ⟨q, hq⟩ : ∃ q, prn c = q := ⟨_, rfl⟩
    obtain ⟨v1, v2, k1, k2⟩ := fst_at hg hq i hi
    simp -implicitDefEqProofs [Tryz.f15, F37, F38, List.lookup_cons, and_assoc, pick_and, pick_or, if_and, if_or, hp, g, hg, hq, obF, boxP, sOb, nOb, v1, k1, v2, k2]
    refine drawP_all _ (by decide) ?_
    simp -implicitDefEqProofs [List.lookup_cons, and_assoc, pick_and, pick_or, if_and, if_or, hp, g, hg, hq, obF, boxP, sOb, nOb, v1, k1, v2, k2]
    refine fin_pure (by simp) ?_
    simp -implicitDefEqProofs [pur2_i, pur2_b, pur2_s, pur2_nil, pur2_sl, pur2_tup, rn2_tup, rn2_agg, rn2_osl, rn1_v, rn1_osl, rn1_agg, rn0_v, rn0_sl, rn0, pickObs, pur_v, pur_b, pur_s, pur_nil, pur_sl, deI, deIs_sl]
theorem c14 : GenCA K Tryz.prog 14 F15 := by
  refine contractA Tryz.mix K [(33, F37), (34, F34), (41, F41)] [] (by simp [c33, c34, c41]) (by simp) Tryz.func14 rfl (by decide) ?_
  intro xs hxs
  obtain ⟨c, i, rfl, hp⟩ := F15_in hxs
  rw [F15_res]
  refine ⟨by rw [Tryz.ntmps14]; simp, ?_⟩
  cases g : hasI c i with
  | false =>
    have e : lpR c i = .tup [I 0, I 0, B false] := by unfold lpR; rw [if_neg (by rw [← hasI_iff]; simp [g])]
    rw [e]
    simp -implicitDefEqProofs [Tryz.f14, F37, F34, F41, List.lookup_cons, and_assoc, pick_and, pick_or, if_and, if_or, hp, g]
    refine fin_pure (by simp) ?_
    simp -implicitDefEqProofs [pur2_i, pur2_b, pur2_s, pur2_nil, pur2_sl, pur2_tup, rn2_tup, rn2_agg, rn2_osl, rn1_v, rn1_osl, rn1_agg, rn0_v, rn0_sl, rn0, pickObs, pur_v, pur_b, pur_s, pur_nil, pur_sl, deI, deIs_sl]
  | true =>
    obtain ⟨hg, h0, h1⟩ := (hasI_iff c i).1 g
    have e : lpR c i = .tup [I (lineOf c.cls i.toNat), I ((lineOf c.cls i.toNat : Int) + size c.cls i.toNat - 1), B true] := by unfold lpR; rw [if_pos ⟨hg, h0, h1⟩]
    rw [e]
    have hI : okI c i := ⟨hp, h0, h1⟩
    obtain ⟨i, rfl⟩ := Int.eq_ofNat_of_zero_le h0
    have hi : i < c.cls.length := by omega
    have b1 := lineOf_le hg i
    have b2 := size_le hg hi
    have hw1 : IntKind.i64.wrap ((lineOf c.cls i : Int) + size c.cls i) = (lineOf c.cls i : Int) + size c.cls i := w64 (by omega) (by omega)
    have hw2 : IntKind.i64.wrap ((lineOf c.cls i : Int) + size c.cls i - 1) = (lineOf c.cls i : Int) + size c.cls i - 1 := w64 (by omega) (by omega)
    simp -implicitDefEqProofs [Tryz.f14, F37, F34, F41, List.lookup_cons, and_assoc, pick_and, pick_or, if_and, if_or, hp, g, hg, hI]
    refine drawP_all _ (by decide) ?_
    simp -implicitDefEqProofs [List.lookup_cons, and_assoc, pick_and, pick_or, if_and, if_or, F34, F41, hp, g, hg, hI, hw1, hw2]
    refine fin_pure (by simp) ?_
    simp -implicitDefEqProofs [pur2_i, pur2_b, pur2_s, pur2_nil, pur2_sl, pur2_tup, rn2_tup, rn2_agg, rn2_osl, rn1_v, rn1_osl, rn1_agg, rn0_v, rn0_sl, rn0, pickObs, pur_v, pur_b, pur_s, pur_nil, pur_sl, deI, deIs_sl]
end Go.Proofs
