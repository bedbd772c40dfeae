/-
  What is proved here: the contract of the program's applyChange. Condition: none.
-/
import Derived.Test.YteleljfnjdlnkaaGreatDoorAP4x
import Derived.Test.YteleljfnjdlnkaaGreatDoorAP1x
namespace Go.Proofs
open Go.Abs Go.Srt
set_option linter.unusedSimpArgs false
set_option linter.unnecessarySimpa false
set_option linter.unusedVariables false
set_option maxHeartbeats 16000000
set_option maxRecDepth 20000

def apX : Option Cfg → X × List Ob
  | some d => (.tup [.agg [.v (.string d.name), .osl 0 0, .osl 1 0, I d.dflt], B true], [obCls d.cls, obFil d.fil])
  | none => (.tup [.agg [.v (.string ⟨#[]⟩), .sl [], .sl [], I 0], B false], [])
theorem sPre (n : ByteArray) (ls : List Cls) (fs : List Fil) (d : Int) (h1 : ls.length ≤ 39) (h2 : fs.length ≤ 19) : M69.pre [.optr 0 0 0 0] [⟨34, 4, 0, [[.v (.string n), .osl 1 0, .osl 2 0, I d]], true, true, none⟩, ⟨58, 8, 0, tR ls, false, true, none⟩, ⟨59, 5, 0, tR fs, false, true, none⟩] := ⟨⟨n, ls, fs, d⟩, rfl, rfl, h1, h2⟩
theorem sRes (n : ByteArray) (ls ls' : List Cls) (fs fs' : List Fil) (d : Int) (e1 : stab Cls.z ltCls ls = ls') (e2 : stab Fil.z ltFil fs = fs') : M69.res [.optr 0 0 0 0] [⟨34, 4, 0, [[.v (.string n), .osl 1 0, .osl 2 0, I d]], true, true, none⟩, ⟨58, 8, 0, tR ls, false, true, none⟩, ⟨59, 5, 0, tR fs, false, true, none⟩] =
    (.tup [], [⟨34, 4, 0, [[.v (.string n), .osl 1 0, .osl 2 0, I d]], true, true, none⟩, ⟨58, 8, 0, tR ls', false, true, none⟩, ⟨59, 5, 0, tR fs', false, true, none⟩]) := by
  simp [M69, boxC, unB, srtC, obCls, obFil, e1, e2]
theorem sMu : M69.mu = [true] := rfl
theorem dcPre (l : List Cls) (i : Nat) (h : i < l.length) (h2 : l.length ≤ 1048576) : M68.pre [.osl 0 0, I i, I (i + 1)] [⟨58, 8, 0, tR l, false, true, none⟩] := ⟨l, i, rfl, rfl, h, h2⟩
theorem dcRes (l : List Cls) (i : Nat) : M68.res [.osl 0 0, I i, I (i + 1)] [⟨58, 8, 0, tR l, false, true, none⟩] = (.osl 0 1, [⟨58, 8, 1, tR (l.eraseIdx i), false, true, none⟩]) := by
  simp [M68, nACls, lOCls]
theorem dcMu : M68.mu = [true, false, false] := rfl
theorem dfPre (l : List Fil) (i : Nat) (h : i < l.length) (h2 : l.length ≤ 1048576) : M66.pre [.osl 0 0, I i, I (i + 1)] [⟨59, 5, 0, tR l, false, true, none⟩] := ⟨l, i, rfl, rfl, h, h2⟩
theorem dfRes (l : List Fil) (i : Nat) : M66.res [.osl 0 0, I i, I (i + 1)] [⟨59, 5, 0, tR l, false, true, none⟩] = (.osl 0 1, [⟨59, 5, 1, tR (l.eraseIdx i), false, true, none⟩]) := by
  simp [M66, nAFil, lOFil]
theorem dfMu : M66.mu = [true, false, false] := rfl
theorem sX (x : Chg) (l : List Cls) (i : Nat) : (tR l).set i [I x.a0, I x.a1, I x.a2, I x.a3, I x.a4, I x.a5, I x.a6, I x.a7] = tR (l.set i x.cl) := tR_set l i x.cl
theorem sY (x : Chg) (l : List Fil) (i : Nat) : (tR l).set i [I x.b0, I x.b1, I x.b2, I x.b3, I x.b4] = tR (l.set i x.fi) := tR_set l i x.fi
theorem aX (x : Chg) (l : List Cls) : tR l ++ [[I x.a0, I x.a1, I x.a2, I x.a3, I x.a4, I x.a5, I x.a6, I x.a7]] = tR (l ++ [x.cl]) := tR_append l [x.cl]
theorem aY (x : Chg) (l : List Fil) : tR l ++ [[I x.b0, I x.b1, I x.b2, I x.b3, I x.b4]] = tR (l ++ [x.fi]) := tR_append l [x.fi]
def F34 : Fun := ⟨fun xs => xs = [.agg (cX (deC (xs.getD 0 .top) : Cfg)), .agg (rX (deA (xs.getD 1 .top) : Chg))] ∧ (fun (c : Cfg) (x : Chg) => (okC c ∧ ordB c = true ∧ chOk x)) (deC (xs.getD 0 .top) : Cfg) (deA (xs.getD 1 .top) : Chg), fun xs => (fun (c : Cfg) (x : Chg) => ((apX (apR c x)) : X × List Ob)) (deC (xs.getD 0 .top) : Cfg) (deA (xs.getD 1 .top) : Chg)⟩
theorem F34_in {xs : List X} (h : F34.pre xs) : ∃ (c : Cfg) (x : Chg), xs = [.agg (cX c), .agg (rX x)] ∧ (okC c ∧ ordB c = true ∧ chOk x) := ⟨_, _, h.1, h.2⟩
theorem F34_res (c : Cfg) (x : Chg) : F34.res [.agg (cX c), .agg (rX x)] = (apX (apR c x)) := by simp [F34]
theorem F34_mk (c : Cfg) (x : Chg) (h : okC c ∧ ordB c = true ∧ chOk x) : F34.pre [.agg (cX c), .agg (rX x)] := by simpa [F34] using h
theorem c34 : GenCA K Tryz.prog 34 F34 := by
  refine contractAN Tryz.mix K [(33, F33), (65, F65), (67, F67)] [] [(66, M66), (68, M68), (69, M69)]
    (by simp [c33, c65, c67]) (by simp) (by simp [n66, n68, n69]) Tryz.func34 rfl (by decide) ?_
  intro xs hxs
  obtain ⟨c, x, rfl, ho, hb, hk1, hk6, hnm⟩ := F34_in hxs
  rw [F34_res]
  refine ⟨by rw [Tryz.ntmps34]; simp, ?_⟩
  obtain ⟨o1, o2, o3, o4⟩ := ordC_of hb
  have hoC : okC ⟨c.name, c.cls, c.fil, c.dflt⟩ := ho
  have t1 := stabC_ord o1
  have t2 := stabF_ord o2
  have m1 : ¬ (24 : Int) < c.cls.length := by omega
  have m2 : ¬ (16 : Int) < c.fil.length := by omega
  by_cases k1 : x.kind = 1
  · have hA : apR c x = some ⟨x.nm, c.cls, c.fil, c.dflt⟩ := by simp [apR, k1]
    have s1 := sPre x.nm c.cls c.fil c.dflt (by omega) (by omega)
    have s2 := sRes x.nm c.cls _ c.fil _ c.dflt t1 t2
    rw [hA]
    simp -implicitDefEqProofs [Tryz.f34, List.lookup_cons, and_assoc, pick_and, pick_or, if_and, if_or, F33, F65, F67, ho, hoC, sMu, dcMu, dfMu, pickOkN, obCls, obFil, pur2osl, purnil2, eBuildSlice, eAppend, srcRows, srcOk, chunk, k1, s1, s2, m1, m2]
    refine fin_own [3, 4] (by simp [pickOk, -List.all_eq_true, tR_ok]) ?_
    simp -implicitDefEqProofs [pur2_i, pur2_b, pur2_s, pur2_nil, pur2_sl, pur2_tup, rn2_tup, rn2_agg, rn2_osl, rn1_v, rn1_osl, rn1_agg, rn0_v, rn0_sl, rn0, pickObs, pur_v, pur_b, pur_s, pur_nil, pur_sl, deI, deIs_sl, apX, obCls, obFil]
  by_cases k2 : x.kind = 2
  · have hA : apR c x = some ⟨c.name, c.cls, c.fil, x.num⟩ := by simp [apR, k2]
    have s1 := sPre c.name c.cls c.fil x.num (by omega) (by omega)
    have s2 := sRes c.name c.cls _ c.fil _ x.num t1 t2
    rw [hA]
    simp -implicitDefEqProofs [Tryz.f34, List.lookup_cons, and_assoc, pick_and, pick_or, if_and, if_or, F33, F65, F67, ho, hoC, sMu, dcMu, dfMu, pickOkN, obCls, obFil, pur2osl, purnil2, eBuildSlice, eAppend, srcRows, srcOk, chunk, k2, s1, s2, m1, m2]
    refine fin_own [3, 4] (by simp [pickOk, -List.all_eq_true, tR_ok]) ?_
    simp -implicitDefEqProofs [pur2_i, pur2_b, pur2_s, pur2_nil, pur2_sl, pur2_tup, rn2_tup, rn2_agg, rn2_osl, rn1_v, rn1_osl, rn1_agg, rn0_v, rn0_sl, rn0, pickObs, pur_v, pur_b, pur_s, pur_nil, pur_sl, deI, deIs_sl, apX, obCls, obFil]
  by_cases k3 : x.kind = 3
  · by_cases hf : pidx c.fil x.num < 0
    · have hA : apR c x = none := by simp [apR, k3, hf]
      rw [hA]
      simp -implicitDefEqProofs [Tryz.f34, List.lookup_cons, and_assoc, pick_and, pick_or, if_and, if_or, F33, F65, F67, ho, hoC, sMu, dcMu, dfMu, pickOkN, obCls, obFil, pur2osl, purnil2, eBuildSlice, eAppend, srcRows, srcOk, chunk, k3, hf]
      refine fin_pure (by simp) ?_
      simp -implicitDefEqProofs [pur2_i, pur2_b, pur2_s, pur2_nil, pur2_sl, pur2_tup, rn2_tup, rn2_agg, rn2_osl, rn1_v, rn1_osl, rn1_agg, rn0_v, rn0_sl, rn0, pickObs, pur_v, pur_b, pur_s, pur_nil, pur_sl, deI, deIs_sl, apX, purnil2]
    · obtain ⟨i, e, hi, hk⟩ := pidx_pos hf
      have hR : remF c.fil x.num = c.fil.eraseIdx i := by simp only [remF, e, Int.toNat_natCast]; rw [if_neg (by omega)]
      have hA : apR c x = some ⟨c.name, c.cls, c.fil.eraseIdx i, c.dflt⟩ := by simp [apR, k3, hf, hR]
      have hl := (List.eraseIdx_sublist c.fil i).length_le
      have w1 := w64n (show i < 4611686018427387904 by omega)
      have d1 := dfPre c.fil i hi (by omega)
      have d2 := dfRes c.fil i
      have hn0 : ¬ (i : Int) < 0 := by omega
      have s1 := sPre c.name c.cls (c.fil.eraseIdx i) c.dflt (by omega) (by omega)
      have s2 := sRes c.name c.cls _ (c.fil.eraseIdx i) _ c.dflt t1 (stabF_ord (erase_ord o2 i))
      rw [hA]
      generalize c.fil.eraseIdx i = L at *
      have m3 : ¬ (16 : Int) < L.length := by omega
      simp -implicitDefEqProofs [Tryz.f34, List.lookup_cons, and_assoc, pick_and, pick_or, if_and, if_or, F33, F65, F67, ho, hoC, sMu, dcMu, dfMu, pickOkN, obCls, obFil, pur2osl, purnil2, eBuildSlice, eAppend, srcRows, srcOk, chunk, k3, e, hn0, w1, d1, d2, s1, s2, m1, m3]
      refine fin_own [3, 4] (by simp [pickOk, -List.all_eq_true, tR_ok]) ?_
      simp -implicitDefEqProofs [pur2_i, pur2_b, pur2_s, pur2_nil, pur2_sl, pur2_tup, rn2_tup, rn2_agg, rn2_osl, rn1_v, rn1_osl, rn1_agg, rn0_v, rn0_sl, rn0, pickObs, pur_v, pur_b, pur_s, pur_nil, pur_sl, deI, deIs_sl, apX, obCls, obFil]
  by_cases k4 : x.kind = 4
  · by_cases hf : fidx c.cls x.num < 0
    · have hA : apR c x = none := by simp [apR, k4, hf]
      rw [hA]
      simp -implicitDefEqProofs [Tryz.f34, List.lookup_cons, and_assoc, pick_and, pick_or, if_and, if_or, F33, F65, F67, ho, hoC, sMu, dcMu, dfMu, pickOkN, obCls, obFil, pur2osl, purnil2, eBuildSlice, eAppend, srcRows, srcOk, chunk, k4, hf]
      refine fin_pure (by simp) ?_
      simp -implicitDefEqProofs [pur2_i, pur2_b, pur2_s, pur2_nil, pur2_sl, pur2_tup, rn2_tup, rn2_agg, rn2_osl, rn1_v, rn1_osl, rn1_agg, rn0_v, rn0_sl, rn0, pickObs, pur_v, pur_b, pur_s, pur_nil, pur_sl, deI, deIs_sl, apX, purnil2]
    · obtain ⟨i, e, hi, hk⟩ := fidx_pos hf
      have hR : remC c.cls x.num = c.cls.eraseIdx i := by simp only [remC, e, Int.toNat_natCast]; rw [if_neg (by omega)]
      have hA : apR c x = some ⟨c.name, c.cls.eraseIdx i, c.fil, c.dflt⟩ := by simp [apR, k4, hf, hR]
      have hl := (List.eraseIdx_sublist c.cls i).length_le
      have w1 := w64n (show i < 4611686018427387904 by omega)
      have d1 := dcPre c.cls i hi (by omega)
      have d2 := dcRes c.cls i
      have hn0 : ¬ (i : Int) < 0 := by omega
      have s1 := sPre c.name (c.cls.eraseIdx i) c.fil c.dflt (by omega) (by omega)
      have s2 := sRes c.name (c.cls.eraseIdx i) _ c.fil _ c.dflt (stabC_ord (erase_ord o1 i)) t2
      rw [hA]
      generalize c.cls.eraseIdx i = L at *
      have m3 : ¬ (24 : Int) < L.length := by omega
      simp -implicitDefEqProofs [Tryz.f34, List.lookup_cons, and_assoc, pick_and, pick_or, if_and, if_or, F33, F65, F67, ho, hoC, sMu, dcMu, dfMu, pickOkN, obCls, obFil, pur2osl, purnil2, eBuildSlice, eAppend, srcRows, srcOk, chunk, k4, e, hn0, w1, d1, d2, s1, s2, m2, m3]
      refine fin_own [3, 4] (by simp [pickOk, -List.all_eq_true, tR_ok]) ?_
      simp -implicitDefEqProofs [pur2_i, pur2_b, pur2_s, pur2_nil, pur2_sl, pur2_tup, rn2_tup, rn2_agg, rn2_osl, rn1_v, rn1_osl, rn1_agg, rn0_v, rn0_sl, rn0, pickObs, pur_v, pur_b, pur_s, pur_nil, pur_sl, deI, deIs_sl, apX, obCls, obFil]
  by_cases k5 : x.kind = 5
  · have hpl := putC_len c.cls x.cl
    have fin : ∀ L : List Cls, L.length ≤ 39 → stab Cls.z ltCls L = putC c.cls x.cl → M69.pre [.optr 0 0 0 0] [⟨34, 4, 0, [[.v (.string c.name), .osl 1 0, .osl 2 0, I c.dflt]], true, true, none⟩, ⟨58, 8, 0, tR L, false, true, none⟩, ⟨59, 5, 0, tR c.fil, false, true, none⟩] ∧ _ := fun L h e => ⟨sPre c.name L c.fil c.dflt h (by omega), sRes c.name L _ c.fil _ c.dflt e t2⟩
    have hidE : x.cl.id = x.a0 := rfl
    by_cases hf : fidx c.cls x.a0 < 0
    · obtain ⟨s1, s2⟩ := fin (c.cls ++ [x.cl]) (by simp; omega) (stabC_app o1 x.cl hf)
      have hn0 : ¬ 0 ≤ fidx c.cls x.a0 := by omega
      by_cases hl : (putC c.cls x.cl).length ≤ 24
      · have hA : apR c x = some ⟨c.name, putC c.cls x.cl, c.fil, c.dflt⟩ := by simp [apR, k5, hl]
        rw [hA]
        generalize putC c.cls x.cl = L at *
        have m3 : ¬ (24 : Int) < L.length := by omega
        simp -implicitDefEqProofs [Tryz.f34, List.lookup_cons, and_assoc, pick_and, pick_or, if_and, if_or, F33, F65, F67, ho, hoC, sMu, dcMu, dfMu, pickOkN, obCls, obFil, pur2osl, purnil2, eBuildSlice, eAppend, srcRows, srcOk, chunk, k5, hf, hn0, aX, s1, s2, m2, m3]
        refine ⟨by omega, by omega, fin_own [3, 4] (by simp [pickOk, -List.all_eq_true, tR_ok]) ?_⟩
        simp -implicitDefEqProofs [pur2_i, pur2_b, pur2_s, pur2_nil, pur2_sl, pur2_tup, rn2_tup, rn2_agg, rn2_osl, rn1_v, rn1_osl, rn1_agg, rn0_v, rn0_sl, rn0, pickObs, pur_v, pur_b, pur_s, pur_nil, pur_sl, deI, deIs_sl, apX, obCls, obFil]
      · have hA : apR c x = none := by simp [apR, k5, hl]
        rw [hA]
        generalize putC c.cls x.cl = L at *
        have m3 : (24 : Int) < L.length := by omega
        simp -implicitDefEqProofs [Tryz.f34, List.lookup_cons, and_assoc, pick_and, pick_or, if_and, if_or, F33, F65, F67, ho, hoC, sMu, dcMu, dfMu, pickOkN, obCls, obFil, pur2osl, purnil2, eBuildSlice, eAppend, srcRows, srcOk, chunk, k5, hf, hn0, aX, s1, s2, m2, m3]
        refine ⟨by omega, by omega, fin_pure (by simp) ?_⟩
        simp -implicitDefEqProofs [pur2_i, pur2_b, pur2_s, pur2_nil, pur2_sl, pur2_tup, rn2_tup, rn2_agg, rn2_osl, rn1_v, rn1_osl, rn1_agg, rn0_v, rn0_sl, rn0, pickObs, pur_v, pur_b, pur_s, pur_nil, pur_sl, deI, deIs_sl, apX, purnil2]
    · obtain ⟨i, e, hi, hk⟩ := fidx_pos hf
      obtain ⟨s1, s2⟩ := fin (c.cls.set i x.cl) (by simp; omega) (stabC_set o1 x.cl hi e hk)
      have hl : (putC c.cls x.cl).length ≤ 24 := by
        unfold putC remC
        rw [hidE, e, if_neg (by omega), insK_len, Int.toNat_natCast, List.length_eraseIdx_of_lt hi]
        omega
      have hA : apR c x = some ⟨c.name, putC c.cls x.cl, c.fil, c.dflt⟩ := by simp [apR, k5, hl]
      rw [hA]
      generalize putC c.cls x.cl = L at *
      have m3 : ¬ (24 : Int) < L.length := by omega
      simp -implicitDefEqProofs [Tryz.f34, List.lookup_cons, and_assoc, pick_and, pick_or, if_and, if_or, F33, F65, F67, ho, hoC, sMu, dcMu, dfMu, pickOkN, obCls, obFil, pur2osl, purnil2, eBuildSlice, eAppend, srcRows, srcOk, chunk, k5, e, hi, sX, s1, s2, m2, m3]
      refine fin_own [3, 4] (by simp [pickOk, -List.all_eq_true, tR_ok]) ?_
      simp -implicitDefEqProofs [pur2_i, pur2_b, pur2_s, pur2_nil, pur2_sl, pur2_tup, rn2_tup, rn2_agg, rn2_osl, rn1_v, rn1_osl, rn1_agg, rn0_v, rn0_sl, rn0, pickObs, pur_v, pur_b, pur_s, pur_nil, pur_sl, deI, deIs_sl, apX, obCls, obFil]
  have k6 : x.kind = 6 := by omega
  have hpl := putF_len c.fil x.fi
  have fin : ∀ L : List Fil, L.length ≤ 19 → stab Fil.z ltFil L = putF c.fil x.fi → M69.pre [.optr 0 0 0 0] [⟨34, 4, 0, [[.v (.string c.name), .osl 1 0, .osl 2 0, I c.dflt]], true, true, none⟩, ⟨58, 8, 0, tR c.cls, false, true, none⟩, ⟨59, 5, 0, tR L, false, true, none⟩] ∧ _ := fun L h e => ⟨sPre c.name c.cls L c.dflt (by omega) h, sRes c.name c.cls _ L _ c.dflt t1 e⟩
  have hidE : x.fi.prio = x.b0 := rfl
  by_cases hf : pidx c.fil x.b0 < 0
  · obtain ⟨s1, s2⟩ := fin (c.fil ++ [x.fi]) (by simp; omega) (stabF_app o2 x.fi hf)
    have hn0 : ¬ 0 ≤ pidx c.fil x.b0 := by omega
    by_cases hl : (putF c.fil x.fi).length ≤ 16
    · have hA : apR c x = some ⟨c.name, c.cls, putF c.fil x.fi, c.dflt⟩ := by simp [apR, k6, hl]
      rw [hA]
      generalize putF c.fil x.fi = L at *
      have m3 : ¬ (16 : Int) < L.length := by omega
      simp -implicitDefEqProofs [Tryz.f34, List.lookup_cons, and_assoc, pick_and, pick_or, if_and, if_or, F33, F65, F67, ho, hoC, sMu, dcMu, dfMu, pickOkN, obCls, obFil, pur2osl, purnil2, eBuildSlice, eAppend, srcRows, srcOk, chunk, k6, hf, hn0, aY, s1, s2, m1, m3]
      refine ⟨by omega, by omega, fin_own [3, 4] (by simp [pickOk, -List.all_eq_true, tR_ok]) ?_⟩
      simp -implicitDefEqProofs [pur2_i, pur2_b, pur2_s, pur2_nil, pur2_sl, pur2_tup, rn2_tup, rn2_agg, rn2_osl, rn1_v, rn1_osl, rn1_agg, rn0_v, rn0_sl, rn0, pickObs, pur_v, pur_b, pur_s, pur_nil, pur_sl, deI, deIs_sl, apX, obCls, obFil]
    · have hA : apR c x = none := by simp [apR, k6, hl]
      rw [hA]
      generalize putF c.fil x.fi = L at *
      have m3 : (16 : Int) < L.length := by omega
      simp -implicitDefEqProofs [Tryz.f34, List.lookup_cons, and_assoc, pick_and, pick_or, if_and, if_or, F33, F65, F67, ho, hoC, sMu, dcMu, dfMu, pickOkN, obCls, obFil, pur2osl, purnil2, eBuildSlice, eAppend, srcRows, srcOk, chunk, k6, hf, hn0, aY, s1, s2, m1, m3]
      refine ⟨by omega, by omega, fin_pure (by simp) ?_⟩
      simp -implicitDefEqProofs [pur2_i, pur2_b, pur2_s, pur2_nil, pur2_sl, pur2_tup, rn2_tup, rn2_agg, rn2_osl, rn1_v, rn1_osl, rn1_agg, rn0_v, rn0_sl, rn0, pickObs, pur_v, pur_b, pur_s, pur_nil, pur_sl, deI, deIs_sl, apX, purnil2]
  · obtain ⟨i, e, hi, hk⟩ := pidx_pos hf
    obtain ⟨s1, s2⟩ := fin (c.fil.set i x.fi) (by simp; omega) (stabF_set o2 x.fi hi e hk)
    have hl : (putF c.fil x.fi).length ≤ 16 := by
      unfold putF remF
      rw [hidE, e, if_neg (by omega), insK_len, Int.toNat_natCast, List.length_eraseIdx_of_lt hi]
      omega
    have hA : apR c x = some ⟨c.name, c.cls, putF c.fil x.fi, c.dflt⟩ := by simp [apR, k6, hl]
    rw [hA]
    generalize putF c.fil x.fi = L at *
    have m3 : ¬ (16 : Int) < L.length := by omega
    simp -implicitDefEqProofs [Tryz.f34, List.lookup_cons, and_assoc, pick_and, pick_or, if_and, if_or, F33, F65, F67, ho, hoC, sMu, dcMu, dfMu, pickOkN, obCls, obFil, pur2osl, purnil2, eBuildSlice, eAppend, srcRows, srcOk, chunk, k6, e, hi, sY, s1, s2, m1, m3]
    refine fin_own [3, 4] (by simp [pickOk, -List.all_eq_true, tR_ok]) ?_
    simp -implicitDefEqProofs [pur2_i, pur2_b, pur2_s, pur2_nil, pur2_sl, pur2_tup, rn2_tup, rn2_agg, rn2_osl, rn1_v, rn1_osl, rn1_agg, rn0_v, rn0_sl, rn0, pickObs, pur_v, pur_b, pur_s, pur_nil, pur_sl, deI, deIs_sl, apX, obCls, obFil]
end Go.Proofs
