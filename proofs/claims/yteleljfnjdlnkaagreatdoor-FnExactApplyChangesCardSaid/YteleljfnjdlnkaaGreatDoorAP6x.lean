/-
  What is proved here: the contract of the reference's dfApply. Condition: none.
-/
import Derived.Test.YteleljfnjdlnkaaGreatDoorAP4x
namespace Go.Proofs
open Go.Abs Go.Srt
set_option linter.unusedSimpArgs false
set_option linter.unnecessarySimpa false
set_option linter.unusedVariables false
set_option maxHeartbeats 16000000
set_option maxRecDepth 20000

def rpX : Option Cfg → X × List Ob
  | some d => (.tup [.agg (cX d), B true], [])
  | none => (.tup [.agg [.v (.string ⟨#[]⟩), .sl [], .sl [], I 0], B false], [])
/-- a change as far as the reference looks at it -/
def chOk2 (x : Chg) : Prop := chOk x ∧ (x.kind = 3 → x.b0 = 0) ∧ (x.kind = 6 → x.num = 0) ∧ (x.kind = 4 → x.a0 = 0) ∧ (x.kind = 5 → x.num = 0) ∧ -1000000 ≤ x.num ∧ x.num ≤ 1000000 ∧ -1000000 ≤ x.a0 ∧ x.a0 ≤ 1000000 ∧ -1000000 ≤ x.b0 ∧ x.b0 ≤ 1000000
theorem ordB_big {c : Cfg} (h : ¬ c.cls.length ≤ 24 ∨ ¬ c.fil.length ≤ 16) : ordB c = false := by
  rcases h with h | h <;> simp [ordB, h]
theorem xcl (x : Chg) : (.agg [I x.a0, I x.a1, I x.a2, I x.a3, I x.a4, I x.a5, I x.a6, I x.a7] : X) = .agg (rX x.cl) := rfl
theorem xfi (x : Chg) : (.agg [I x.b0, I x.b1, I x.b2, I x.b3, I x.b4] : X) = .agg (rX x.fi) := rfl
def F27 : Fun := ⟨fun xs => xs = [.agg (cX (deC (xs.getD 0 .top) : Cfg)), .agg (rX (deA (xs.getD 1 .top) : Chg))] ∧ (fun (c : Cfg) (x : Chg) => (okC c ∧ ordB c = true ∧ chOk2 x)) (deC (xs.getD 0 .top) : Cfg) (deA (xs.getD 1 .top) : Chg), fun xs => (fun (c : Cfg) (x : Chg) => ((rpX (apR c x)) : X × List Ob)) (deC (xs.getD 0 .top) : Cfg) (deA (xs.getD 1 .top) : Chg)⟩
theorem F27_in {xs : List X} (h : F27.pre xs) : ∃ (c : Cfg) (x : Chg), xs = [.agg (cX c), .agg (rX x)] ∧ (okC c ∧ ordB c = true ∧ chOk2 x) := ⟨_, _, h.1, h.2⟩
theorem F27_res (c : Cfg) (x : Chg) : F27.res [.agg (cX c), .agg (rX x)] = (rpX (apR c x)) := by simp [F27]
theorem F27_mk (c : Cfg) (x : Chg) (h : okC c ∧ ordB c = true ∧ chOk2 x) : F27.pre [.agg (cX c), .agg (rX x)] := by simpa [F27] using h
theorem c27 : GenCA K Tryz.prog 27 F27 := by
  refine contractA Tryz.mix K [(53, F53), (54, F65), (56, F67), (57, F57), (55, F55), (58, F58)] []
    (by simp [c53, c54, c56, c57, c55, c58]) (by simp) Tryz.func27 rfl (by decide) ?_
  intro xs hxs
  obtain ⟨c, x, rfl, ho, hb, ⟨hk1, hk6, hnm⟩, q3, q6, q4, q5, r1, r2, r3, r4, r5, r6⟩ := F27_in hxs
  rw [F27_res]
  refine ⟨by rw [Tryz.ntmps27]; simp, ?_⟩
  obtain ⟨o1, o2, o3, o4⟩ := ordC_of hb
  obtain ⟨z1, z2, z3⟩ := ho
  have ho : okC ⟨c.name, c.cls, c.fil, c.dflt⟩ := ⟨z1, z2, z3⟩
  by_cases k1 : x.kind = 1
  · have hA : apR c x = some ⟨x.nm, c.cls, c.fil, c.dflt⟩ := by simp [apR, k1]
    have hoD : okC ⟨x.nm, c.cls, c.fil, c.dflt⟩ := apR_okC hb ho hnm hA
    have hoB : ordB ⟨x.nm, c.cls, c.fil, c.dflt⟩ = true := apR_ord hb hA
    rw [hA]
    simp -implicitDefEqProofs [Tryz.f27, List.lookup_cons, and_assoc, pick_and, pick_or, if_and, if_or, F53, F65, F67, F57, F55, F58, ho, obCls, obFil, pur2osl, purnil2, k1, hoD, hoB]
    refine fin_pure (by simp) ?_
    simp -implicitDefEqProofs [pur2_i, pur2_b, pur2_s, pur2_nil, pur2_sl, pur2_tup, rn2_tup, rn2_agg, rn2_osl, rn1_v, rn1_osl, rn1_agg, rn0_v, rn0_sl, rn0, pickObs, pur_v, pur_b, pur_s, pur_nil, pur_sl, deI, deIs_sl, rpX, purnil2, pur2osl]
  by_cases k2 : x.kind = 2
  · have hA : apR c x = some ⟨c.name, c.cls, c.fil, x.num⟩ := by simp [apR, k2]
    have hoD : okC ⟨c.name, c.cls, c.fil, x.num⟩ := apR_okC hb ho hnm hA
    have hoB : ordB ⟨c.name, c.cls, c.fil, x.num⟩ = true := apR_ord hb hA
    rw [hA]
    simp -implicitDefEqProofs [Tryz.f27, List.lookup_cons, and_assoc, pick_and, pick_or, if_and, if_or, F53, F65, F67, F57, F55, F58, ho, obCls, obFil, pur2osl, purnil2, k2, hoD, hoB]
    refine fin_pure (by simp) ?_
    simp -implicitDefEqProofs [pur2_i, pur2_b, pur2_s, pur2_nil, pur2_sl, pur2_tup, rn2_tup, rn2_agg, rn2_osl, rn1_v, rn1_osl, rn1_agg, rn0_v, rn0_sl, rn0, pickObs, pur_v, pur_b, pur_s, pur_nil, pur_sl, deI, deIs_sl, rpX, purnil2, pur2osl]
  by_cases k3 : x.kind = 3
  · have hs : IntKind.i64.wrap (x.num + x.b0) = x.num := by rw [q3 k3, Int.add_zero]; exact w64 (by omega) (by omega)
    by_cases hf : pidx c.fil x.num < 0
    · have hA : apR c x = none := by simp [apR, k3, hf]
      have hn : ¬ 0 ≤ pidx c.fil x.num := by omega
      rw [hA]
      simp -implicitDefEqProofs [Tryz.f27, List.lookup_cons, and_assoc, pick_and, pick_or, if_and, if_or, F53, F65, F67, F57, F55, F58, ho, obCls, obFil, pur2osl, purnil2, k3, hs, hf, hn]
      refine fin_pure (by simp) ?_
      simp -implicitDefEqProofs [pur2_i, pur2_b, pur2_s, pur2_nil, pur2_sl, pur2_tup, rn2_tup, rn2_agg, rn2_osl, rn1_v, rn1_osl, rn1_agg, rn0_v, rn0_sl, rn0, pickObs, pur_v, pur_b, pur_s, pur_nil, pur_sl, deI, deIs_sl, rpX, purnil2, pur2osl]
    · have hR := hf
      obtain ⟨i, e, hi, hk⟩ := pidx_pos hf
      have w1 := w64n (show i < 4611686018427387904 by omega)
      have hle : i ≤ c.fil.length := by omega
      have hile : (i : Int) ≤ c.fil.length := by omega
      have hle1 : (i : Int) + 1 ≤ c.fil.length := by omega
      have h01 : (0 : Int) ≤ (i : Int) + 1 := by omega
      have hi1 : ((i : Int) + 1).toNat = i + 1 := by omega
      have hn0 : ¬ (i : Int) < 0 := by omega
      have hdk : List.take (c.fil.length - (i + 1)) (List.drop (i + 1) c.fil) = List.drop (i + 1) c.fil := List.take_of_length_le (by simp)
      have hE : List.take i c.fil ++ List.drop (i + 1) c.fil = c.fil.eraseIdx i := (List.eraseIdx_eq_take_drop_succ _ _).symm
      have hl := (List.eraseIdx_sublist c.fil i).length_le
      have hz : ∀ m : List Fil, ∀ r ∈ tR m, r.length = 5 := fun m => tR_rows rfl m
      have hR : remF c.fil x.num = c.fil.eraseIdx i := by simp only [remF, e, Int.toNat_natCast]; rw [if_neg (by omega)]
      have hA : apR c x = some ⟨c.name, c.cls, c.fil.eraseIdx i, c.dflt⟩ := by simp [apR, k3, hf, hR]
      have hoD := apR_okC hb ho hnm hA
      have hoB := apR_ord hb hA
      rw [hA]
      generalize c.fil.eraseIdx i = L at *
      simp -implicitDefEqProofs [Tryz.f27, List.lookup_cons, and_assoc, pick_and, pick_or, if_and, if_or, F53, F65, F67, F57, F55, F58, ho, obCls, obFil, pur2osl, purnil2, k3, hs, e, hn0]
      refine drawP_x _ [(0, 0), (1, 0), (2, 0), (3, 0), (4, 0), (5, 1), (6, 0), (7, 0), (8, 0), (9, 0), (10, 0), (11, 2), (12, 3), (13, 3)] [0, 5, 11, 13] (by decide) ?_
      simp -implicitDefEqProofs [Tryz.f27, List.lookup_cons, and_assoc, pick_and, pick_or, if_and, if_or, F53, F65, F67, F57, F55, F58, ho, obCls, obFil, pur2osl, purnil2, k3, eSlice, bnd, eBuildSlice, eAppend, srcRows, srcOk, chunk, fillX, tR_take, tR_drop, hn0, w1, hile, hle1, h01, hi1, hdk, hE, hoD, hoB]
      refine ⟨hz _, hz _, by omega, by omega, hz _, hz _, by omega, by omega, ?_⟩
      refine fin_pure (by simp) ?_
      simp -implicitDefEqProofs [pur2_i, pur2_b, pur2_s, pur2_nil, pur2_sl, pur2_tup, rn2_tup, rn2_agg, rn2_osl, rn1_v, rn1_osl, rn1_agg, rn0_v, rn0_sl, rn0, pickObs, pur_v, pur_b, pur_s, pur_nil, pur_sl, deI, deIs_sl, rpX, purnil2, pur2osl]
  by_cases k6 : x.kind = 6
  · have hs : IntKind.i64.wrap (x.num + x.b0) = x.b0 := by rw [q6 k6, Int.zero_add]; exact w64 (by omega) (by omega)
    have hz : ∀ m : List Fil, ∀ r ∈ tR m, r.length = 5 := fun m => tR_rows rfl m
    have hrl := remF_len c.fil x.b0
    have hpl := putF_len c.fil x.fi
    have hkey : x.fi.prio = x.b0 := rfl
    by_cases hf : pidx c.fil x.b0 < 0
    · have hn : ¬ 0 ≤ pidx c.fil x.b0 := by omega
      have hR : insK (fun y : Fil => y.prio) x.fi c.fil = putF c.fil x.fi := by unfold putF remF; rw [hkey, if_pos hf]
      by_cases hl : (putF c.fil x.fi).length ≤ 16
      · have hA : apR c x = some ⟨c.name, c.cls, putF c.fil x.fi, c.dflt⟩ := by simp [apR, k6, hl]
        have hoD := apR_okC hb ho hnm hA
        have hoB := apR_ord hb hA
        rw [hA]
        generalize putF c.fil x.fi = L at *
        simp -implicitDefEqProofs [Tryz.f27, List.lookup_cons, and_assoc, pick_and, pick_or, if_and, if_or, F53, F65, F67, F57, F55, F58, ho, obCls, obFil, pur2osl, purnil2, k6, hs, hf, hn, xfi, hR, hoD, hoB, z2]
        refine fin_pure (by simp) ?_
        simp -implicitDefEqProofs [pur2_i, pur2_b, pur2_s, pur2_nil, pur2_sl, pur2_tup, rn2_tup, rn2_agg, rn2_osl, rn1_v, rn1_osl, rn1_agg, rn0_v, rn0_sl, rn0, pickObs, pur_v, pur_b, pur_s, pur_nil, pur_sl, deI, deIs_sl, rpX, purnil2, pur2osl]
      · have hA : apR c x = none := by simp [apR, k6, hl]
        have hoD : okC ⟨c.name, c.cls, putF c.fil x.fi, c.dflt⟩ := ⟨by simp only; omega, by simp only; omega, z3⟩
        have hoB : ordB ⟨c.name, c.cls, putF c.fil x.fi, c.dflt⟩ = false := ordB_big (by simp only; omega)
        rw [hA]
        generalize putF c.fil x.fi = L at *
        simp -implicitDefEqProofs [Tryz.f27, List.lookup_cons, and_assoc, pick_and, pick_or, if_and, if_or, F53, F65, F67, F57, F55, F58, ho, obCls, obFil, pur2osl, purnil2, k6, hs, hf, hn, xfi, hR, hoD, hoB, z2]
        refine fin_pure (by simp) ?_
        simp -implicitDefEqProofs [pur2_i, pur2_b, pur2_s, pur2_nil, pur2_sl, pur2_tup, rn2_tup, rn2_agg, rn2_osl, rn1_v, rn1_osl, rn1_agg, rn0_v, rn0_sl, rn0, pickObs, pur_v, pur_b, pur_s, pur_nil, pur_sl, deI, deIs_sl, rpX, purnil2, pur2osl]
    · have hR := hf
      obtain ⟨i, e, hi, hk⟩ := pidx_pos hf
      have w1 := w64n (show i < 4611686018427387904 by omega)
      have hle : i ≤ c.fil.length := by omega
      have hile : (i : Int) ≤ c.fil.length := by omega
      have hle1 : (i : Int) + 1 ≤ c.fil.length := by omega
      have h01 : (0 : Int) ≤ (i : Int) + 1 := by omega
      have hi1 : ((i : Int) + 1).toNat = i + 1 := by omega
      have hn0 : ¬ (i : Int) < 0 := by omega
      have hdk : List.take (c.fil.length - (i + 1)) (List.drop (i + 1) c.fil) = List.drop (i + 1) c.fil := List.take_of_length_le (by simp)
      have hE : List.take i c.fil ++ List.drop (i + 1) c.fil = c.fil.eraseIdx i := (List.eraseIdx_eq_take_drop_succ _ _).symm
      have hl := (List.eraseIdx_sublist c.fil i).length_le
      have hz : ∀ m : List Fil, ∀ r ∈ tR m, r.length = 5 := fun m => tR_rows rfl m
      have hR : insK (fun y : Fil => y.prio) x.fi (c.fil.eraseIdx i) = putF c.fil x.fi := by unfold putF remF; rw [hkey, e, if_neg (by omega), Int.toNat_natCast]
      have hl2 : (putF c.fil x.fi).length ≤ 16 := by
        rw [← hR, insK_len, List.length_eraseIdx_of_lt hi]
        omega
      have hlim : (c.fil.eraseIdx i).length ≤ 1048576 := by omega
      have hA : apR c x = some ⟨c.name, c.cls, putF c.fil x.fi, c.dflt⟩ := by simp [apR, k6, hl2]
      have hoD := apR_okC hb ho hnm hA
      have hoB := apR_ord hb hA
      rw [hA]
      generalize putF c.fil x.fi = L at *
      generalize c.fil.eraseIdx i = R at *
      simp -implicitDefEqProofs [Tryz.f27, List.lookup_cons, and_assoc, pick_and, pick_or, if_and, if_or, F53, F65, F67, F57, F55, F58, ho, obCls, obFil, pur2osl, purnil2, k6, hs, e, hn0]
      refine drawP_x _ [(0, 0), (1, 0), (2, 0), (3, 0), (4, 0), (5, 1), (6, 0), (7, 0), (8, 0), (9, 0), (10, 0), (11, 2), (12, 3), (13, 3)] [0, 5, 11, 13] (by decide) ?_
      simp -implicitDefEqProofs [Tryz.f27, List.lookup_cons, and_assoc, pick_and, pick_or, if_and, if_or, F53, F65, F67, F57, F55, F58, ho, obCls, obFil, pur2osl, purnil2, k6, eSlice, bnd, eBuildSlice, eAppend, srcRows, srcOk, chunk, fillX, tR_take, tR_drop, hn0, w1, hile, hle1, h01, hi1, hdk, hE, xfi, hR, hoD, hoB, hlim]
      refine ⟨hz _, hz _, by omega, by omega, hz _, hz _, by omega, by omega, ?_⟩
      refine fin_pure (by simp) ?_
      simp -implicitDefEqProofs [pur2_i, pur2_b, pur2_s, pur2_nil, pur2_sl, pur2_tup, rn2_tup, rn2_agg, rn2_osl, rn1_v, rn1_osl, rn1_agg, rn0_v, rn0_sl, rn0, pickObs, pur_v, pur_b, pur_s, pur_nil, pur_sl, deI, deIs_sl, rpX, purnil2, pur2osl]
  by_cases k4 : x.kind = 4
  · have hs : IntKind.i64.wrap (x.num + x.a0) = x.num := by rw [q4 k4, Int.add_zero]; exact w64 (by omega) (by omega)
    by_cases hf : fidx c.cls x.num < 0
    · have hA : apR c x = none := by simp [apR, k4, hf]
      have hn : ¬ 0 ≤ fidx c.cls x.num := by omega
      rw [hA]
      simp -implicitDefEqProofs [Tryz.f27, List.lookup_cons, and_assoc, pick_and, pick_or, if_and, if_or, F53, F65, F67, F57, F55, F58, ho, obCls, obFil, pur2osl, purnil2, k4, hs, hf, hn]
      refine fin_pure (by simp) ?_
      simp -implicitDefEqProofs [pur2_i, pur2_b, pur2_s, pur2_nil, pur2_sl, pur2_tup, rn2_tup, rn2_agg, rn2_osl, rn1_v, rn1_osl, rn1_agg, rn0_v, rn0_sl, rn0, pickObs, pur_v, pur_b, pur_s, pur_nil, pur_sl, deI, deIs_sl, rpX, purnil2, pur2osl]
    · have hR := hf
      obtain ⟨i, e, hi, hk⟩ := fidx_pos hf
      have w1 := w64n (show i < 4611686018427387904 by omega)
      have hle : i ≤ c.cls.length := by omega
      have hile : (i : Int) ≤ c.cls.length := by omega
      have hle1 : (i : Int) + 1 ≤ c.cls.length := by omega
      have h01 : (0 : Int) ≤ (i : Int) + 1 := by omega
      have hi1 : ((i : Int) + 1).toNat = i + 1 := by omega
      have hn0 : ¬ (i : Int) < 0 := by omega
      have hdk : List.take (c.cls.length - (i + 1)) (List.drop (i + 1) c.cls) = List.drop (i + 1) c.cls := List.take_of_length_le (by simp)
      have hE : List.take i c.cls ++ List.drop (i + 1) c.cls = c.cls.eraseIdx i := (List.eraseIdx_eq_take_drop_succ _ _).symm
      have hl := (List.eraseIdx_sublist c.cls i).length_le
      have hz : ∀ m : List Cls, ∀ r ∈ tR m, r.length = 8 := fun m => tR_rows rfl m
      have hR : remC c.cls x.num = c.cls.eraseIdx i := by simp only [remC, e, Int.toNat_natCast]; rw [if_neg (by omega)]
      have hA : apR c x = some ⟨c.name, c.cls.eraseIdx i, c.fil, c.dflt⟩ := by simp [apR, k4, hf, hR]
      have hoD := apR_okC hb ho hnm hA
      have hoB := apR_ord hb hA
      rw [hA]
      generalize c.cls.eraseIdx i = L at *
      simp -implicitDefEqProofs [Tryz.f27, List.lookup_cons, and_assoc, pick_and, pick_or, if_and, if_or, F53, F65, F67, F57, F55, F58, ho, obCls, obFil, pur2osl, purnil2, k4, hs, e, hn0]
      refine drawP_x _ [(0, 0), (1, 0), (2, 0), (3, 0), (4, 0), (5, 1), (6, 0), (7, 0), (8, 0), (9, 0), (10, 0), (11, 2), (12, 3), (13, 3)] [0, 5, 11, 13] (by decide) ?_
      simp -implicitDefEqProofs [Tryz.f27, List.lookup_cons, and_assoc, pick_and, pick_or, if_and, if_or, F53, F65, F67, F57, F55, F58, ho, obCls, obFil, pur2osl, purnil2, k4, eSlice, bnd, eBuildSlice, eAppend, srcRows, srcOk, chunk, fillX, tR_take, tR_drop, hn0, w1, hile, hle1, h01, hi1, hdk, hE, hoD, hoB]
      refine ⟨hz _, hz _, by omega, by omega, hz _, hz _, by omega, by omega, ?_⟩
      refine fin_pure (by simp) ?_
      simp -implicitDefEqProofs [pur2_i, pur2_b, pur2_s, pur2_nil, pur2_sl, pur2_tup, rn2_tup, rn2_agg, rn2_osl, rn1_v, rn1_osl, rn1_agg, rn0_v, rn0_sl, rn0, pickObs, pur_v, pur_b, pur_s, pur_nil, pur_sl, deI, deIs_sl, rpX, purnil2, pur2osl]
  by_cases k5 : x.kind = 5
  · have hs : IntKind.i64.wrap (x.num + x.a0) = x.a0 := by rw [q5 k5, Int.zero_add]; exact w64 (by omega) (by omega)
    have hz : ∀ m : List Cls, ∀ r ∈ tR m, r.length = 8 := fun m => tR_rows rfl m
    have hrl := remC_len c.cls x.a0
    have hpl := putC_len c.cls x.cl
    have hkey : x.cl.id = x.a0 := rfl
    by_cases hf : fidx c.cls x.a0 < 0
    · have hn : ¬ 0 ≤ fidx c.cls x.a0 := by omega
      have hR : insK (fun y : Cls => y.id) x.cl c.cls = putC c.cls x.cl := by unfold putC remC; rw [hkey, if_pos hf]
      by_cases hl : (putC c.cls x.cl).length ≤ 24
      · have hA : apR c x = some ⟨c.name, putC c.cls x.cl, c.fil, c.dflt⟩ := by simp [apR, k5, hl]
        have hoD := apR_okC hb ho hnm hA
        have hoB := apR_ord hb hA
        rw [hA]
        generalize putC c.cls x.cl = L at *
        simp -implicitDefEqProofs [Tryz.f27, List.lookup_cons, and_assoc, pick_and, pick_or, if_and, if_or, F53, F65, F67, F57, F55, F58, ho, obCls, obFil, pur2osl, purnil2, k5, hs, hf, hn, xcl, hR, hoD, hoB, z1]
        refine fin_pure (by simp) ?_
        simp -implicitDefEqProofs [pur2_i, pur2_b, pur2_s, pur2_nil, pur2_sl, pur2_tup, rn2_tup, rn2_agg, rn2_osl, rn1_v, rn1_osl, rn1_agg, rn0_v, rn0_sl, rn0, pickObs, pur_v, pur_b, pur_s, pur_nil, pur_sl, deI, deIs_sl, rpX, purnil2, pur2osl]
      · have hA : apR c x = none := by simp [apR, k5, hl]
        have hoD : okC ⟨c.name, putC c.cls x.cl, c.fil, c.dflt⟩ := ⟨by simp only; omega, by simp only; omega, z3⟩
        have hoB : ordB ⟨c.name, putC c.cls x.cl, c.fil, c.dflt⟩ = false := ordB_big (by simp only; omega)
        rw [hA]
        generalize putC c.cls x.cl = L at *
        simp -implicitDefEqProofs [Tryz.f27, List.lookup_cons, and_assoc, pick_and, pick_or, if_and, if_or, F53, F65, F67, F57, F55, F58, ho, obCls, obFil, pur2osl, purnil2, k5, hs, hf, hn, xcl, hR, hoD, hoB, z1]
        refine fin_pure (by simp) ?_
        simp -implicitDefEqProofs [pur2_i, pur2_b, pur2_s, pur2_nil, pur2_sl, pur2_tup, rn2_tup, rn2_agg, rn2_osl, rn1_v, rn1_osl, rn1_agg, rn0_v, rn0_sl, rn0, pickObs, pur_v, pur_b, pur_s, pur_nil, pur_sl, deI, deIs_sl, rpX, purnil2, pur2osl]
    · have hR := hf
      obtain ⟨i, e, hi, hk⟩ := fidx_pos hf
      have w1 := w64n (show i < 4611686018427387904 by omega)
      have hle : i ≤ c.cls.length := by omega
      have hile : (i : Int) ≤ c.cls.length := by omega
      have hle1 : (i : Int) + 1 ≤ c.cls.length := by omega
      have h01 : (0 : Int) ≤ (i : Int) + 1 := by omega
      have hi1 : ((i : Int) + 1).toNat = i + 1 := by omega
      have hn0 : ¬ (i : Int) < 0 := by omega
      have hdk : List.take (c.cls.length - (i + 1)) (List.drop (i + 1) c.cls) = List.drop (i + 1) c.cls := List.take_of_length_le (by simp)
      have hE : List.take i c.cls ++ List.drop (i + 1) c.cls = c.cls.eraseIdx i := (List.eraseIdx_eq_take_drop_succ _ _).symm
      have hl := (List.eraseIdx_sublist c.cls i).length_le
      have hz : ∀ m : List Cls, ∀ r ∈ tR m, r.length = 8 := fun m => tR_rows rfl m
      have hR : insK (fun y : Cls => y.id) x.cl (c.cls.eraseIdx i) = putC c.cls x.cl := by unfold putC remC; rw [hkey, e, if_neg (by omega), Int.toNat_natCast]
      have hl2 : (putC c.cls x.cl).length ≤ 24 := by
        rw [← hR, insK_len, List.length_eraseIdx_of_lt hi]
        omega
      have hlim : (c.cls.eraseIdx i).length ≤ 1048576 := by omega
      have hA : apR c x = some ⟨c.name, putC c.cls x.cl, c.fil, c.dflt⟩ := by simp [apR, k5, hl2]
      have hoD := apR_okC hb ho hnm hA
      have hoB := apR_ord hb hA
      rw [hA]
      generalize putC c.cls x.cl = L at *
      generalize c.cls.eraseIdx i = R at *
      simp -implicitDefEqProofs [Tryz.f27, List.lookup_cons, and_assoc, pick_and, pick_or, if_and, if_or, F53, F65, F67, F57, F55, F58, ho, obCls, obFil, pur2osl, purnil2, k5, hs, e, hn0]
      refine drawP_x _ [(0, 0), (1, 0), (2, 0), (3, 0), (4, 0), (5, 1), (6, 0), (7, 0), (8, 0), (9, 0), (10, 0), (11, 2), (12, 3), (13, 3)] [0, 5, 11, 13] (by decide) ?_
      simp -implicitDefEqProofs [Tryz.f27, List.lookup_cons, and_assoc, pick_and, pick_or, if_and, if_or, F53, F65, F67, F57, F55, F58, ho, obCls, obFil, pur2osl, purnil2, k5, eSlice, bnd, eBuildSlice, eAppend, srcRows, srcOk, chunk, fillX, tR_take, tR_drop, hn0, w1, hile, hle1, h01, hi1, hdk, hE, xcl, hR, hoD, hoB, hlim]
      refine ⟨hz _, hz _, by omega, by omega, hz _, hz _, by omega, by omega, ?_⟩
      refine fin_pure (by simp) ?_
      simp -implicitDefEqProofs [pur2_i, pur2_b, pur2_s, pur2_nil, pur2_sl, pur2_tup, rn2_tup, rn2_agg, rn2_osl, rn1_v, rn1_osl, rn1_agg, rn0_v, rn0_sl, rn0, pickObs, pur_v, pur_b, pur_s, pur_nil, pur_sl, deI, deIs_sl, rpX, purnil2, pur2osl]
  omega
end Go.Proofs
