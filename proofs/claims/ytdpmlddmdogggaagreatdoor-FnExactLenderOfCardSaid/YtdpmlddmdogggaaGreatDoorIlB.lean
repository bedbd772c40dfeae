/-
  What is proved here: the contract of unload. Condition: none.
  What is proved here: the contract of what puts a class in its place, in the reference. Condition: none.
  What is proved here: the contract of the reference's way back from a loaded configuration. Condition: none.
-/
import Derived.Test.YtdpmlddmdogggaaGreatDoorIlA
import Derived.Test.YtdpmlddmdogggaaGreatDoorSuB
import Derived.Test.YtdpmlddmdogggaaGreatDoorLKj
import Derived.Test.YtdpmlddmdogggaaGreatDoorSuA
import Derived.Test.YtdpmlddmdogggaaGreatDoorSrt
import Derived.Test.YtdpmlddmdogggaaGreatDoorC2j
import Derived.Test.YtdpmlddmdogggaaGreatDoorLBN
import Derived.Test.YtdpmlddmdogggaaGreatDoorAbsE
set_option linter.unusedVariables false
set_option linter.unusedSimpArgs false
set_option linter.unnecessarySimpa false
set_option maxHeartbeats 8000000
set_option maxRecDepth 20000
namespace Go.Proofs
open Go.Abs Go.Srt
def F79 : Fun := ⟨fun xs => xs = [.agg (lX (deL (xs.getD 0 .top) : Ldd))] ∧ (fun (x : Ldd) => (x.cls.length ≤ 24 ∧ x.fil.length ≤ 16)) (deL (xs.getD 0 .top) : Ldd), fun xs => (fun (x : Ldd) => ((.agg (cX (unU x)), []) : X × List Ob)) (deL (xs.getD 0 .top) : Ldd)⟩
theorem F79_in {xs : List X} (h : F79.pre xs) : ∃ (x : Ldd), xs = [.agg (lX x)] ∧ (x.cls.length ≤ 24 ∧ x.fil.length ≤ 16) := ⟨_, h.1, h.2⟩
theorem F79_res (x : Ldd) : F79.res [.agg (lX x)] = (.agg (cX (unU x)), []) := by simp [F79]
theorem c79 : GenCA K Tryz.prog 79 F79 := by
  refine contractA Tryz.mix K [(114, F114), (115, F115.pu)] [(116, M116)] (by simp [c114, c115.pu]) (by simp [m116]) Tryz.func79 rfl (by decide) ?_
  intro xs hxs
  obtain ⟨x, rfl, hp⟩ := F79_in hxs
  rw [F79_res]
  refine ⟨by rw [Tryz.ntmps79]; simp, ?_⟩
  obtain ⟨g1, g2⟩ := hp
  have g1' : x.cls.length ≤ 1048576 := by omega
  have g2' : x.fil.length ≤ 1048576 := by omega
  have i1 : M116.pre [.osl 0 0, .fn 117 []] [⟨81, 8, 0, tR x.cls, false, true, none⟩] := ⟨x.cls, rfl, rfl, by omega⟩
  have i2 : M116.res [.osl 0 0, .fn 117 []] [⟨81, 8, 0, tR x.cls, false, true, none⟩] = (.tup [], [⟨81, 8, 0, tR (stab Cls.z ltCls x.cls), false, true, none⟩]) := by simp [M116, obCls, lOCls]
  have i3 : M116.mu = [true] := rfl
  by_cases hd0 : 0 ≤ x.dflt
  · by_cases hd1 : x.dflt < x.cls.length
    · obtain ⟨d, hd⟩ := Int.eq_ofNat_of_zero_le hd0
      have hdl : d < x.cls.length := by omega
      have hu : unD x = x.cls[d].id := by unfold unD; rw [if_pos ⟨hd0, hd1⟩, hd, Int.toNat_natCast, atC_eq hdl]
      have hr : unU x = ⟨x.name, stab Cls.z ltCls x.cls, x.fil, x.cls[d].id⟩ := by unfold unU; rw [hu]
      rw [hr]
      simp -implicitDefEqProofs [Tryz.f79, F114, F115, M116, List.lookup_cons, eS]
      refine drawP_w _ 4 9 [(2, 0), (3, 0), (4, 0), (9, 1), (0, 0), (1, 0), (5, 0), (6, 0), (7, 1), (8, 1), (10, 2)] [4, 9, 10] [(9, 0), (2, 0), (3, 0), (4, 1), (0, 0), (1, 0), (5, 0), (6, 0), (7, 2), (8, 2), (10, 2)] [9, 4, 10] (by decide) ?_ ?_
      · simp -implicitDefEqProofs [Tryz.f79, F114, F115, M116, List.lookup_cons, eS, OpOk, g1', g2', obCls, obFil, hd, hdl]
        refine ⟨by simp [pickOk, -List.all_eq_true, tR_ok], by omega, fin_pure (by simp) ?_⟩
        simp -implicitDefEqProofs [fS, rn0, pickObs, deI, lOCls, pu2o]
      · simp -implicitDefEqProofs [Tryz.f79, F114, F115, M116, List.lookup_cons, eS, OpOk, g1', g2', obCls, obFil, hd, hdl]
        refine ⟨by simp [pickOk, -List.all_eq_true, tR_ok], by omega, fin_pure (by simp) ?_⟩
        simp -implicitDefEqProofs [fS, rn0, pickObs, deI, lOCls, pu2o]
    · have hu : unD x = 0 := by unfold unD; rw [if_neg (fun h => hd1 h.2)]
      have hr : unU x = ⟨x.name, stab Cls.z ltCls x.cls, x.fil, 0⟩ := by unfold unU; rw [hu]
      rw [hr]
      simp -implicitDefEqProofs [Tryz.f79, F114, F115, M116, List.lookup_cons, eS]
      refine drawP_w _ 4 9 [(2, 0), (3, 0), (4, 0), (9, 1), (0, 0), (1, 0), (5, 0), (6, 0), (7, 1), (8, 1), (10, 2)] [4, 9, 10] [(9, 0), (2, 0), (3, 0), (4, 1), (0, 0), (1, 0), (5, 0), (6, 0), (7, 2), (8, 2), (10, 2)] [9, 4, 10] (by decide) ?_ ?_
      · simp -implicitDefEqProofs [Tryz.f79, F114, F115, M116, List.lookup_cons, eS, OpOk, g1', g2', obCls, obFil, hd0, hd1]
        refine ⟨by simp [pickOk, -List.all_eq_true, tR_ok], by omega, fin_pure (by simp) ?_⟩
        simp -implicitDefEqProofs [fS, rn0, pickObs, deI, lOCls, pu2o]
      · simp -implicitDefEqProofs [Tryz.f79, F114, F115, M116, List.lookup_cons, eS, OpOk, g1', g2', obCls, obFil, hd0, hd1]
        refine ⟨by simp [pickOk, -List.all_eq_true, tR_ok], by omega, fin_pure (by simp) ?_⟩
        simp -implicitDefEqProofs [fS, rn0, pickObs, deI, lOCls, pu2o]
  · have hu : unD x = 0 := by unfold unD; rw [if_neg (fun h => hd0 h.1)]
    have hr : unU x = ⟨x.name, stab Cls.z ltCls x.cls, x.fil, 0⟩ := by unfold unU; rw [hu]
    rw [hr]
    simp -implicitDefEqProofs [Tryz.f79, F114, F115, M116, List.lookup_cons, eS]
    refine drawP_w _ 4 9 [(2, 0), (3, 0), (4, 0), (9, 1), (0, 0), (1, 0), (5, 0), (6, 0), (7, 1), (8, 1), (10, 2)] [4, 9, 10] [(9, 0), (2, 0), (3, 0), (4, 1), (0, 0), (1, 0), (5, 0), (6, 0), (7, 2), (8, 2), (10, 2)] [9, 4, 10] (by decide) ?_ ?_
    · simp -implicitDefEqProofs [Tryz.f79, F114, F115, M116, List.lookup_cons, eS, OpOk, g1', g2', obCls, obFil, hd0]
      refine ⟨by simp [pickOk, -List.all_eq_true, tR_ok], by omega, fin_pure (by simp) ?_⟩
      simp -implicitDefEqProofs [fS, rn0, pickObs, deI, lOCls, pu2o]
    · simp -implicitDefEqProofs [Tryz.f79, F114, F115, M116, List.lookup_cons, eS, OpOk, g1', g2', obCls, obFil, hd0]
      refine ⟨by simp [pickOk, -List.all_eq_true, tR_ok], by omega, fin_pure (by simp) ?_⟩
      simp -implicitDefEqProofs [fS, rn0, pickObs, deI, lOCls, pu2o]
end Go.Proofs
namespace Go.Proofs
open Go.Abs Go.Srt
theorem tSCls (l : List Cls) (x : Cls) : tR l ++ [[I x.id, I x.par, I x.rate, I x.ceil, I x.burst, I x.cburst, I x.prio, I x.lim]] = tR (l ++ [x]) := tR_append l [x]
def F126 : Fun := ⟨fun xs => xs = [.sl (tR (deT (xs.getD 0 .top) : List Cls)), .agg (rX (deA (xs.getD 1 .top) : Cls))] ∧ (fun (l : List Cls) (x : Cls) => (l.length ≤ 1048576)) (deT (xs.getD 0 .top) : List Cls) (deA (xs.getD 1 .top) : Cls), fun xs => (fun (l : List Cls) (x : Cls) => ((.osl 0 0, [obCls (insK (fun y : Cls => y.id) x l)]) : X × List Ob)) (deT (xs.getD 0 .top) : List Cls) (deA (xs.getD 1 .top) : Cls)⟩
theorem F126_in {xs : List X} (h : F126.pre xs) : ∃ (l : List Cls) (x : Cls), xs = [.sl (tR l), .agg (rX x)] ∧ (l.length ≤ 1048576) := ⟨_, _, h.1, h.2⟩
theorem F126_res (l : List Cls) (x : Cls) : F126.res [.sl (tR l), .agg (rX x)] = (.osl 0 0, [obCls (insK (fun y : Cls => y.id) x l)]) := by simp [F126]
theorem c126 : GenCA K Tryz.prog 126 F126 := by
  refine contractA Tryz.mix K [] [] (by simp) (by simp) Tryz.func126 rfl (by decide) ?_
  intro xs hxs
  obtain ⟨l, x, rfl, hp⟩ := F126_in hxs
  rw [F126_res]
  refine ⟨by rw [Tryz.ntmps126]; simp, ?_⟩
  simp -implicitDefEqProofs [Tryz.f126, List.lookup_cons, eS]
  refine loopP_inv (fun k : Nat => ⟨36, tl [(0, .sl (tR l)), (3, .optr 0 0 0 0), (5, I k)], [⟨81, 8, 0, [rX x], true, true, none⟩]⟩) (fun k => k ≤ l.length ∧ ∀ (j : Nat) (h : j < l.length), j < k → l[j].id < x.id) (fun k => l.length - k) 0 ⟨Nat.zero_le _, fun _ _ h => by omega⟩ (Wk.tl (by simp [hold, upd, tl_cons])) ?_
  rintro k ⟨hk, ha⟩
  have hrg : List.range 8 = [0, 1, 2, 3, 4, 5, 6, 7] := rfl
  have hdk : List.take (l.length - k) (List.drop k l) = List.drop k l := List.take_of_length_le (by simp)
  have fin : (∀ h : k < l.length, ¬ l[k].id < x.id) → posK (fun y : Cls => y.id) x l = k := fun h => posK_of (fun y : Cls => y.id) x l k hk ha h
  by_cases h : k < l.length
  · have hw := w64n (show k < 4611686018427387904 by omega)
    by_cases hlt : l[k].id < x.id
    · simp -implicitDefEqProofs [List.lookup_cons, eS]
      refine drawP_all _ (by decide) ?_
      simp -implicitDefEqProofs [List.lookup_cons, eS, h, hlt, hw]
      refine ⟨k + 1, by omega, fun j hj hjk => ?_, by omega, ?_⟩
      · rcases Nat.lt_or_ge j k with h1 | h1
        · exact ha j hj h1
        · have e : j = k := by omega
          subst e; exact hlt
      · exact Wk.tl (by simp [hold, upd, tl_cons])
    · have hpos := fin fun _ => hlt
      simp -implicitDefEqProofs [List.lookup_cons, eS]
      refine drawP_all _ (by decide) ?_
      simp -implicitDefEqProofs [List.lookup_cons, eS, h, hlt, hw]
      simp [eSlice, bnd, eBuildSlice, eAppend, srcRows, srcOk, chunk, fillX, hk, tR_take, tR_drop]
      refine ⟨tR_rows rfl l, ⟨tR_rows rfl _, by omega, by omega⟩, ?_⟩
      refine drawP_x _ [(0, 0), (1, 0), (2, 0), (3, 0), (4, 0), (5, 0), (6, 0), (7, 1), (8, 2)] [3, 7] (by decide) ?_
      simp -implicitDefEqProofs [List.lookup_cons, eS, eSlice, bnd, eBSD, eBuildSlice, eAppend, srcRows, srcOk, chunk, fillX, isV, hk, tR_take, tR_drop, tSCls, hrg, hdk]
      refine ⟨by omega, by omega, tR_rows rfl l, tR_rows rfl _, by omega, by omega, fin_own [1] (by simp [pickOk, -List.all_eq_true, tR_ok]) ?_⟩
      simp -implicitDefEqProofs [fS, rn0, pickObs, deI, obCls, insK, hpos]
  · have hkl : k = l.length := by omega
    have hpos := fin fun h' => absurd h' h
    simp -implicitDefEqProofs [List.lookup_cons, eS]
    refine drawP_all _ (by decide) ?_
    simp -implicitDefEqProofs [List.lookup_cons, eS, h]
    simp [eSlice, bnd, eBuildSlice, eAppend, srcRows, srcOk, chunk, fillX, hk, tR_take, tR_drop]
    refine ⟨tR_rows rfl l, ⟨tR_rows rfl _, by omega, by omega⟩, ?_⟩
    refine drawP_x _ [(0, 0), (1, 0), (2, 0), (3, 0), (4, 0), (5, 0), (6, 0), (7, 1), (8, 2)] [3, 7] (by decide) ?_
    simp -implicitDefEqProofs [List.lookup_cons, eS, eSlice, bnd, eBSD, eBuildSlice, eAppend, srcRows, srcOk, chunk, fillX, isV, hk, tR_take, tR_drop, tSCls, hrg, hdk]
    refine ⟨by omega, by omega, tR_rows rfl l, tR_rows rfl _, by omega, by omega, fin_own [1] (by simp [pickOk, -List.all_eq_true, tR_ok]) ?_⟩
    simp -implicitDefEqProofs [fS, rn0, pickObs, deI, obCls, insK, hpos]
end Go.Proofs
namespace Go.Proofs
open Go.Abs Go.Srt
def F100 : Fun := ⟨fun xs => xs = [.agg (lX (deL (xs.getD 0 .top) : Ldd))] ∧ (fun (x : Ldd) => (x.cls.length ≤ 24 ∧ x.fil.length ≤ 16)) (deL (xs.getD 0 .top) : Ldd), fun xs => (fun (x : Ldd) => ((.agg (cX (unV x)), []) : X × List Ob)) (deL (xs.getD 0 .top) : Ldd)⟩
theorem F100_in {xs : List X} (h : F100.pre xs) : ∃ (x : Ldd), xs = [.agg (lX x)] ∧ (x.cls.length ≤ 24 ∧ x.fil.length ≤ 16) := ⟨_, h.1, h.2⟩
theorem F100_res (x : Ldd) : F100.res [.agg (lX x)] = (.agg (cX (unV x)), []) := by simp [F100]
theorem c100 : GenCA K Tryz.prog 100 F100 := by
  refine contractA Tryz.mix K [(126, F126), (87, F87)] [] (by simp [c126, c87]) (by simp) Tryz.func100 rfl (by decide) ?_
  intro xs hxs
  obtain ⟨x, rfl, hp⟩ := F100_in hxs
  rw [F100_res]
  refine ⟨by rw [Tryz.ntmps100]; simp, ?_⟩
  obtain ⟨g1, g2⟩ := hp
  have hfl : x.fil.length ≤ 1048576 := by omega
  have hws : IntKind.i64.wrap ((x.cls.length : Int) - 1) = (x.cls.length : Int) - 1 := w64 (by omega) (by omega)
  simp -implicitDefEqProofs [Tryz.f100, F126, F87, List.lookup_cons, eS]
  refine drawP_x _ [(7, 0), (0, 0), (1, 0), (2, 0), (3, 0), (4, 0), (5, 0), (6, 0), (8, 1)] [7, 8] (by decide) ?_
  simp -implicitDefEqProofs [List.lookup_cons, eS, eApD, eBSD, eAppend0, fillX, srcRows, srcOk, chunk, hfl, OpOk]
  refine ⟨tR_rows rfl _, by omega, by omega, tR_rows rfl _, by omega, by omega, ?_⟩
  refine loopP_inv (fun k : Nat => ⟨42, tl [(1, .optr 0 0 0 0), (2, .optr 1 0 0 0), (3, .optr 2 0 0 0), (14, .sl (tR x.cls)), (15, I x.cls.length), (16, I k)], [⟨35, 9, 0, [lX x], true, true, none⟩, ⟨88, 4, 0, [[.v (.string ⟨#[]⟩), .v (.slice none 0 0), .v (.slice none 0 0), I 0]], true, true, none⟩, ⟨88, 4, 0, [[.v (.string x.name), .osl 3 0, .sl (tR x.fil), I 0]], true, true, none⟩, obCls (putAll (x.cls.take k))]⟩) (fun k => k ≤ x.cls.length) (fun k => x.cls.length - k) 0 (Nat.zero_le _) ?_ ?_
  · refine Wk.trans (b := ⟨42, tl [(1, .optr 0 0 0 0), (2, .optr 1 0 0 0), (3, .optr 2 0 0 0), (14, .sl (tR x.cls)), (15, I x.cls.length), (16, I 0)], [⟨35, 9, 0, [lX x], true, true, none⟩, ⟨88, 4, 0, [[.v (.string ⟨#[]⟩), .v (.slice none 0 0), .v (.slice none 0 0), I 0]], true, true, none⟩, ⟨88, 4, 0, [[.v (.string x.name), .v (.slice none 0 0), .sl (tR x.fil), I 0]], true, true, none⟩]⟩) ?_ (Wk.nilF 81 8 2 0 1 (⟨88, 4, 0, [[.v (.string x.name), .v (.slice none 0 0), .sl (tR x.fil), I 0]], true, true, none⟩) rfl (by simp [at2]) (by simp [obCls, putAll, tR]))
    simp only [lX]
    exact Wk.tl (by simp [hold, upd, tl_cons])
  intro k hk
  by_cases h : k < x.cls.length
  · have hS := putK_succ x.cls k h
    have hlen := putAll_len (x.cls.take k)
    rw [List.length_take] at hlen
    obtain ⟨L, hL⟩ : ∃ L, putAll (x.cls.take k) = L := ⟨_, rfl⟩
    rw [hL] at hS hlen
    obtain ⟨y, hy0⟩ : ∃ y, x.cls[k] = y := ⟨_, rfl⟩
    have hy : ∀ h', x.cls[k]'(h') = y := fun _ => hy0
    rw [hy0] at hS
    have hL2 : L.length ≤ 1048576 := by omega
    have hw := w64n (show k < 4611686018427387904 by omega)
    rw [hL]
    simp -implicitDefEqProofs [List.lookup_cons, eS, h, hy, F126, obCls, hL2]
    refine ⟨k + 1, by omega, by omega, ?_⟩
    rw [hS]
    refine Wk.tlPN [0, 1, 2, 5] (by simp [pickOkN]) (by simp) ?_
    simp [hold, upd, tl_cons, hw]
  · have e : k = x.cls.length := by omega
    subst e
    rw [List.take_length]
    by_cases hd : 0 ≤ x.dflt ∧ x.dflt < x.cls.length
    · obtain ⟨d, hd0⟩ := Int.eq_ofNat_of_zero_le hd.1
      have hdl : d < x.cls.length := by omega
      have hu : unD x = x.cls[d].id := by unfold unD; rw [if_pos hd, hd0, Int.toNat_natCast, atC_eq hdl]
      have hr : unV x = ⟨x.name, putAll x.cls, x.fil, x.cls[d].id⟩ := by unfold unV; rw [hu]
      have hrg : rng 0 ((x.cls.length : Int) - 1) d = true := by simp [rng]; omega
      rw [hr]
      simp -implicitDefEqProofs [List.lookup_cons, eS, obCls, F87, hws, hd0, hrg, hdl]
      refine fin_pure (by simp) ?_
      simp -implicitDefEqProofs [fS, rn0, pickObs, deI, pu2o]
    · have hu : unD x = 0 := by unfold unD; rw [if_neg hd]
      have hr : unV x = ⟨x.name, putAll x.cls, x.fil, 0⟩ := by unfold unV; rw [hu]
      have hrg : rng 0 ((x.cls.length : Int) - 1) x.dflt = false := by simp [rng]; omega
      rw [hr]
      simp -implicitDefEqProofs [List.lookup_cons, eS, obCls, F87, hws, hrg]
      refine fin_pure (by simp) ?_
      simp -implicitDefEqProofs [fS, rn0, pickObs, deI, pu2o]
end Go.Proofs
