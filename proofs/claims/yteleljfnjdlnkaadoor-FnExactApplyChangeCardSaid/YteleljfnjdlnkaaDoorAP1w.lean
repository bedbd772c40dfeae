/-
  What is proved here: contracts of the sort of a configuration, of its copies, and of what puts one in. Condition: none.
-/
import Derived.Test.YteleljfnjdlnkaaDoorSoB
import Derived.Test.YteleljfnjdlnkaaDoorSoC
import Derived.Test.YteleljfnjdlnkaaDoorSoD
import Derived.Test.YteleljfnjdlnkaaDoorSrt
import Derived.Test.YteleljfnjdlnkaaDoorC2w
namespace Go.Proofs
open Go.Abs Go.Srt
set_option linter.unusedSimpArgs false
set_option linter.unnecessarySimpa false
set_option linter.unusedVariables false
set_option maxHeartbeats 8000000
set_option maxRecDepth 20000

def boxC (c : Cfg) : List Ob := [⟨37, 4, 0, [[.v (.string c.name), .osl 1 0, .osl 2 0, I c.dflt]], true, true, none⟩, obCls c.cls, obFil c.fil]
def unB (obs : List Ob) : Cfg := match obs with
  | [b, c, f] => (match b.rows with
    | [[n, _, _, d]] => ⟨deS n, deT (.sl c.rows), deT (.sl f.rows), deI d⟩
    | _ => ⟨⟨#[]⟩, [], [], 0⟩)
  | _ => ⟨⟨#[]⟩, [], [], 0⟩
@[simp] theorem unB_box (c : Cfg) : unB (boxC c) = c := by simp [unB, boxC, obCls, obFil]
def srtC (c : Cfg) : Cfg := ⟨c.name, stab Cls.z ltCls c.cls, stab Fil.z ltFil c.fil, c.dflt⟩
def M50 : MFun := ⟨[true], fun xs obs => ∃ c : Cfg, xs = [.optr 0 0 0 0] ∧ obs = boxC c ∧ c.cls.length ≤ 39 ∧ c.fil.length ≤ 19, fun xs obs => (.tup [], boxC (srtC (unB obs)))⟩
theorem n50 : GenNA K Tryd.prog 50 M50 := by
  refine contractNA Tryd.mix K [] [(64, M64), (67, M67)] [] (by simp) (by simp [m64, m67]) (by simp) Tryd.func50 rfl (by decide) ?_
  rintro xs obs us ⟨c, rfl, rfl, h1, h2⟩ hu
  obtain ⟨u0, u1, u2, rfl⟩ : ∃ u0 u1 u2, us = [u0, u1, u2] := by
    match us, hu with
    | [a, b, c], _ => exact ⟨a, b, c, rfl⟩
  refine ⟨⟨by rw [Tryd.ntmps50]; simp, by simp, fun k ob hob => ?_⟩, ?_⟩
  · match k, hob with
    | 0, hob => simp [boxC] at hob; subst hob; exact ⟨_, rfl, rfl, rfl, rfl, rfl⟩
    | 1, hob => simp [boxC] at hob; subst hob; exact ⟨_, rfl, rfl, rfl, rfl, rfl⟩
    | 2, hob => simp [boxC] at hob; subst hob; exact ⟨_, rfl, rfl, rfl, rfl, rfl⟩
    | k + 3, hob => simp [boxC] at hob
  have i1 : M64.pre [.osl 0 0, .fn 65 []] [⟨41, 8, 0, tR c.cls, false, true, none⟩] := ⟨c.cls, rfl, rfl, h1⟩
  have i2 : M64.res [.osl 0 0, .fn 65 []] [⟨41, 8, 0, tR c.cls, false, true, none⟩] = (.tup [], [⟨41, 8, 0, tR (stab Cls.z ltCls c.cls), false, true, none⟩]) := by simp [M64, obCls, lOCls]
  have i3 : M64.mu = [true] := rfl
  have j1 : M67.pre [.osl 0 0, .fn 68 []] [⟨42, 5, 0, tR c.fil, false, true, none⟩] := ⟨c.fil, rfl, rfl, h2⟩
  have j2 : M67.res [.osl 0 0, .fn 68 []] [⟨42, 5, 0, tR c.fil, false, true, none⟩] = (.tup [], [⟨42, 5, 0, tR (stab Fil.z ltFil c.fil), false, true, none⟩]) := by simp [M67, obFil, lOFil]
  have j3 : M67.mu = [true] := rfl
  simp -implicitDefEqProofs [Tryd.f50, List.lookup_cons, and_assoc, pick_and, pick_or, if_and, if_or, boxC, obCls, obFil, i1, i2, i3, j1, j2, j3, pickOk, -List.all_eq_true]
  refine finN [0, 1, 2] [] (by simp [pickOkN]) (by simp [upd, tl_cons]) ?_
  simp [M50, boxC, obCls, obFil, unB, srtC, one]

def F45 : Fun := ⟨fun xs => xs = [.agg (cX (deC (xs.getD 0 .top) : Cfg))] ∧ (fun (c : Cfg) => (okC c)) (deC (xs.getD 0 .top) : Cfg), fun xs => (fun (c : Cfg) => ((.agg [.v (.string c.name), .osl 0 0, .osl 1 0, I c.dflt], [obCls c.cls, obFil c.fil]) : X × List Ob)) (deC (xs.getD 0 .top) : Cfg)⟩
theorem F45_in {xs : List X} (h : F45.pre xs) : ∃ (c : Cfg), xs = [.agg (cX c)] ∧ (okC c) := ⟨_, h.1, h.2⟩
theorem F45_res (c : Cfg) : F45.res [.agg (cX c)] = (.agg [.v (.string c.name), .osl 0 0, .osl 1 0, I c.dflt], [obCls c.cls, obFil c.fil]) := by simp [F45]
theorem F45_mk (c : Cfg) (h : okC c) : F45.pre [.agg (cX c)] := by simpa [F45] using h
theorem c45 : GenCA K Tryd.prog 45 F45 := by
  refine contractA Tryd.mix K [(58, F58), (59, F59)] [] (by simp [c58, c59]) (by simp) Tryd.func45 rfl (by decide) ?_
  intro xs hxs
  obtain ⟨c, rfl, hp⟩ := F45_in hxs
  rw [F45_res]
  refine ⟨by rw [Tryd.ntmps45]; simp, ?_⟩
  obtain ⟨h1, h2, h3⟩ := hp
  simp -implicitDefEqProofs [Tryd.f45, F58, F59, List.lookup_cons, and_assoc, pick_and, pick_or, if_and, if_or, h2, h3, obCls, obFil]
  refine drawP_x _ [(2, 0), (3, 0), (4, 0), (5, 0), (6, 0), (7, 1), (0, 0), (1, 0), (8, 0), (9, 0), (10, 2), (11, 2)] [4, 7, 11] (by decide) ?_
  simp -implicitDefEqProofs [Tryd.f45, F58, F59, List.lookup_cons, and_assoc, pick_and, pick_or, if_and, if_or, h2, h3, obCls, obFil, OpOk]
  refine ⟨h1, fin_own [2, 3] (by simp [pickOk, -List.all_eq_true, tR_ok]) ?_⟩
  simp -implicitDefEqProofs [pur2_i, pur2_b, pur2_s, pur2_nil, pur2_sl, pur2_tup, rn2_tup, rn2_agg, rn2_osl, rn1_v, rn1_osl, rn1_agg, rn0_v, rn0_sl, rn0, pickObs, pur_v, pur_b, pur_s, pur_nil, pur_sl, deI, deIs_sl, obCls, obFil]
end Go.Proofs
