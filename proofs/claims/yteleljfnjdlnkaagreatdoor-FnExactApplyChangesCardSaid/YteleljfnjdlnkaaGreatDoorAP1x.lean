/-
  What is proved here: contracts of the sort of a configuration, of its copies, and of what puts one in. Condition: none.
-/
import Derived.Test.YteleljfnjdlnkaaGreatDoorSoB
import Derived.Test.YteleljfnjdlnkaaGreatDoorSoC
import Derived.Test.YteleljfnjdlnkaaGreatDoorSoD
import Derived.Test.YteleljfnjdlnkaaGreatDoorSrt
import Derived.Test.YteleljfnjdlnkaaGreatDoorC2x
namespace Go.Proofs
open Go.Abs Go.Srt
set_option linter.unusedSimpArgs false
set_option linter.unnecessarySimpa false
set_option linter.unusedVariables false
set_option maxHeartbeats 8000000
set_option maxRecDepth 20000

def boxC (c : Cfg) : List Ob := [⟨34, 4, 0, [[.v (.string c.name), .osl 1 0, .osl 2 0, I c.dflt]], true, true, none⟩, obCls c.cls, obFil c.fil]
def unB (obs : List Ob) : Cfg := match obs with
  | [b, c, f] => (match b.rows with
    | [[n, _, _, d]] => ⟨deS n, deT (.sl c.rows), deT (.sl f.rows), deI d⟩
    | _ => ⟨⟨#[]⟩, [], [], 0⟩)
  | _ => ⟨⟨#[]⟩, [], [], 0⟩
@[simp] theorem unB_box (c : Cfg) : unB (boxC c) = c := by simp [unB, boxC, obCls, obFil]
def srtC (c : Cfg) : Cfg := ⟨c.name, stab Cls.z ltCls c.cls, stab Fil.z ltFil c.fil, c.dflt⟩
def M69 : MFun := ⟨[true], fun xs obs => ∃ c : Cfg, xs = [.optr 0 0 0 0] ∧ obs = boxC c ∧ c.cls.length ≤ 39 ∧ c.fil.length ≤ 19, fun xs obs => (.tup [], boxC (srtC (unB obs)))⟩
theorem n69 : GenNA K Tryz.prog 69 M69 := by
  refine contractNA Tryz.mix K [] [(103, M103), (106, M106)] [] (by simp) (by simp [m103, m106]) (by simp) Tryz.func69 rfl (by decide) ?_
  rintro xs obs us ⟨c, rfl, rfl, h1, h2⟩ hu
  obtain ⟨u0, u1, u2, rfl⟩ : ∃ u0 u1 u2, us = [u0, u1, u2] := by
    match us, hu with
    | [a, b, c], _ => exact ⟨a, b, c, rfl⟩
  refine ⟨⟨by rw [Tryz.ntmps69]; simp, by simp, fun k ob hob => ?_⟩, ?_⟩
  · match k, hob with
    | 0, hob => simp [boxC] at hob; subst hob; exact ⟨_, rfl, rfl, rfl, rfl, rfl⟩
    | 1, hob => simp [boxC] at hob; subst hob; exact ⟨_, rfl, rfl, rfl, rfl, rfl⟩
    | 2, hob => simp [boxC] at hob; subst hob; exact ⟨_, rfl, rfl, rfl, rfl, rfl⟩
    | k + 3, hob => simp [boxC] at hob
  have i1 : M103.pre [.osl 0 0, .fn 104 []] [⟨58, 8, 0, tR c.cls, false, true, none⟩] := ⟨c.cls, rfl, rfl, h1⟩
  have i2 : M103.res [.osl 0 0, .fn 104 []] [⟨58, 8, 0, tR c.cls, false, true, none⟩] = (.tup [], [⟨58, 8, 0, tR (stab Cls.z ltCls c.cls), false, true, none⟩]) := by simp [M103, obCls, lOCls]
  have i3 : M103.mu = [true] := rfl
  have j1 : M106.pre [.osl 0 0, .fn 107 []] [⟨59, 5, 0, tR c.fil, false, true, none⟩] := ⟨c.fil, rfl, rfl, h2⟩
  have j2 : M106.res [.osl 0 0, .fn 107 []] [⟨59, 5, 0, tR c.fil, false, true, none⟩] = (.tup [], [⟨59, 5, 0, tR (stab Fil.z ltFil c.fil), false, true, none⟩]) := by simp [M106, obFil, lOFil]
  have j3 : M106.mu = [true] := rfl
  simp -implicitDefEqProofs [Tryz.f69, List.lookup_cons, and_assoc, pick_and, pick_or, if_and, if_or, boxC, obCls, obFil, i1, i2, i3, j1, j2, j3, pickOk, -List.all_eq_true]
  refine finN [0, 1, 2] [] (by simp [pickOkN]) (by simp [upd, tl_cons]) ?_
  simp [M69, boxC, obCls, obFil, unB, srtC, one]

def F33 : Fun := ⟨fun xs => xs = [.agg (cX (deC (xs.getD 0 .top) : Cfg))] ∧ (fun (c : Cfg) => (okC c)) (deC (xs.getD 0 .top) : Cfg), fun xs => (fun (c : Cfg) => ((.agg [.v (.string c.name), .osl 0 0, .osl 1 0, I c.dflt], [obCls c.cls, obFil c.fil]) : X × List Ob)) (deC (xs.getD 0 .top) : Cfg)⟩
theorem F33_in {xs : List X} (h : F33.pre xs) : ∃ (c : Cfg), xs = [.agg (cX c)] ∧ (okC c) := ⟨_, h.1, h.2⟩
theorem F33_res (c : Cfg) : F33.res [.agg (cX c)] = (.agg [.v (.string c.name), .osl 0 0, .osl 1 0, I c.dflt], [obCls c.cls, obFil c.fil]) := by simp [F33]
theorem F33_mk (c : Cfg) (h : okC c) : F33.pre [.agg (cX c)] := by simpa [F33] using h
theorem c33 : GenCA K Tryz.prog 33 F33 := by
  refine contractA Tryz.mix K [(63, F63), (64, F64)] [] (by simp [c63, c64]) (by simp) Tryz.func33 rfl (by decide) ?_
  intro xs hxs
  obtain ⟨c, rfl, hp⟩ := F33_in hxs
  rw [F33_res]
  refine ⟨by rw [Tryz.ntmps33]; simp, ?_⟩
  obtain ⟨h1, h2, h3⟩ := hp
  simp -implicitDefEqProofs [Tryz.f33, F63, F64, List.lookup_cons, and_assoc, pick_and, pick_or, if_and, if_or, h2, h3, obCls, obFil]
  refine drawP_x _ [(2, 0), (3, 0), (4, 0), (5, 0), (6, 0), (7, 1), (0, 0), (1, 0), (8, 0), (9, 0), (10, 2), (11, 2)] [4, 7, 11] (by decide) ?_
  simp -implicitDefEqProofs [Tryz.f33, F63, F64, List.lookup_cons, and_assoc, pick_and, pick_or, if_and, if_or, h2, h3, obCls, obFil, OpOk]
  refine ⟨h1, fin_own [2, 3] (by simp [pickOk, -List.all_eq_true, tR_ok]) ?_⟩
  simp -implicitDefEqProofs [pur2_i, pur2_b, pur2_s, pur2_nil, pur2_sl, pur2_tup, rn2_tup, rn2_agg, rn2_osl, rn1_v, rn1_osl, rn1_agg, rn0_v, rn0_sl, rn0, pickObs, pur_v, pur_b, pur_s, pur_nil, pur_sl, deI, deIs_sl, obCls, obFil]
end Go.Proofs
