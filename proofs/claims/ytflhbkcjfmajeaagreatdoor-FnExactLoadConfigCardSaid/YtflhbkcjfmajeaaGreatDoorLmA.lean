/-
  What is proved here: contracts of both LoadConfig. Condition: none.
  What is proved here: the law of LoadConfig. Condition: none.
-/
import Derived.Test.YtflhbkcjfmajeaaGreatDoorLdA
import Derived.Test.YtflhbkcjfmajeaaGreatDoorLdB
import Derived.Test.YtflhbkcjfmajeaaGreatDoorLMz
import Derived.Test.YtflhbkcjfmajeaaGreatDoorC10z
import Derived.Test.YtflhbkcjfmajeaaGreatDoorAbsE
namespace Go.Proofs
open Go.Abs
set_option linter.unusedSimpArgs false
set_option linter.unnecessarySimpa false
set_option linter.unusedVariables false
set_option maxHeartbeats 16000000
set_option maxRecDepth 20000

def ldX (c : Cfg) : X × List Ob := if isCfg c = true then (.tup [lO (loadOf c), B true], lOb (loadOf c)) else (.tup [.agg (lX nilE), B false], [])
def rdX (c : Cfg) : X × List Ob := if isCfg c = true then (.tup [rO (loadOf c), B true], rOb (loadOf c)) else (.tup [.agg (lX nilE), B false], [])
theorem pnil2 (h : List Ob) : purN h 2 (.v (.slice none 0 0)) = .sl [] := rfl
theorem nT1 : tR ([] : List Cls) = [] := rfl
theorem nT2 : tR ([] : List Fil) = [] := rfl
theorem nT3 : iR [] = [] := rfl
def F8 : Fun := ⟨fun xs => xs = [.agg (cX (deC (xs.getD 0 .top) : Cfg))] ∧ (fun (c : Cfg) => (okC c)) (deC (xs.getD 0 .top) : Cfg), fun xs => (fun (c : Cfg) => ((ldX c) : X × List Ob)) (deC (xs.getD 0 .top) : Cfg)⟩
theorem F8_in {xs : List X} (h : F8.pre xs) : ∃ (c : Cfg), xs = [.agg (cX c)] ∧ (okC c) := ⟨_, h.1, h.2⟩
theorem F8_res (c : Cfg) : F8.res [.agg (cX c)] = (ldX c) := by simp [F8]
theorem F8_mk (c : Cfg) (h : okC c) : F8.pre [.agg (cX c)] := by simpa [F8] using h
theorem c8 : GenCA K Tryz.prog 8 F8 := by
  refine contractA Tryz.mix K [(24, F24), (25, F25)] [] (by simp [c24, c25]) (by simp) Tryz.func8 rfl (by decide) ?_
  intro xs hxs
  obtain ⟨c, rfl, hp⟩ := F8_in hxs
  rw [F8_res]
  refine ⟨by rw [Tryz.ntmps8]; simp, ?_⟩
  cases g : isCfg c with
  | false =>
    have e : ldX c = (.tup [.agg (lX nilE), B false], []) := by simp [ldX, g]
    rw [e]
    simp -implicitDefEqProofs [Tryz.f8, F24, F25, List.lookup_cons, and_assoc, pick_and, pick_or, if_and, if_or, hp, g]
    refine fin_pure (by simp) ?_
    simp -implicitDefEqProofs [pur2_i, pur2_b, pur2_s, pur2_nil, pur2_sl, pur2_tup, rn2_tup, rn2_agg, rn2_osl, rn1_v, rn1_osl, rn1_agg, rn0_v, rn0_sl, rn0, pickObs, pur_v, pur_b, pur_s, pur_nil, pur_sl, deI, deIs_sl, pnil2, nilE, nT1, nT2, nT3]
  | true =>
    have e : ldX c = (.tup [lO (loadOf c), B true], lOb (loadOf c)) := by simp [ldX, g]
    rw [e]
    obtain ⟨E, hE⟩ : ∃ E, loadOf c = E := ⟨_, rfl⟩
    rw [hE]
    simp -implicitDefEqProofs [Tryz.f8, F24, F25, List.lookup_cons, and_assoc, pick_and, pick_or, if_and, if_or, hp, g, hE, lO, lOb, obCls, obFil, iOb]
    refine fin_ownN [2, 3, 4, 5, 6, 7, 8] (by simp [pickOkN]) ?_
    simp
def F6 : Fun := ⟨fun xs => xs = [.agg (cX (deC (xs.getD 0 .top) : Cfg))] ∧ (fun (c : Cfg) => (okC c)) (deC (xs.getD 0 .top) : Cfg), fun xs => (fun (c : Cfg) => ((rdX c) : X × List Ob)) (deC (xs.getD 0 .top) : Cfg)⟩
theorem F6_in {xs : List X} (h : F6.pre xs) : ∃ (c : Cfg), xs = [.agg (cX c)] ∧ (okC c) := ⟨_, h.1, h.2⟩
theorem F6_res (c : Cfg) : F6.res [.agg (cX c)] = (rdX c) := by simp [F6]
theorem F6_mk (c : Cfg) (h : okC c) : F6.pre [.agg (cX c)] := by simpa [F6] using h
theorem c6 : GenCA K Tryz.prog 6 F6 := by
  refine contractA Tryz.mix K [(20, F24), (21, F21)] [] (by simp [c20, c21]) (by simp) Tryz.func6 rfl (by decide) ?_
  intro xs hxs
  obtain ⟨c, rfl, hp⟩ := F6_in hxs
  rw [F6_res]
  refine ⟨by rw [Tryz.ntmps6]; simp, ?_⟩
  cases g : isCfg c with
  | false =>
    have e : rdX c = (.tup [.agg (lX nilE), B false], []) := by simp [rdX, g]
    rw [e]
    simp -implicitDefEqProofs [Tryz.f6, F24, F21, List.lookup_cons, and_assoc, pick_and, pick_or, if_and, if_or, hp, g]
    refine fin_pure (by simp) ?_
    simp -implicitDefEqProofs [pur2_i, pur2_b, pur2_s, pur2_nil, pur2_sl, pur2_tup, rn2_tup, rn2_agg, rn2_osl, rn1_v, rn1_osl, rn1_agg, rn0_v, rn0_sl, rn0, pickObs, pur_v, pur_b, pur_s, pur_nil, pur_sl, deI, deIs_sl, pnil2, nilE, nT1, nT2, nT3]
  | true =>
    have e : rdX c = (.tup [rO (loadOf c), B true], rOb (loadOf c)) := by simp [rdX, g]
    rw [e]
    obtain ⟨E, hE⟩ : ∃ E, loadOf c = E := ⟨_, rfl⟩
    rw [hE]
    simp -implicitDefEqProofs [Tryz.f6, F24, F21, List.lookup_cons, and_assoc, pick_and, pick_or, if_and, if_or, hp, g, hE, rO, rOb, obCls, obFil, iOb]
    refine fin_ownN [2, 3, 4, 5, 6, 7] (by simp [pickOkN]) ?_
    simp
end Go.Proofs

namespace Go.Proofs
open Go.Abs
set_option linter.unusedSimpArgs false
set_option linter.unnecessarySimpa false
set_option linter.unusedVariables false
set_option maxHeartbeats 16000000
set_option maxRecDepth 20000

def pBx (c : Cfg) : Ob := ⟨25, 4, 0, [[.v (.string c.name), .sl (tR c.cls), .sl (tR c.fil), I c.dflt]], true, true, none⟩
def dBx (e : Ldd) : Ob := ⟨31, 9, 0, [[.v (.string e.name), .sl (tR e.cls), .sl (iR e.par), .sl (iR e.fst), .sl (iR e.nx), .sl (iR e.en), .sl (tR e.fil), .sl (iR e.tgt), I e.dflt]], true, true, none⟩
def gBx (c : Cfg) : Ob := ⟨35, 4, 0, [[.v (.string c.name), .osl 2 0, .osl 3 0, I c.dflt]], true, true, none⟩
def lBx (e : Ldd) : Ob := ⟨31, 9, 0, [[.v (.string e.name), .osl 5 0, .osl 6 0, .osl 7 0, .osl 8 0, .osl 9 0, .osl 10 0, .osl 11 0, I e.dflt]], true, true, none⟩
def mkc (c : Cfg) : Cfg := ⟨c.name, Cls.mkL 1 c.cls.length, Fil.mkL (1 + 8 * (c.cls.length : Int)) c.fil.length, c.dflt⟩
def mke (e : Ldd) : Ldd := mkE e.name 1 (lLen e) e.dflt
/-- what is loaded, and what is answered -/
structure LdOk (c : Cfg) (e : Ldd) : Prop where
  ho : okC c
  oe : okL e
  i : ldX c = (.tup [lO e, B true], lOb e)
  s : rdX c = (.tup [rO e, B true], rOb e)
def ldC (c : Cfg) (e : Ldd) (q : List Ob) : List Ob := [pBx c, dBx e, obCls c.cls, obFil c.fil, gBx c] ++ q
theorem pl3a (h : List Ob) (xs : List X) : purN h 3 (.agg xs) = .agg (xs.map (purN h 2)) := rfl
theorem pl2osl (h : List Ob) (k ver : Nat) : purN h 2 (.osl k ver) = (match h[k]? with
    | some ob => if ob.ver = ver ∧ ob.bx = false then .sl (ob.rows.map fun r => r.map (purN h 1)) else .top
    | none => .top) := rfl
theorem lyF (c : Cfg) (e : Ldd) (h : LdOk c e) : (F8.res [.agg [.v (.string c.name), .sl (tR c.cls), .sl (tR c.fil), I c.dflt]] = (.tup [lO e, B true], lOb e)) ∧ (F6.res [.agg [.v (.string c.name), .sl (tR c.cls), .sl (tR c.fil), I c.dflt]] = (.tup [rO e, B true], rOb e)) ∧ (F8.pre [.agg [.v (.string c.name), .sl (tR c.cls), .sl (tR c.fil), I c.dflt]]) ∧ (F6.pre [.agg [.v (.string c.name), .sl (tR c.cls), .sl (tR c.fil), I c.dflt]]) ∧ (F7.res [.agg [.v (.string c.name), .sl (tR c.cls), .sl (tR c.fil), I c.dflt]] = (cO c, cOb c)) ∧ (F7.pre [.agg [.v (.string c.name), .sl (tR c.cls), .sl (tR c.fil), I c.dflt]]) ∧ (F10.pre [.agg [.v (.string c.name), .sl (tR c.cls), .sl (tR c.fil), I c.dflt], .agg [.v (.string c.name), .sl (tR c.cls), .sl (tR c.fil), I c.dflt]]) ∧ (F10.res [.agg [.v (.string c.name), .sl (tR c.cls), .sl (tR c.fil), I c.dflt], .agg [.v (.string c.name), .sl (tR c.cls), .sl (tR c.fil), I c.dflt]] = (B true, [])) ∧ (F9.pre [.agg [.v (.string e.name), .sl (tR e.cls), .sl (iR e.par), .sl (iR e.fst), .sl (iR e.nx), .sl (iR e.en), .sl (tR e.fil), .sl (iR e.tgt), I e.dflt], .agg [.v (.string e.name), .sl (tR e.cls), .sl (iR e.par), .sl (iR e.fst), .sl (iR e.nx), .sl (iR e.en), .sl (tR e.fil), .sl (iR e.tgt), I e.dflt]]) ∧ (F9.res [.agg [.v (.string e.name), .sl (tR e.cls), .sl (iR e.par), .sl (iR e.fst), .sl (iR e.nx), .sl (iR e.en), .sl (tR e.fil), .sl (iR e.tgt), I e.dflt], .agg [.v (.string e.name), .sl (tR e.cls), .sl (iR e.par), .sl (iR e.fst), .sl (iR e.nx), .sl (iR e.en), .sl (tR e.fil), .sl (iR e.tgt), I e.dflt]] = (B true, [])) ∧ (¬ lTot 1 (lLen e) 7 < 0) ∧ (¬ (1 : Int) + 8 * c.cls.length + 5 * c.fil.length < 0) ∧ (M11.mu = [true]) ∧ (M12.mu = [true]) := by
  obtain ⟨ho, oe, hI, hS⟩ := h
  have hRi : F8.res [.agg [.v (.string c.name), .sl (tR c.cls), .sl (tR c.fil), I c.dflt]] = (.tup [lO e, B true], lOb e) := (F8_res c).trans hI
  have hRs : F6.res [.agg [.v (.string c.name), .sl (tR c.cls), .sl (tR c.fil), I c.dflt]] = (.tup [rO e, B true], rOb e) := (F6_res c).trans hS
  have hPi : F8.pre [.agg [.v (.string c.name), .sl (tR c.cls), .sl (tR c.fil), I c.dflt]] := F8_mk c ho
  have hPs : F6.pre [.agg [.v (.string c.name), .sl (tR c.cls), .sl (tR c.fil), I c.dflt]] := F6_mk c ho
  have hRt : F7.res [.agg [.v (.string c.name), .sl (tR c.cls), .sl (tR c.fil), I c.dflt]] = (cO c, cOb c) := F7_res c
  have hPt : F7.pre [.agg [.v (.string c.name), .sl (tR c.cls), .sl (tR c.fil), I c.dflt]] := F7_mk c ho
  have hPq : F10.pre [.agg [.v (.string c.name), .sl (tR c.cls), .sl (tR c.fil), I c.dflt], .agg [.v (.string c.name), .sl (tR c.cls), .sl (tR c.fil), I c.dflt]] := by simp [F10, ho]
  have hRq : F10.res [.agg [.v (.string c.name), .sl (tR c.cls), .sl (tR c.fil), I c.dflt], .agg [.v (.string c.name), .sl (tR c.cls), .sl (tR c.fil), I c.dflt]] = (B true, []) := rfl
  have hPe : F9.pre [.agg [.v (.string e.name), .sl (tR e.cls), .sl (iR e.par), .sl (iR e.fst), .sl (iR e.nx), .sl (iR e.en), .sl (tR e.fil), .sl (iR e.tgt), I e.dflt], .agg [.v (.string e.name), .sl (tR e.cls), .sl (iR e.par), .sl (iR e.fst), .sl (iR e.nx), .sl (iR e.en), .sl (tR e.fil), .sl (iR e.tgt), I e.dflt]] := ⟨e, rfl, oe⟩
  have hRe : F9.res [.agg [.v (.string e.name), .sl (tR e.cls), .sl (iR e.par), .sl (iR e.fst), .sl (iR e.nx), .sl (iR e.en), .sl (tR e.fil), .sl (iR e.tgt), I e.dflt], .agg [.v (.string e.name), .sl (tR e.cls), .sl (iR e.par), .sl (iR e.fst), .sl (iR e.nx), .sl (iR e.en), .sl (tR e.fil), .sl (iR e.tgt), I e.dflt]] = (B true, []) := rfl
  have hT : ¬ lTot 1 (lLen e) 7 < 0 := by
    simp only [lTot]
    omega
  have g1 := ho.1
  have g2 := ho.2.1
  have k2 : ¬ (1 : Int) + 8 * c.cls.length + 5 * c.fil.length < 0 := by omega
  have hmu : M11.mu = [true] := rfl
  have hml : M12.mu = [true] := rfl
  exact ⟨hRi, hRs, hPi, hPs, hRt, hPt, hPq, hRq, hPe, hRe, hT, k2, hmu, hml⟩
def lyS4 (c : Cfg) (e : Ldd) : St := ⟨96, tl [(1, .optr 0 0 0 0)], [pBx c]⟩
def lyS5 (c : Cfg) (e : Ldd) : St := ⟨96, tl [(1, .optr 0 0 0 0), (4, .optr 1 0 0 0), (5, B true)], [pBx c, dBx e]⟩
def lyS6 (c : Cfg) (e : Ldd) : St := ⟨96, tl [(1, .optr 0 0 0 0), (4, .optr 1 0 0 0), (5, B true), (6, .optr 4 0 0 0)], [pBx c, dBx e, obCls c.cls, obFil c.fil, gBx c]⟩
def lyS7 (c : Cfg) (e : Ldd) : St := ⟨96, tl [(1, .optr 0 0 0 0), (4, .optr 1 0 0 0), (5, B true), (6, .optr 4 0 0 0), (7, .optr 12 0 0 0), (8, B true)], [pBx c, dBx e, obCls c.cls, obFil c.fil, gBx c, obCls e.cls, iOb e.par, iOb e.fst, iOb e.nx, iOb e.en, obFil e.fil, iOb e.tgt, lBx e]⟩
def lyS8 (c : Cfg) (e : Ldd) : St := ⟨96, tl [(1, .optr 0 0 0 0), (4, .optr 1 0 0 0), (5, B true), (6, .optr 4 0 0 0), (7, .optr 12 0 0 0), (8, B true)], [pBx c, dBx e, obCls c.cls, obFil c.fil, gBx c, obCls e.cls, iOb e.par, iOb e.fst, iOb e.nx, iOb e.en, obFil e.fil, iOb e.tgt, lBx e]⟩
def lyS9 (c : Cfg) (e : Ldd) : St := ⟨96, tl [(1, .optr 0 0 0 0), (4, .optr 1 0 0 0), (5, B true), (6, .optr 4 0 0 0), (7, .optr 12 0 0 0), (8, B true)], [pBx c, dBx e, obCls c.cls, obFil c.fil, gBx c, obCls e.cls, iOb e.par, iOb e.fst, iOb e.nx, iOb e.en, obFil e.fil, iOb e.tgt, lBx e]⟩
def lyS10 (c : Cfg) (e : Ldd) : St := ⟨96, tl [(1, .optr 0 0 0 0), (4, .optr 1 0 0 0), (5, B true), (6, .optr 4 0 0 0), (7, .optr 12 0 0 0), (8, B true), (9, I 1)], [pBx c, dBx e, obCls c.cls, obFil c.fil, gBx c, obCls e.cls, iOb e.par, iOb e.fst, iOb e.nx, iOb e.en, obFil e.fil, iOb e.tgt, lBx e]⟩
def lyS11 (c : Cfg) (e : Ldd) : St := ⟨96, tl [(1, .optr 0 0 0 0), (4, .optr 1 0 0 0), (5, B true), (6, .optr 4 0 0 0), (7, .optr 12 0 0 0), (8, B true), (9, I (1 + 8 * (c.cls.length : Int) + 5 * (c.fil.length : Int)))], [pBx c, dBx e, obCls (mkc c).cls, obFil (mkc c).fil, gBx c, obCls e.cls, iOb e.par, iOb e.fst, iOb e.nx, iOb e.en, obFil e.fil, iOb e.tgt, lBx e]⟩
def lyS12 (c : Cfg) (e : Ldd) : St := ⟨96, tl [(1, .optr 0 0 0 0), (4, .optr 1 0 0 0), (5, B true), (6, .optr 4 0 0 0), (7, .optr 12 0 0 0), (8, B true)], [pBx c, dBx e, obCls (mkc c).cls, obFil (mkc c).fil, gBx c, obCls e.cls, iOb e.par, iOb e.fst, iOb e.nx, iOb e.en, obFil e.fil, iOb e.tgt, lBx e]⟩
def lyS13 (c : Cfg) (e : Ldd) : St := ⟨96, tl [(1, .optr 0 0 0 0), (4, .optr 1 0 0 0), (5, B true), (6, .optr 4 0 0 0), (7, .optr 12 0 0 0), (8, B true), (10, I 1)], [pBx c, dBx e, obCls (mkc c).cls, obFil (mkc c).fil, gBx c, obCls e.cls, iOb e.par, iOb e.fst, iOb e.nx, iOb e.en, obFil e.fil, iOb e.tgt, lBx e]⟩
def lyS14 (c : Cfg) (e : Ldd) : St := ⟨96, tl [(1, .optr 0 0 0 0), (4, .optr 1 0 0 0), (5, B true), (6, .optr 4 0 0 0), (7, .optr 12 0 0 0), (8, B true), (10, I (lTot 1 (lLen e) 7))], [pBx c, dBx e, obCls (mkc c).cls, obFil (mkc c).fil, gBx c, obCls (mke e).cls, iOb (mke e).par, iOb (mke e).fst, iOb (mke e).nx, iOb (mke e).en, obFil (mke e).fil, iOb (mke e).tgt, lBx e]⟩
def lyS15 (c : Cfg) (e : Ldd) : St := ⟨96, tl [(1, .optr 0 0 0 0), (4, .optr 1 0 0 0), (5, B true), (6, .optr 4 0 0 0), (7, .optr 12 0 0 0), (8, B true), (10, I (lTot 1 (lLen e) 7)), (11, I 1)], [pBx c, dBx e, obCls (mkc c).cls, obFil (mkc c).fil, gBx c, obCls (mke e).cls, iOb (mke e).par, iOb (mke e).fst, iOb (mke e).nx, iOb (mke e).en, obFil (mke e).fil, iOb (mke e).tgt, lBx e]⟩
def lyS16 (c : Cfg) (e : Ldd) : St := ⟨96, tl [(1, .optr 0 0 0 0), (4, .optr 1 0 0 0), (5, B true), (6, .optr 4 0 0 0), (7, .optr 12 0 0 0), (8, B true), (10, I (lTot 1 (lLen e) 7)), (11, I (lTot 1 (lLen e) 7))], [pBx c, dBx e, obCls (mkc c).cls, obFil (mkc c).fil, gBx c, obCls (mke e).cls, iOb (mke e).par, iOb (mke e).fst, iOb (mke e).nx, iOb (mke e).en, obFil (mke e).fil, iOb (mke e).tgt, lBx e]⟩
def lyS17 (c : Cfg) (e : Ldd) : St := ⟨96, tl [(1, .optr 0 0 0 0), (4, .optr 1 0 0 0), (5, B true), (6, .optr 4 0 0 0), (7, .optr 12 0 0 0), (8, B true), (10, I (lTot 1 (lLen e) 7)), (11, I (lTot 1 (lLen e) 7))], [pBx c, dBx e, obCls (mkc c).cls, obFil (mkc c).fil, gBx c, obCls (mke e).cls, iOb (mke e).par, iOb (mke e).fst, iOb (mke e).nx, iOb (mke e).en, obFil (mke e).fil, iOb (mke e).tgt, lBx e]⟩
def lyS18 (c : Cfg) (e : Ldd) : St := ⟨96, tl [(1, .optr 0 0 0 0), (4, .optr 1 0 0 0), (5, B true), (6, .optr 4 0 0 0), (7, .optr 12 0 0 0), (8, B true), (10, I (lTot 1 (lLen e) 7))], [pBx c, dBx e, obCls (mkc c).cls, obFil (mkc c).fil, gBx c, obCls (mke e).cls, iOb (mke e).par, iOb (mke e).fst, iOb (mke e).nx, iOb (mke e).en, obFil (mke e).fil, iOb (mke e).tgt, lBx e]⟩
def lyS19 (c : Cfg) (e : Ldd) : St := ⟨96, tl [(1, .optr 0 0 0 0), (4, .optr 1 0 0 0), (5, B true), (6, .optr 4 0 0 0), (7, .optr 12 0 0 0), (8, B true), (10, I (lTot 1 (lLen e) 7)), (12, .optr 13 0 0 0), (13, B true)], [pBx c, dBx e, obCls (mkc c).cls, obFil (mkc c).fil, gBx c, obCls (mke e).cls, iOb (mke e).par, iOb (mke e).fst, iOb (mke e).nx, iOb (mke e).en, obFil (mke e).fil, iOb (mke e).tgt, lBx e, dBx e]⟩
def lyS20 (c : Cfg) (e : Ldd) : St := ⟨96, tl [(1, .optr 0 0 0 0), (4, .optr 1 0 0 0), (5, B true), (6, .optr 4 0 0 0), (7, .optr 12 0 0 0), (8, B true), (10, I (lTot 1 (lLen e) 7))], [pBx c, dBx e, obCls (mkc c).cls, obFil (mkc c).fil, gBx c, obCls (mke e).cls, iOb (mke e).par, iOb (mke e).fst, iOb (mke e).nx, iOb (mke e).en, obFil (mke e).fil, iOb (mke e).tgt, lBx e]⟩
def lyS21 (c : Cfg) (e : Ldd) : St := ⟨96, tl [(1, .optr 0 0 0 0), (4, .optr 1 0 0 0), (5, B true), (6, .optr 4 0 0 0), (7, .optr 12 0 0 0), (8, B true), (10, I (lTot 1 (lLen e) 7)), (11, I 1)], [pBx c, dBx e, obCls (mkc c).cls, obFil (mkc c).fil, gBx c, obCls (mke e).cls, iOb (mke e).par, iOb (mke e).fst, iOb (mke e).nx, iOb (mke e).en, obFil (mke e).fil, iOb (mke e).tgt, lBx e]⟩
def lyS22 (c : Cfg) (e : Ldd) : St := ⟨96, tl [(1, .optr 0 0 0 0), (4, .optr 1 0 0 0), (5, B true), (6, .optr 4 0 0 0), (7, .optr 12 0 0 0), (8, B true), (10, I (lTot 1 (lLen e) 7)), (11, I (lTot 1 (lLen e) 7))], [pBx c, dBx e, obCls (mkc c).cls, obFil (mkc c).fil, gBx c, obCls (mke e).cls, iOb (mke e).par, iOb (mke e).fst, iOb (mke e).nx, iOb (mke e).en, obFil (mke e).fil, iOb (mke e).tgt, lBx e]⟩
def lyS23 (c : Cfg) (e : Ldd) : St := ⟨96, tl [(1, .optr 0 0 0 0), (4, .optr 1 0 0 0), (5, B true), (6, .optr 4 0 0 0), (7, .optr 12 0 0 0), (8, B true), (10, I (lTot 1 (lLen e) 7)), (11, I (lTot 1 (lLen e) 7))], [pBx c, dBx e, obCls (mkc c).cls, obFil (mkc c).fil, gBx c, obCls (mke e).cls, iOb (mke e).par, iOb (mke e).fst, iOb (mke e).nx, iOb (mke e).en, obFil (mke e).fil, iOb (mke e).tgt, lBx e]⟩
def lyS24 (c : Cfg) (e : Ldd) : St := ⟨96, tl [(1, .optr 0 0 0 0)], [pBx c]⟩
structure LdNo (c : Cfg) (e : Ldd) : Prop where
  ho : okC c
  oe : okL e
  i : ldX c = (.tup [.agg (lX nilE), B false], [])
  s : rdX c = (.tup [.agg (lX nilE), B false], [])
theorem lnF (c : Cfg) (e : Ldd) (h : LdNo c e) : (F8.res [.agg [.v (.string c.name), .sl (tR c.cls), .sl (tR c.fil), I c.dflt]] = (.tup [.agg (lX nilE), B false], [])) ∧ (F6.res [.agg [.v (.string c.name), .sl (tR c.cls), .sl (tR c.fil), I c.dflt]] = (.tup [.agg (lX nilE), B false], [])) ∧ (F8.pre [.agg [.v (.string c.name), .sl (tR c.cls), .sl (tR c.fil), I c.dflt]]) ∧ (F6.pre [.agg [.v (.string c.name), .sl (tR c.cls), .sl (tR c.fil), I c.dflt]]) ∧ (F7.res [.agg [.v (.string c.name), .sl (tR c.cls), .sl (tR c.fil), I c.dflt]] = (cO c, cOb c)) ∧ (F7.pre [.agg [.v (.string c.name), .sl (tR c.cls), .sl (tR c.fil), I c.dflt]]) ∧ (F10.pre [.agg [.v (.string c.name), .sl (tR c.cls), .sl (tR c.fil), I c.dflt], .agg [.v (.string c.name), .sl (tR c.cls), .sl (tR c.fil), I c.dflt]]) ∧ (F10.res [.agg [.v (.string c.name), .sl (tR c.cls), .sl (tR c.fil), I c.dflt], .agg [.v (.string c.name), .sl (tR c.cls), .sl (tR c.fil), I c.dflt]] = (B true, [])) ∧ (F9.pre [.agg [.v (.string e.name), .sl (tR e.cls), .sl (iR e.par), .sl (iR e.fst), .sl (iR e.nx), .sl (iR e.en), .sl (tR e.fil), .sl (iR e.tgt), I e.dflt], .agg [.v (.string e.name), .sl (tR e.cls), .sl (iR e.par), .sl (iR e.fst), .sl (iR e.nx), .sl (iR e.en), .sl (tR e.fil), .sl (iR e.tgt), I e.dflt]]) ∧ (F9.res [.agg [.v (.string e.name), .sl (tR e.cls), .sl (iR e.par), .sl (iR e.fst), .sl (iR e.nx), .sl (iR e.en), .sl (tR e.fil), .sl (iR e.tgt), I e.dflt], .agg [.v (.string e.name), .sl (tR e.cls), .sl (iR e.par), .sl (iR e.fst), .sl (iR e.nx), .sl (iR e.en), .sl (tR e.fil), .sl (iR e.tgt), I e.dflt]] = (B true, [])) ∧ (¬ lTot 1 (lLen e) 7 < 0) ∧ (¬ (1 : Int) + 8 * c.cls.length + 5 * c.fil.length < 0) ∧ (M11.mu = [true]) ∧ (M12.mu = [true]) := by
  obtain ⟨ho, oe, hI, hS⟩ := h
  have hRi : F8.res [.agg [.v (.string c.name), .sl (tR c.cls), .sl (tR c.fil), I c.dflt]] = (.tup [.agg (lX nilE), B false], []) := (F8_res c).trans hI
  have hRs : F6.res [.agg [.v (.string c.name), .sl (tR c.cls), .sl (tR c.fil), I c.dflt]] = (.tup [.agg (lX nilE), B false], []) := (F6_res c).trans hS
  have hPi : F8.pre [.agg [.v (.string c.name), .sl (tR c.cls), .sl (tR c.fil), I c.dflt]] := F8_mk c ho
  have hPs : F6.pre [.agg [.v (.string c.name), .sl (tR c.cls), .sl (tR c.fil), I c.dflt]] := F6_mk c ho
  have hRt : F7.res [.agg [.v (.string c.name), .sl (tR c.cls), .sl (tR c.fil), I c.dflt]] = (cO c, cOb c) := F7_res c
  have hPt : F7.pre [.agg [.v (.string c.name), .sl (tR c.cls), .sl (tR c.fil), I c.dflt]] := F7_mk c ho
  have hPq : F10.pre [.agg [.v (.string c.name), .sl (tR c.cls), .sl (tR c.fil), I c.dflt], .agg [.v (.string c.name), .sl (tR c.cls), .sl (tR c.fil), I c.dflt]] := by simp [F10, ho]
  have hRq : F10.res [.agg [.v (.string c.name), .sl (tR c.cls), .sl (tR c.fil), I c.dflt], .agg [.v (.string c.name), .sl (tR c.cls), .sl (tR c.fil), I c.dflt]] = (B true, []) := rfl
  have hPe : F9.pre [.agg [.v (.string e.name), .sl (tR e.cls), .sl (iR e.par), .sl (iR e.fst), .sl (iR e.nx), .sl (iR e.en), .sl (tR e.fil), .sl (iR e.tgt), I e.dflt], .agg [.v (.string e.name), .sl (tR e.cls), .sl (iR e.par), .sl (iR e.fst), .sl (iR e.nx), .sl (iR e.en), .sl (tR e.fil), .sl (iR e.tgt), I e.dflt]] := ⟨e, rfl, oe⟩
  have hRe : F9.res [.agg [.v (.string e.name), .sl (tR e.cls), .sl (iR e.par), .sl (iR e.fst), .sl (iR e.nx), .sl (iR e.en), .sl (tR e.fil), .sl (iR e.tgt), I e.dflt], .agg [.v (.string e.name), .sl (tR e.cls), .sl (iR e.par), .sl (iR e.fst), .sl (iR e.nx), .sl (iR e.en), .sl (tR e.fil), .sl (iR e.tgt), I e.dflt]] = (B true, []) := rfl
  have hT : ¬ lTot 1 (lLen e) 7 < 0 := by
    simp only [lTot]
    omega
  have g1 := ho.1
  have g2 := ho.2.1
  have k2 : ¬ (1 : Int) + 8 * c.cls.length + 5 * c.fil.length < 0 := by omega
  have hmu : M11.mu = [true] := rfl
  have hml : M12.mu = [true] := rfl
  exact ⟨hRi, hRs, hPi, hPs, hRt, hPt, hPq, hRq, hPe, hRe, hT, k2, hmu, hml⟩
def lnS4 (c : Cfg) (e : Ldd) : St := ⟨96, tl [(1, .optr 0 0 0 0)], [pBx c]⟩
def lnS5 (c : Cfg) (e : Ldd) : St := ⟨96, tl [(1, .optr 0 0 0 0), (4, .optr 1 0 0 0), (5, B false)], [pBx c, dBx e]⟩
def lnS6 (c : Cfg) (e : Ldd) : St := ⟨96, tl [(1, .optr 0 0 0 0), (4, .optr 1 0 0 0), (5, B false), (6, .optr 4 0 0 0)], [pBx c, dBx e, obCls c.cls, obFil c.fil, gBx c]⟩
def lnS7 (c : Cfg) (e : Ldd) : St := ⟨96, tl [(1, .optr 0 0 0 0), (4, .optr 1 0 0 0), (5, B false), (6, .optr 4 0 0 0), (7, .optr 5 0 0 0), (8, B false)], [pBx c, dBx e, obCls c.cls, obFil c.fil, gBx c, dBx e]⟩
def lnS8 (c : Cfg) (e : Ldd) : St := ⟨96, tl [(1, .optr 0 0 0 0), (4, .optr 1 0 0 0), (5, B false), (6, .optr 4 0 0 0), (7, .optr 5 0 0 0), (8, B false)], [pBx c, dBx e, obCls c.cls, obFil c.fil, gBx c, dBx e]⟩
def lnS9 (c : Cfg) (e : Ldd) : St := ⟨96, tl [(1, .optr 0 0 0 0), (4, .optr 1 0 0 0), (5, B false), (6, .optr 4 0 0 0), (7, .optr 5 0 0 0), (8, B false)], [pBx c, dBx e, obCls c.cls, obFil c.fil, gBx c, dBx e]⟩
def lnS10 (c : Cfg) (e : Ldd) : St := ⟨96, tl [(1, .optr 0 0 0 0), (4, .optr 1 0 0 0), (5, B false), (6, .optr 4 0 0 0), (7, .optr 5 0 0 0), (8, B false), (9, I 1)], [pBx c, dBx e, obCls c.cls, obFil c.fil, gBx c, dBx e]⟩
def lnS11 (c : Cfg) (e : Ldd) : St := ⟨96, tl [(1, .optr 0 0 0 0), (4, .optr 1 0 0 0), (5, B false), (6, .optr 4 0 0 0), (7, .optr 5 0 0 0), (8, B false), (9, I (1 + 8 * (c.cls.length : Int) + 5 * (c.fil.length : Int)))], [pBx c, dBx e, obCls (mkc c).cls, obFil (mkc c).fil, gBx c, dBx e]⟩
def lnS12 (c : Cfg) (e : Ldd) : St := ⟨96, tl [(1, .optr 0 0 0 0), (4, .optr 1 0 0 0), (5, B false), (6, .optr 4 0 0 0), (7, .optr 5 0 0 0), (8, B false)], [pBx c, dBx e, obCls (mkc c).cls, obFil (mkc c).fil, gBx c, dBx e]⟩
def lnS13 (c : Cfg) (e : Ldd) : St := ⟨96, tl [(1, .optr 0 0 0 0), (4, .optr 1 0 0 0), (5, B false), (6, .optr 4 0 0 0), (7, .optr 5 0 0 0), (8, B false), (10, I 1)], [pBx c, dBx e, obCls (mkc c).cls, obFil (mkc c).fil, gBx c, dBx e]⟩
def lnS14 (c : Cfg) (e : Ldd) : St := ⟨96, tl [(1, .optr 0 0 0 0), (4, .optr 1 0 0 0), (5, B false), (6, .optr 4 0 0 0), (7, .optr 5 0 0 0), (8, B false), (10, I (lTot 1 (lLen e) 7))], [pBx c, dBx e, obCls (mkc c).cls, obFil (mkc c).fil, gBx c, dBx e]⟩
def lnS15 (c : Cfg) (e : Ldd) : St := ⟨96, tl [(1, .optr 0 0 0 0), (4, .optr 1 0 0 0), (5, B false), (6, .optr 4 0 0 0), (7, .optr 5 0 0 0), (8, B false), (10, I (lTot 1 (lLen e) 7)), (11, I 1)], [pBx c, dBx e, obCls (mkc c).cls, obFil (mkc c).fil, gBx c, dBx e]⟩
def lnS16 (c : Cfg) (e : Ldd) : St := ⟨96, tl [(1, .optr 0 0 0 0), (4, .optr 1 0 0 0), (5, B false), (6, .optr 4 0 0 0), (7, .optr 5 0 0 0), (8, B false), (10, I (lTot 1 (lLen e) 7)), (11, I (lTot 1 (lLen e) 7))], [pBx c, dBx e, obCls (mkc c).cls, obFil (mkc c).fil, gBx c, dBx e]⟩
def lnS17 (c : Cfg) (e : Ldd) : St := ⟨96, tl [(1, .optr 0 0 0 0), (4, .optr 1 0 0 0), (5, B false), (6, .optr 4 0 0 0), (7, .optr 5 0 0 0), (8, B false), (10, I (lTot 1 (lLen e) 7)), (11, I (lTot 1 (lLen e) 7))], [pBx c, dBx e, obCls (mkc c).cls, obFil (mkc c).fil, gBx c, dBx e]⟩
def lnS18 (c : Cfg) (e : Ldd) : St := ⟨96, tl [(1, .optr 0 0 0 0), (4, .optr 1 0 0 0), (5, B false), (6, .optr 4 0 0 0), (7, .optr 5 0 0 0), (8, B false), (10, I (lTot 1 (lLen e) 7))], [pBx c, dBx e, obCls (mkc c).cls, obFil (mkc c).fil, gBx c, dBx e]⟩
def lnS19 (c : Cfg) (e : Ldd) : St := ⟨96, tl [(1, .optr 0 0 0 0), (4, .optr 1 0 0 0), (5, B false), (6, .optr 4 0 0 0), (7, .optr 5 0 0 0), (8, B false), (10, I (lTot 1 (lLen e) 7)), (12, .optr 6 0 0 0), (13, B false)], [pBx c, dBx e, obCls (mkc c).cls, obFil (mkc c).fil, gBx c, dBx e, dBx e]⟩
def lnS20 (c : Cfg) (e : Ldd) : St := ⟨96, tl [(1, .optr 0 0 0 0), (4, .optr 1 0 0 0), (5, B false), (6, .optr 4 0 0 0), (7, .optr 5 0 0 0), (8, B false), (10, I (lTot 1 (lLen e) 7))], [pBx c, dBx e, obCls (mkc c).cls, obFil (mkc c).fil, gBx c, dBx e]⟩
def lnS21 (c : Cfg) (e : Ldd) : St := ⟨96, tl [(1, .optr 0 0 0 0), (4, .optr 1 0 0 0), (5, B false), (6, .optr 4 0 0 0), (7, .optr 5 0 0 0), (8, B false), (10, I (lTot 1 (lLen e) 7)), (11, I 1)], [pBx c, dBx e, obCls (mkc c).cls, obFil (mkc c).fil, gBx c, dBx e]⟩
def lnS22 (c : Cfg) (e : Ldd) : St := ⟨96, tl [(1, .optr 0 0 0 0), (4, .optr 1 0 0 0), (5, B false), (6, .optr 4 0 0 0), (7, .optr 5 0 0 0), (8, B false), (10, I (lTot 1 (lLen e) 7)), (11, I (lTot 1 (lLen e) 7))], [pBx c, dBx e, obCls (mkc c).cls, obFil (mkc c).fil, gBx c, dBx e]⟩
def lnS23 (c : Cfg) (e : Ldd) : St := ⟨96, tl [(1, .optr 0 0 0 0), (4, .optr 1 0 0 0), (5, B false), (6, .optr 4 0 0 0), (7, .optr 5 0 0 0), (8, B false), (10, I (lTot 1 (lLen e) 7)), (11, I (lTot 1 (lLen e) 7))], [pBx c, dBx e, obCls (mkc c).cls, obFil (mkc c).fil, gBx c, dBx e]⟩
def lnS24 (c : Cfg) (e : Ldd) : St := ⟨96, tl [(1, .optr 0 0 0 0)], [pBx c]⟩
end Go.Proofs
