/-
  What is proved here: contracts of ifConfig, and of ReadFlat of the program and of the reference. Condition: none.
-/
import Derived.Test.YtecpfgnkiifnpaaGreatDoorFR22m
import Derived.Test.YtecpfgnkiifnpaaGreatDoorCfC
namespace Go.Proofs
open Go.Abs Go.Flat
set_option linter.unusedSimpArgs false
set_option linter.unnecessarySimpa false
set_option linter.unusedVariables false
set_option maxHeartbeats 16000000
set_option maxRecDepth 20000
theorem pur2osl (h : List Ob) (k ver : Nat) : purN h 2 (.osl k ver) = (match h[k]? with
    | some ob => if ob.ver = ver ∧ ob.bx = false then .sl (ob.rows.map fun r => r.map (purN h 1)) else .top
    | none => .top) := rfl
theorem purnil2 (h : List Ob) : purN h 2 (.v (.slice none 0 0)) = .sl [] := rfl
def nilRw : X := .agg [.v (.string ⟨#[]⟩), .v (.slice none 0 0), .v (.slice none 0 0), I 0]
def cOk (c : Cfg) : List Ob := [obCls c.cls, obFil c.fil]
def cAg (c : Cfg) : X := .agg [.v (.string c.name), .osl 0 0, .osl 1 0, I c.dflt]
def unA (xs : List X) (obs : List Ob) : Cfg := match xs, obs with
  | [.agg [n, _, _, d]], [a, b] => ⟨deS n, deT (.sl a.rows), deT (.sl b.rows), deI d⟩
  | _, _ => ⟨⟨#[]⟩, [], [], 0⟩
theorem unA_eq (c : Cfg) : unA [cAg c] (cOk c) = c := by simp [unA, cAg, cOk, obCls, obFil]
def M15 : MFun := ⟨[true], fun xs obs => ∃ c : Cfg, xs = [cAg c] ∧ obs = cOk c ∧ okC c, fun xs obs => (.tup [if isCfg (unA xs obs) = true then cAg (unA xs obs) else nilRw, B (isCfg (unA xs obs))], cOk (unA xs obs))⟩
theorem n15 : GenNA K Tryz.prog 15 M15 := by
  refine contractNA Tryz.mix K [(34, F34)] [] [] (by simp [c34]) (by simp) (by simp) Tryz.func15 rfl (by decide) ?_
  rintro xs obs us ⟨c, rfl, rfl, hp⟩ hu
  obtain ⟨u0, u1, rfl⟩ : ∃ u0 u1, us = [u0, u1] := by
    match us, hu with
    | [a, b], _ => exact ⟨a, b, rfl⟩
  refine ⟨⟨by rw [Tryz.ntmps15]; simp, by simp, fun k ob hob => ?_⟩, ?_⟩
  · have e : M15.res [cAg c] (cOk c) = (.tup [if isCfg c = true then cAg c else nilRw, B (isCfg c)], cOk c) := by simp only [M15, unA_eq]
    rw [e]
    match k, hob with
    | 0, hob => simp [cOk] at hob; subst hob; exact ⟨_, rfl, rfl, rfl, rfl, rfl⟩
    | 1, hob => simp [cOk] at hob; subst hob; exact ⟨_, rfl, rfl, rfl, rfl, rfl⟩
    | k + 2, hob => simp [cOk] at hob
  have e : M15.res [cAg c] (cOk c) = (.tup [if isCfg c = true then cAg c else nilRw, B (isCfg c)], cOk c) := by simp only [M15, unA_eq]
  rw [e]
  have hoC : okC ⟨c.name, c.cls, c.fil, c.dflt⟩ := hp
  cases g : isCfg c with
  | false =>
    have g' : isCfg ⟨c.name, c.cls, c.fil, c.dflt⟩ = false := g
    simp -implicitDefEqProofs [Tryz.f15, List.lookup_cons, eS, F34, cAg, cOk, obCls, obFil, hp, hoC, g, g', pur2osl, purnil2]
    refine finN [0, 1] [] (by simp [pickOkN]) (by simp [upd, tl_cons]) ?_
    simp [nilRw, one]
  | true =>
    have g' : isCfg ⟨c.name, c.cls, c.fil, c.dflt⟩ = true := g
    simp -implicitDefEqProofs [Tryz.f15, List.lookup_cons, eS, F34, cAg, cOk, obCls, obFil, hp, hoC, g, g', pur2osl, purnil2]
    refine finN [0, 1] [] (by simp [pickOkN]) (by simp [upd, tl_cons]) ?_
    simp [one]
def rfX : Option Cfg → X × List Ob
  | some d => (.tup [cAg d, B true], cOk d)
  | none => (.tup [zCf, B false], [])
def rgX : Option Cfg → X × List Ob
  | some d => (.tup [.agg (cX d), B true], [])
  | none => (.tup [zCf, B false], [])
def rdP (s : ByteArray) : Option Cfg := match parseS s with
  | .ok st => if isCfg st.c = true then some st.c else none
  | .er _ _ => none
theorem okQ_c {st : Ps} (h : okQ st) : okC st.c := ⟨Nat.le_trans h.1 (by decide), Nat.le_trans h.2.1 (by decide), h.2.2.2.2⟩
theorem rdP_ok {s : ByteArray} {d : Cfg} (h : rdP s = some d) : ∃ st, st.c = d ∧ okQ st := by
  unfold rdP at h
  revert h
  cases hp : parseS s with
  | er k a => intro h; cases h
  | ok st =>
    intro h
    dsimp only at h
    split at h
    · injection h with h; exact ⟨st, h, parseS_okQ hp⟩
    · cases h
def F6 : Fun := ⟨fun xs => ∃ s, xs = [Sx s] ∧ s.size ≤ 2097152, fun xs => rfX (rdP (deS (xs.getD 0 .top)))⟩
theorem c6 : GenCA K Tryz.prog 6 F6 := by
  refine contractAN Tryz.mix K [(14, F14)] [] [(15, M15)] (by simp [c14]) (by simp) (by simp [n15]) Tryz.func6 rfl (by decide) ?_
  rintro xs ⟨s, rfl, hs⟩
  have hres : F6.res [Sx s] = rfX (rdP s) := rfl
  rw [hres]
  refine ⟨by rw [Tryz.ntmps6]; simp, ?_⟩
  have p1 : F14.pre [.v (.string s)] := ⟨s, rfl, hs⟩
  have q1 : F14.res [.v (.string s)] = pcX (parseS s) := rfl
  unfold rdP
  cases h : parseS s with
  | er k a =>
    rw [h] at q1
    simp only [pcX, zCf] at q1
    simp -implicitDefEqProofs [Tryz.f6, List.lookup_cons, eS, Sx, p1, q1]
    refine fin_pure (by simp) ?_
    simp -implicitDefEqProofs [fS, rn0, pickObs, deI, rfX, zCf, purnil2]
  | ok st =>
    have ho := okQ_c (parseS_okQ h)
    rw [h] at q1
    simp only [pcX, obCls, obFil] at q1
    have i1 : M15.pre [.agg [.v (.string st.c.name), .osl 0 0, .osl 1 0, I st.c.dflt]] [⟨63, 8, 0, tR st.c.cls, false, true, none⟩, ⟨66, 5, 0, tR st.c.fil, false, true, none⟩] := ⟨st.c, rfl, rfl, ho⟩
    have i2 : M15.res [.agg [.v (.string st.c.name), .osl 0 0, .osl 1 0, I st.c.dflt]] [⟨63, 8, 0, tR st.c.cls, false, true, none⟩, ⟨66, 5, 0, tR st.c.fil, false, true, none⟩] = (.tup [if isCfg st.c = true then cAg st.c else nilRw, B (isCfg st.c)], cOk st.c) := by
      show (X.tup [if isCfg (unA [cAg st.c] (cOk st.c)) = true then cAg (unA [cAg st.c] (cOk st.c)) else nilRw, B (isCfg (unA [cAg st.c] (cOk st.c)))], cOk (unA [cAg st.c] (cOk st.c))) = _
      rw [unA_eq]
    have i3 : M15.mu = [true] := rfl
    cases g : isCfg st.c with
    | false =>
      rw [g] at i2
      simp only [cOk, nilRw, obCls, obFil, Bool.false_eq_true, if_false] at i2
      simp -implicitDefEqProofs [Tryz.f6, List.lookup_cons, eS, rbR_iR, rbR_nil, rbOb_mk, iR_mf, pickOk, -List.all_eq_true, iR_ok, ok0, iR_eq_nil, deIs_nil, Sx, p1, q1, i1, i2, i3, g, pickOkN, tR_rw, tR_rv]
      refine fin_pure (by simp) ?_
      simp -implicitDefEqProofs [fS, rn0, pickObs, deI, rfX, zCf, purnil2]
    | true =>
      rw [g] at i2
      simp only [cOk, cAg, obCls, obFil, if_true] at i2
      simp -implicitDefEqProofs [Tryz.f6, List.lookup_cons, eS, rbR_iR, rbR_nil, rbOb_mk, iR_mf, pickOk, -List.all_eq_true, iR_ok, ok0, iR_eq_nil, deIs_nil, Sx, p1, q1, i1, i2, i3, g, pickOkN, tR_rw, tR_rv]
      refine fin_own [1, 2] (by simp [pickOk, -List.all_eq_true, tR_ok]) ?_
      simp -implicitDefEqProofs [fS, rn0, pickObs, deI, rfX, cAg, cOk, obCls, obFil]
def F5 : Fun := ⟨fun xs => ∃ s, xs = [Sx s] ∧ s.size ≤ 2097152, fun xs => rgX (rdP (deS (xs.getD 0 .top)))⟩
theorem c5 : GenCA K Tryz.prog 5 F5 := by
  refine contractA Tryz.mix K [(12, F12), (13, F34)] [] (by simp [c12, c13]) (by simp) Tryz.func5 rfl (by decide) ?_
  rintro xs ⟨s, rfl, hs⟩
  have hres : F5.res [Sx s] = rgX (rdP s) := rfl
  rw [hres]
  refine ⟨by rw [Tryz.ntmps5]; simp, ?_⟩
  have p1 : F12.pre [.v (.string s)] := ⟨s, rfl, hs⟩
  have q1 : F12.res [.v (.string s)] = ppX (parseS s) := rfl
  unfold rdP
  cases h : parseS s with
  | er k a =>
    have hk := parseS_pos h
    rw [h] at q1
    simp only [ppX, zCf] at q1
    simp -implicitDefEqProofs [Tryz.f5, List.lookup_cons, eS, Sx, p1, q1, hk]
    refine fin_pure (by simp) ?_
    simp -implicitDefEqProofs [fS, rn0, pickObs, deI, rgX, zCf, purnil2]
  | ok st =>
    have ho := okQ_c (parseS_okQ h)
    have hoC : okC ⟨st.c.name, st.c.cls, st.c.fil, st.c.dflt⟩ := ho
    rw [h] at q1
    simp only [ppX, cX] at q1
    have p2 : F34.pre [.agg [.v (.string st.c.name), .sl (tR st.c.cls), .sl (tR st.c.fil), I st.c.dflt]] := F34_mk st.c ho
    have q2 : F34.res [.agg [.v (.string st.c.name), .sl (tR st.c.cls), .sl (tR st.c.fil), I st.c.dflt]] = (B (isCfg st.c), []) := F34_res st.c
    cases g : isCfg st.c with
    | false =>
      rw [g] at q2
      simp -implicitDefEqProofs [Tryz.f5, List.lookup_cons, eS, Sx, p1, q1, p2, q2, g]
      refine fin_pure (by simp) ?_
      simp -implicitDefEqProofs [fS, rn0, pickObs, deI, rgX, zCf, purnil2]
    | true =>
      rw [g] at q2
      simp -implicitDefEqProofs [Tryz.f5, List.lookup_cons, eS, Sx, p1, q1, p2, q2, g]
      refine fin_pure (by simp) ?_
      simp -implicitDefEqProofs [fS, rn0, pickObs, deI, rgX]
end Go.Proofs
