/-
  What is proved here: contracts of the reference's command and line. Condition: none.
-/
import Derived.Test.YtecpfgnkiifnpaaGreatDoorFR13o
import Derived.Test.YtecpfgnkiifnpaaGreatDoorFP6o
import Derived.Test.YtecpfgnkiifnpaaGreatDoorLKo
import Derived.Test.YtecpfgnkiifnpaaGreatDoorCCa
import Derived.Test.YtecpfgnkiifnpaaGreatDoorAbs31
namespace Go.Proofs
open Go.Abs Go.Flat
set_option linter.unusedSimpArgs false
set_option linter.unnecessarySimpa false
set_option linter.unusedVariables false
set_option maxHeartbeats 16000000
set_option maxRecDepth 20000
def cntL (st : Ps) : List Int := [(st.nc : Int), (st.nd : Int), (st.c.cls.length : Int), (st.c.fil.length : Int)]
def rdO (v w : Nat) (st : Ps) : List Ob := [⟨51, 5, 0, [[.v (.string st.c.name), .osl 1 v, .osl 2 w, I st.c.dflt, .osl 3 0]], true, true, none⟩, ⟨63, 8, v, tR st.c.cls, false, true, none⟩, ⟨66, 5, w, tR st.c.fil, false, true, none⟩, ⟨3, 1, 0, [[I st.nc], [I st.nd], [I st.c.cls.length], [I st.c.fil.length]], false, true, none⟩]
def unRd (obs : List Ob) : Ps := match obs with
  | [b, lb, fb, nb] => (match b.rows, nb.rows with
    | [[n, _, _, d, _]], [x, y, _, _] => ⟨⟨deS n, deT (.sl lb.rows), deT (.sl fb.rows), deI d⟩, (deI (x.getD 0 .top)).toNat, (deI (y.getD 0 .top)).toNat⟩
    | _, _ => ps0)
  | _ => ps0
theorem unRd_eq (st : Ps) : unRd (rdO 0 0 st) = st := by simp [unRd, rdO, deS, deI]
def cmdS (st : Ps) (w : ByteArray) (a : Int) : Int × Int := if fineW st w = false then (2, a) else if fullW st w = true then (5, a) else (0, 0)
def M47 : MFun := ⟨[true, false, false], fun xs obs => ∃ (st : Ps) (w : ByteArray) (a : Int), xs = [.optr 0 0 0 0, Sx w, I a] ∧ obs = rdO 0 0 st,
  fun xs obs => (.agg [I (cmdS (unRd obs) (deS (xs.getD 1 .top)) (deI (xs.getD 2 .top))).1, I (cmdS (unRd obs) (deS (xs.getD 1 .top)) (deI (xs.getD 2 .top))).2], rdO 0 0 (unRd obs))⟩
theorem cmdS_res (st : Ps) (w : ByteArray) (a : Int) : M47.res [.optr 0 0 0 0, Sx w, I a] (rdO 0 0 st) = (.agg [I (cmdS st w a).1, I (cmdS st w a).2], rdO 0 0 st) := by
  simp [M47, unRd_eq, deS, deI, Sx]
theorem n47 : GenNA K Tryz.prog 47 M47 := by
  refine contractNA Tryz.mix K [(82, Fr82), (25, F25)] [] [] (by simp [cr82, c25]) (by simp) (by simp) Tryz.func47 rfl (by decide) ?_
  rintro xs obs us ⟨st, w, a, rfl, rfl⟩ hu
  obtain ⟨u0, u1, u2, u3, rfl⟩ : ∃ u0 u1 u2 u3, us = [u0, u1, u2, u3] := by
    match us, hu with
    | [a, b, c, d], _ => exact ⟨a, b, c, d, rfl⟩
  rw [cmdS_res]
  refine ⟨⟨by rw [Tryz.ntmps47]; simp, by simp, fun k ob hob => ?_⟩, ?_⟩
  · match k, hob with
    | 0, hob => simp [rdO] at hob; subst hob; exact ⟨_, rfl, rfl, rfl, rfl, rfl⟩
    | 1, hob => simp [rdO] at hob; subst hob; exact ⟨_, rfl, rfl, rfl, rfl, rfl⟩
    | 2, hob => simp [rdO] at hob; subst hob; exact ⟨_, rfl, rfl, rfl, rfl, rfl⟩
    | 3, hob => simp [rdO] at hob; subst hob; exact ⟨_, rfl, rfl, rfl, rfl, rfl⟩
    | k + 4, hob => simp [rdO] at hob
  have pl : Fr82.pre [.v (.string w)] := ⟨w, rfl⟩
  have ql : Fr82.res [.v (.string w)] = (.sl (sR (wordsW w)), []) := rfl
  have pv : ∀ k b : Int, F25.pre [I k, I b] := fun k b => ⟨k, b, rfl⟩
  have qv : ∀ k b : Int, F25.res [I k, I b] = (.agg [I k, I b], []) := fun k b => rfl
  obtain ⟨⟨nm, cl, fi, df⟩, nc, nd⟩ := st
  by_cases h1 : w = kwConfig
  · subst h1
    by_cases z : nc = 0
    · subst z
      have pl : Fr82.pre [.v (.string ⟨#[99, 111, 110, 102, 105, 103]⟩)] := pl
      have ql : Fr82.res [.v (.string ⟨#[99, 111, 110, 102, 105, 103]⟩)] = (.sl (sR (wordsW ⟨#[99, 111, 110, 102, 105, 103]⟩)), []) := ql
      have hwl : (sR (wordsW ⟨#[99, 111, 110, 102, 105, 103]⟩)).length = 1 := rfl
      have hc : cmdS ⟨⟨nm, cl, fi, df⟩, 0, nd⟩ kwConfig a = (0, 0) := by simp [cmdS, fineW, fullW, kwConfig, kwDefault, kwClass, kwFilter]
      rw [hc]
      simp -implicitDefEqProofs [Tryz.f47, List.lookup_cons, eS, rbR_iR, rbR_nil, rbOb_mk, iR_mf, pickOk, -List.all_eq_true, iR_ok, ok0, iR_eq_nil, deIs_nil, Sx, rdO, pl, ql, pv, qv, hwl, kwConfig, kwDefault, kwClass, kwFilter]
      refine finN [0, 1, 2, 3] [] (by simp [pickOkN]) (by simp [upd, tl_cons]) ?_
      simp [one]
    · have zi : ¬ (nc : Int) = 0 := by omega
      have zb : ((nc : Int) == 0) = false := by simpa using zi
      have pl : Fr82.pre [.v (.string ⟨#[99, 111, 110, 102, 105, 103]⟩)] := pl
      have ql : Fr82.res [.v (.string ⟨#[99, 111, 110, 102, 105, 103]⟩)] = (.sl (sR (wordsW ⟨#[99, 111, 110, 102, 105, 103]⟩)), []) := ql
      have hwl : (sR (wordsW ⟨#[99, 111, 110, 102, 105, 103]⟩)).length = 1 := rfl
      have hc : cmdS ⟨⟨nm, cl, fi, df⟩, nc, nd⟩ kwConfig a = (2, a) := by simp [cmdS, fineW, fullW, kwConfig, kwDefault, kwClass, kwFilter, z, zi, zb]
      rw [hc]
      simp -implicitDefEqProofs [Tryz.f47, List.lookup_cons, eS, rbR_iR, rbR_nil, rbOb_mk, iR_mf, pickOk, -List.all_eq_true, iR_ok, ok0, iR_eq_nil, deIs_nil, Sx, rdO, pl, ql, pv, qv, hwl, kwConfig, kwDefault, kwClass, kwFilter, z, zi, zb]
      refine finN [0, 1, 2, 3] [] (by simp [pickOkN]) (by simp [upd, tl_cons]) ?_
      simp [one]
  by_cases h2 : w = kwDefault
  · subst h2
    by_cases z : nc = 0
    · subst z
      have pl : Fr82.pre [.v (.string ⟨#[100, 101, 102, 97, 117, 108, 116]⟩)] := pl
      have ql : Fr82.res [.v (.string ⟨#[100, 101, 102, 97, 117, 108, 116]⟩)] = (.sl (sR (wordsW ⟨#[100, 101, 102, 97, 117, 108, 116]⟩)), []) := ql
      have hwl : (sR (wordsW ⟨#[100, 101, 102, 97, 117, 108, 116]⟩)).length = 1 := rfl
      have hc : cmdS ⟨⟨nm, cl, fi, df⟩, 0, nd⟩ kwDefault a = (2, a) := by simp [cmdS, fineW, fullW, kwConfig, kwDefault, kwClass, kwFilter]
      rw [hc]
      simp -implicitDefEqProofs [Tryz.f47, List.lookup_cons, eS, rbR_iR, rbR_nil, rbOb_mk, iR_mf, pickOk, -List.all_eq_true, iR_ok, ok0, iR_eq_nil, deIs_nil, Sx, rdO, pl, ql, pv, qv, hwl, kwConfig, kwDefault, kwClass, kwFilter]
      refine finN [0, 1, 2, 3] [] (by simp [pickOkN]) (by simp [upd, tl_cons]) ?_
      simp [one]
    · have zi : ¬ (nc : Int) = 0 := by omega
      have zb : ((nc : Int) == 0) = false := by simpa using zi
      by_cases y : nd = 0
      · subst y
        have pl : Fr82.pre [.v (.string ⟨#[100, 101, 102, 97, 117, 108, 116]⟩)] := pl
        have ql : Fr82.res [.v (.string ⟨#[100, 101, 102, 97, 117, 108, 116]⟩)] = (.sl (sR (wordsW ⟨#[100, 101, 102, 97, 117, 108, 116]⟩)), []) := ql
        have hwl : (sR (wordsW ⟨#[100, 101, 102, 97, 117, 108, 116]⟩)).length = 1 := rfl
        have hc : cmdS ⟨⟨nm, cl, fi, df⟩, nc, 0⟩ kwDefault a = (0, 0) := by simp [cmdS, fineW, fullW, kwConfig, kwDefault, kwClass, kwFilter, z, zi, zb]
        rw [hc]
        simp -implicitDefEqProofs [Tryz.f47, List.lookup_cons, eS, rbR_iR, rbR_nil, rbOb_mk, iR_mf, pickOk, -List.all_eq_true, iR_ok, ok0, iR_eq_nil, deIs_nil, Sx, rdO, pl, ql, pv, qv, hwl, kwConfig, kwDefault, kwClass, kwFilter, z, zi, zb]
        refine finN [0, 1, 2, 3] [] (by simp [pickOkN]) (by simp [upd, tl_cons]) ?_
        simp [one]
      · have yi : (0 : Int) < (nd : Int) := by omega
        have yj : 0 < nd := by omega
        have pl : Fr82.pre [.v (.string ⟨#[100, 101, 102, 97, 117, 108, 116]⟩)] := pl
        have ql : Fr82.res [.v (.string ⟨#[100, 101, 102, 97, 117, 108, 116]⟩)] = (.sl (sR (wordsW ⟨#[100, 101, 102, 97, 117, 108, 116]⟩)), []) := ql
        have hwl : (sR (wordsW ⟨#[100, 101, 102, 97, 117, 108, 116]⟩)).length = 1 := rfl
        have hc : cmdS ⟨⟨nm, cl, fi, df⟩, nc, nd⟩ kwDefault a = (2, a) := by simp [cmdS, fineW, fullW, kwConfig, kwDefault, kwClass, kwFilter, z, zi, zb, y, yi, yj]
        rw [hc]
        simp -implicitDefEqProofs [Tryz.f47, List.lookup_cons, eS, rbR_iR, rbR_nil, rbOb_mk, iR_mf, pickOk, -List.all_eq_true, iR_ok, ok0, iR_eq_nil, deIs_nil, Sx, rdO, pl, ql, pv, qv, hwl, kwConfig, kwDefault, kwClass, kwFilter, z, zi, zb, y, yi, yj]
        refine finN [0, 1, 2, 3] [] (by simp [pickOkN]) (by simp [upd, tl_cons]) ?_
        simp [one]
  by_cases h3 : w = kwClass
  · subst h3
    by_cases z : nc = 0
    · subst z
      have pl : Fr82.pre [.v (.string ⟨#[99, 108, 97, 115, 115]⟩)] := pl
      have ql : Fr82.res [.v (.string ⟨#[99, 108, 97, 115, 115]⟩)] = (.sl (sR (wordsW ⟨#[99, 108, 97, 115, 115]⟩)), []) := ql
      have hwl : (sR (wordsW ⟨#[99, 108, 97, 115, 115]⟩)).length = 14 := rfl
      have hc : cmdS ⟨⟨nm, cl, fi, df⟩, 0, nd⟩ kwClass a = (2, a) := by simp [cmdS, fineW, fullW, kwConfig, kwDefault, kwClass, kwFilter]
      rw [hc]
      simp -implicitDefEqProofs [Tryz.f47, List.lookup_cons, eS, rbR_iR, rbR_nil, rbOb_mk, iR_mf, pickOk, -List.all_eq_true, iR_ok, ok0, iR_eq_nil, deIs_nil, Sx, rdO, pl, ql, pv, qv, hwl, kwConfig, kwDefault, kwClass, kwFilter]
      refine finN [0, 1, 2, 3] [] (by simp [pickOkN]) (by simp [upd, tl_cons]) ?_
      simp [one]
    · have zi : ¬ (nc : Int) = 0 := by omega
      have zb : ((nc : Int) == 0) = false := by simpa using zi
      by_cases y : cl.length = 24
      · have yi : (cl.length : Int) = 24 := by omega
        have pl : Fr82.pre [.v (.string ⟨#[99, 108, 97, 115, 115]⟩)] := pl
        have ql : Fr82.res [.v (.string ⟨#[99, 108, 97, 115, 115]⟩)] = (.sl (sR (wordsW ⟨#[99, 108, 97, 115, 115]⟩)), []) := ql
        have hwl : (sR (wordsW ⟨#[99, 108, 97, 115, 115]⟩)).length = 14 := rfl
        have hc : cmdS ⟨⟨nm, cl, fi, df⟩, nc, nd⟩ kwClass a = (5, a) := by simp [cmdS, fineW, fullW, kwConfig, kwDefault, kwClass, kwFilter, z, zi, zb, y, yi]
        rw [hc]
        simp -implicitDefEqProofs [Tryz.f47, List.lookup_cons, eS, rbR_iR, rbR_nil, rbOb_mk, iR_mf, pickOk, -List.all_eq_true, iR_ok, ok0, iR_eq_nil, deIs_nil, Sx, rdO, pl, ql, pv, qv, hwl, kwConfig, kwDefault, kwClass, kwFilter, z, zi, zb, y, yi]
        refine finN [0, 1, 2, 3] [] (by simp [pickOkN]) (by simp [upd, tl_cons]) ?_
        simp [one]
      · have yi : ¬ (cl.length : Int) = 24 := by omega
        have pl : Fr82.pre [.v (.string ⟨#[99, 108, 97, 115, 115]⟩)] := pl
        have ql : Fr82.res [.v (.string ⟨#[99, 108, 97, 115, 115]⟩)] = (.sl (sR (wordsW ⟨#[99, 108, 97, 115, 115]⟩)), []) := ql
        have hwl : (sR (wordsW ⟨#[99, 108, 97, 115, 115]⟩)).length = 14 := rfl
        have hc : cmdS ⟨⟨nm, cl, fi, df⟩, nc, nd⟩ kwClass a = (0, 0) := by simp [cmdS, fineW, fullW, kwConfig, kwDefault, kwClass, kwFilter, z, zi, zb, y, yi]
        rw [hc]
        simp -implicitDefEqProofs [Tryz.f47, List.lookup_cons, eS, rbR_iR, rbR_nil, rbOb_mk, iR_mf, pickOk, -List.all_eq_true, iR_ok, ok0, iR_eq_nil, deIs_nil, Sx, rdO, pl, ql, pv, qv, hwl, kwConfig, kwDefault, kwClass, kwFilter, z, zi, zb, y, yi]
        refine finN [0, 1, 2, 3] [] (by simp [pickOkN]) (by simp [upd, tl_cons]) ?_
        simp [one]
  by_cases h4 : w = kwFilter
  · subst h4
    by_cases z : nc = 0
    · subst z
      have pl : Fr82.pre [.v (.string ⟨#[102, 105, 108, 116, 101, 114]⟩)] := pl
      have ql : Fr82.res [.v (.string ⟨#[102, 105, 108, 116, 101, 114]⟩)] = (.sl (sR (wordsW ⟨#[102, 105, 108, 116, 101, 114]⟩)), []) := ql
      have hwl : (sR (wordsW ⟨#[102, 105, 108, 116, 101, 114]⟩)).length = 9 := rfl
      have hc : cmdS ⟨⟨nm, cl, fi, df⟩, 0, nd⟩ kwFilter a = (2, a) := by simp [cmdS, fineW, fullW, kwConfig, kwDefault, kwClass, kwFilter]
      rw [hc]
      simp -implicitDefEqProofs [Tryz.f47, List.lookup_cons, eS, rbR_iR, rbR_nil, rbOb_mk, iR_mf, pickOk, -List.all_eq_true, iR_ok, ok0, iR_eq_nil, deIs_nil, Sx, rdO, pl, ql, pv, qv, hwl, kwConfig, kwDefault, kwClass, kwFilter]
      refine finN [0, 1, 2, 3] [] (by simp [pickOkN]) (by simp [upd, tl_cons]) ?_
      simp [one]
    · have zi : ¬ (nc : Int) = 0 := by omega
      have zb : ((nc : Int) == 0) = false := by simpa using zi
      by_cases y : fi.length = 16
      · have yi : (fi.length : Int) = 16 := by omega
        have pl : Fr82.pre [.v (.string ⟨#[102, 105, 108, 116, 101, 114]⟩)] := pl
        have ql : Fr82.res [.v (.string ⟨#[102, 105, 108, 116, 101, 114]⟩)] = (.sl (sR (wordsW ⟨#[102, 105, 108, 116, 101, 114]⟩)), []) := ql
        have hwl : (sR (wordsW ⟨#[102, 105, 108, 116, 101, 114]⟩)).length = 9 := rfl
        have hc : cmdS ⟨⟨nm, cl, fi, df⟩, nc, nd⟩ kwFilter a = (5, a) := by simp [cmdS, fineW, fullW, kwConfig, kwDefault, kwClass, kwFilter, z, zi, zb, y, yi]
        rw [hc]
        simp -implicitDefEqProofs [Tryz.f47, List.lookup_cons, eS, rbR_iR, rbR_nil, rbOb_mk, iR_mf, pickOk, -List.all_eq_true, iR_ok, ok0, iR_eq_nil, deIs_nil, Sx, rdO, pl, ql, pv, qv, hwl, kwConfig, kwDefault, kwClass, kwFilter, z, zi, zb, y, yi]
        refine finN [0, 1, 2, 3] [] (by simp [pickOkN]) (by simp [upd, tl_cons]) ?_
        simp [one]
      · have yi : ¬ (fi.length : Int) = 16 := by omega
        have pl : Fr82.pre [.v (.string ⟨#[102, 105, 108, 116, 101, 114]⟩)] := pl
        have ql : Fr82.res [.v (.string ⟨#[102, 105, 108, 116, 101, 114]⟩)] = (.sl (sR (wordsW ⟨#[102, 105, 108, 116, 101, 114]⟩)), []) := ql
        have hwl : (sR (wordsW ⟨#[102, 105, 108, 116, 101, 114]⟩)).length = 9 := rfl
        have hc : cmdS ⟨⟨nm, cl, fi, df⟩, nc, nd⟩ kwFilter a = (0, 0) := by simp [cmdS, fineW, fullW, kwConfig, kwDefault, kwClass, kwFilter, z, zi, zb, y, yi]
        rw [hc]
        simp -implicitDefEqProofs [Tryz.f47, List.lookup_cons, eS, rbR_iR, rbR_nil, rbOb_mk, iR_mf, pickOk, -List.all_eq_true, iR_ok, ok0, iR_eq_nil, deIs_nil, Sx, rdO, pl, ql, pv, qv, hwl, kwConfig, kwDefault, kwClass, kwFilter, z, zi, zb, y, yi]
        refine finN [0, 1, 2, 3] [] (by simp [pickOkN]) (by simp [upd, tl_cons]) ?_
        simp [one]
  have g1 : (w.toList == [99, 111, 110, 102, 105, 103]) = false := by simpa using (toL_ne h1 : ¬ w.toList = [99, 111, 110, 102, 105, 103])
  have g2 : (w.toList == [100, 101, 102, 97, 117, 108, 116]) = false := by simpa using (toL_ne h2 : ¬ w.toList = [100, 101, 102, 97, 117, 108, 116])
  have g3 : (w.toList == [99, 108, 97, 115, 115]) = false := by simpa using (toL_ne h3 : ¬ w.toList = [99, 108, 97, 115, 115])
  have g4 : (w.toList == [102, 105, 108, 116, 101, 114]) = false := by simpa using (toL_ne h4 : ¬ w.toList = [102, 105, 108, 116, 101, 114])
  have hw0 : wordsW w = [] := by simp only [wordsW, if_neg h1, if_neg h2, if_neg h3, if_neg h4]
  rw [hw0] at ql
  have hwl : (sR ([] : List ByteArray)).length = 0 := rfl
  by_cases z : nc = 0
  · subst z
    have hc : cmdS ⟨⟨nm, cl, fi, df⟩, 0, nd⟩ w a = (2, a) := by simp [cmdS, fineW, fullW, h1, h2, h3, h4, g1, g2, g3, g4]
    rw [hc]
    simp -implicitDefEqProofs [Tryz.f47, List.lookup_cons, eS, rbR_iR, rbR_nil, rbOb_mk, iR_mf, pickOk, -List.all_eq_true, iR_ok, ok0, iR_eq_nil, deIs_nil, Sx, rdO, pl, ql, pv, qv, hwl, h1, h2, h3, h4, g1, g2, g3, g4]
    refine finN [0, 1, 2, 3] [] (by simp [pickOkN]) (by simp [upd, tl_cons]) ?_
    simp [one]
  · have zi : ¬ (nc : Int) = 0 := by omega
    have zb : ((nc : Int) == 0) = false := by simpa using zi
    have hc : cmdS ⟨⟨nm, cl, fi, df⟩, nc, nd⟩ w a = (2, a) := by simp [cmdS, fineW, fullW, h1, h2, h3, h4, g1, g2, g3, g4, z, zi, zb]
    rw [hc]
    simp -implicitDefEqProofs [Tryz.f47, List.lookup_cons, eS, rbR_iR, rbR_nil, rbOb_mk, iR_mf, pickOk, -List.all_eq_true, iR_ok, ok0, iR_eq_nil, deIs_nil, Sx, rdO, pl, ql, pv, qv, hwl, h1, h2, h3, h4, g1, g2, g3, g4, z, zi, zb]
    refine finN [0, 1, 2, 3] [] (by simp [pickOkN]) (by simp [upd, tl_cons]) ?_
    simp [one]
end Go.Proofs
