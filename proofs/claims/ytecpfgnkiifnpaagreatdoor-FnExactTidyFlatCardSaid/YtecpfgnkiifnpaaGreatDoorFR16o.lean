/-
  What is proved here: the contract of the reader's command. Condition: none.
-/
import Derived.Test.YtecpfgnkiifnpaaGreatDoorFR11o
import Derived.Test.YtecpfgnkiifnpaaGreatDoorFP5o
import Derived.Test.YtecpfgnkiifnpaaGreatDoorLKo
import Derived.Test.YtecpfgnkiifnpaaGreatDoorCCa
namespace Go.Proofs
open Go.Abs Go.Flat
set_option linter.unusedSimpArgs false
set_option linter.unnecessarySimpa false
set_option linter.unusedVariables false
set_option maxHeartbeats 8000000
set_option maxRecDepth 20000
def fObs (c : Cfg) : List Ob := [obCls c.cls, obFil c.fil]
def cgX (c : Cfg) (i j : Nat) : X := .agg [.v (.string c.name), .osl i 0, .osl j 0, I c.dflt]
def unP (xs : List X) (obs : List Ob) : Ps × Rd := match xs, obs with
  | [_, .agg [n, _, _, d], .agg [a, b]], [rb, cb, fb] => (⟨⟨deS n, deT (.sl cb.rows), deT (.sl fb.rows), deI d⟩, (deI a).toNat, (deI b).toNat⟩, unR [rb])
  | _, _ => (ps0, ⟨noW, 0, 0, false, 0, 0⟩)
def cmdA (st : Ps) : List X := [.optr 0 0 0 0, cgX st.c 1 2, .agg [I st.nc, I st.nd]]
theorem unP_eq (st : Ps) (r : Rd) : unP (cmdA st) (rO r ++ fObs st.c) = (st, r) := by
  have e := unR_rO r
  unfold rO at e
  simp [unP, cmdA, cgX, fObs, obCls, obFil, rO, e, deS, deI]
def M88 : MFun := ⟨[true, true, false], fun xs obs => ∃ (st : Ps) (r : Rd), xs = cmdA st ∧ obs = rO r ++ fObs st.c ∧ okR r,
  fun xs obs => (Sx (cmdR (unP xs obs).1 (unP xs obs).2).1, rO (cmdR (unP xs obs).1 (unP xs obs).2).2 ++ fObs (unP xs obs).1.c)⟩
theorem cmd_res (st : Ps) (r : Rd) : M88.res (cmdA st) (rO r ++ fObs st.c) = (Sx (cmdR st r).1, rO (cmdR st r).2 ++ fObs st.c) := by
  simp only [M88, unP_eq]
theorem n88 : GenNA K Tryz.prog 88 M88 := by
  refine contractNA Tryz.mix K [] [(89, M89), (59, M59)] [] (by simp) (by simp [m89, m59]) (by simp) Tryz.func88 rfl (by decide) ?_
  rintro xs obs us ⟨st, r, rfl, rfl, hk⟩ hu
  obtain ⟨u0, u1, u2, rfl⟩ : ∃ u0 u1 u2, us = [u0, u1, u2] := by
    match us, hu with
    | [a, b, c], _ => exact ⟨a, b, c, rfl⟩
  rw [cmd_res]
  refine ⟨⟨by rw [Tryz.ntmps88]; simp [cmdA], by simp [cmdA], fun k ob hob => ?_⟩, ?_⟩
  · match k, hob with
    | 0, hob => simp [rO] at hob; subst hob; exact ⟨_, rfl, rfl, rfl, rfl, rfl⟩
    | 1, hob => simp [rO, fObs] at hob; subst hob; exact ⟨_, rfl, rfl, rfl, rfl, rfl⟩
    | 2, hob => simp [rO, fObs] at hob; subst hob; exact ⟨_, rfl, rfl, rfl, rfl, rfl⟩
    | k + 3, hob => simp [rO, fObs] at hob
  have imw : M89.mu = [true] := rfl
  have ims : M59.mu = [true] := rfl
  have pw : M89.pre [.optr 0 0 0 0] (rO r) := ⟨r, rfl, rfl, hk⟩
  have qw := word_res r
  obtain ⟨⟨nm, cl, fi, df⟩, nc, nd⟩ := st
  generalize hwr : wordR r = t at qw
  obtain ⟨w, a, q1⟩ := t
  dsimp only at qw
  have ps : ∀ k : Int, M59.pre [.optr 0 0 0 0, I k, I a] (rO q1) := fun k => ⟨k, a, q1, rfl, rfl⟩
  have qs : ∀ k : Int, M59.res [.optr 0 0 0 0, I k, I a] (rO q1) = (.tup [], rO (stopR k a q1)) := fun k => stop_res k a q1
  by_cases h1 : w = kwConfig
  · subst h1
    by_cases z : nc = 0
    · subst z
      have hc : cmdR ⟨⟨nm, cl, fi, df⟩, 0, nd⟩ r = (kwConfig, q1) := by simp [cmdR, hwr, fineW, fullW, kwConfig, kwDefault, kwClass, kwFilter]
      rw [hc]
      unfold rO at pw qw ⊢
      simp -implicitDefEqProofs [Tryz.f88, List.lookup_cons, eS, rbR_iR, rbR_nil, rbOb_mk, iR_mf, pickOk, -List.all_eq_true, iR_ok, ok0, iR_eq_nil, deIs_nil, cmdA, cgX, fObs, obCls, obFil, pw, qw, imw, kwConfig, kwDefault, kwClass, kwFilter, rbR_rd, rn2_T2, tR_rb]
      refine finN [0, 1, 2] [] (by simp [pickOkN]) (by simp [upd, tl_cons]) ?_
      simp [one, Sx]
    · have zi : ¬ (nc : Int) = 0 := by omega
      have hc : cmdR ⟨⟨nm, cl, fi, df⟩, nc, nd⟩ r = (kwConfig, stopR 2 a q1) := by simp [cmdR, hwr, fineW, fullW, kwConfig, kwDefault, kwClass, kwFilter, z, zi]
      rw [hc]
      have p1 := ps 2
      have q2 := qs 2
      generalize stopR 2 a q1 = q3 at q2 ⊢
      unfold rO at pw qw p1 q2 ⊢
      simp -implicitDefEqProofs [Tryz.f88, List.lookup_cons, eS, rbR_iR, rbR_nil, rbOb_mk, iR_mf, pickOk, -List.all_eq_true, iR_ok, ok0, iR_eq_nil, deIs_nil, cmdA, cgX, fObs, obCls, obFil, pw, qw, imw, p1, q2, ims, kwConfig, kwDefault, kwClass, kwFilter, z, zi, rbR_rd, rn2_T2, tR_rb]
      refine finN [0, 1, 2] [] (by simp [pickOkN]) (by simp [upd, tl_cons]) ?_
      simp [one, Sx]
  by_cases h2 : w = kwDefault
  · subst h2
    by_cases z : nc = 0
    · subst z
      have hc : cmdR ⟨⟨nm, cl, fi, df⟩, 0, nd⟩ r = (kwDefault, stopR 2 a q1) := by simp [cmdR, hwr, fineW, fullW, kwConfig, kwDefault, kwClass, kwFilter]
      rw [hc]
      have p1 := ps 2
      have q2 := qs 2
      generalize stopR 2 a q1 = q3 at q2 ⊢
      unfold rO at pw qw p1 q2 ⊢
      simp -implicitDefEqProofs [Tryz.f88, List.lookup_cons, eS, rbR_iR, rbR_nil, rbOb_mk, iR_mf, pickOk, -List.all_eq_true, iR_ok, ok0, iR_eq_nil, deIs_nil, cmdA, cgX, fObs, obCls, obFil, pw, qw, imw, p1, q2, ims, kwConfig, kwDefault, kwClass, kwFilter, rbR_rd, rn2_T2, tR_rb]
      refine finN [0, 1, 2] [] (by simp [pickOkN]) (by simp [upd, tl_cons]) ?_
      simp [one, Sx]
    · have zi : ¬ (nc : Int) = 0 := by omega
      by_cases y : nd = 0
      · subst y
        have hc : cmdR ⟨⟨nm, cl, fi, df⟩, nc, 0⟩ r = (kwDefault, q1) := by simp [cmdR, hwr, fineW, fullW, kwConfig, kwDefault, kwClass, kwFilter, z, zi]
        rw [hc]
        unfold rO at pw qw ⊢
        simp -implicitDefEqProofs [Tryz.f88, List.lookup_cons, eS, rbR_iR, rbR_nil, rbOb_mk, iR_mf, pickOk, -List.all_eq_true, iR_ok, ok0, iR_eq_nil, deIs_nil, cmdA, cgX, fObs, obCls, obFil, pw, qw, imw, kwConfig, kwDefault, kwClass, kwFilter, z, zi, rbR_rd, rn2_T2, tR_rb]
        refine finN [0, 1, 2] [] (by simp [pickOkN]) (by simp [upd, tl_cons]) ?_
        simp [one, Sx]
      · have yi : ¬ (nd : Int) = 0 := by omega
        have hc : cmdR ⟨⟨nm, cl, fi, df⟩, nc, nd⟩ r = (kwDefault, stopR 2 a q1) := by simp [cmdR, hwr, fineW, fullW, kwConfig, kwDefault, kwClass, kwFilter, z, zi, y, yi]
        rw [hc]
        have p1 := ps 2
        have q2 := qs 2
        generalize stopR 2 a q1 = q3 at q2 ⊢
        unfold rO at pw qw p1 q2 ⊢
        simp -implicitDefEqProofs [Tryz.f88, List.lookup_cons, eS, rbR_iR, rbR_nil, rbOb_mk, iR_mf, pickOk, -List.all_eq_true, iR_ok, ok0, iR_eq_nil, deIs_nil, cmdA, cgX, fObs, obCls, obFil, pw, qw, imw, p1, q2, ims, kwConfig, kwDefault, kwClass, kwFilter, z, zi, y, yi, rbR_rd, rn2_T2, tR_rb]
        refine finN [0, 1, 2] [] (by simp [pickOkN]) (by simp [upd, tl_cons]) ?_
        simp [one, Sx]
  by_cases h3 : w = kwClass
  · subst h3
    by_cases z : nc = 0
    · subst z
      have hc : cmdR ⟨⟨nm, cl, fi, df⟩, 0, nd⟩ r = (kwClass, stopR 2 a q1) := by simp [cmdR, hwr, fineW, fullW, kwConfig, kwDefault, kwClass, kwFilter]
      rw [hc]
      have p1 := ps 2
      have q2 := qs 2
      generalize stopR 2 a q1 = q3 at q2 ⊢
      unfold rO at pw qw p1 q2 ⊢
      simp -implicitDefEqProofs [Tryz.f88, List.lookup_cons, eS, rbR_iR, rbR_nil, rbOb_mk, iR_mf, pickOk, -List.all_eq_true, iR_ok, ok0, iR_eq_nil, deIs_nil, cmdA, cgX, fObs, obCls, obFil, pw, qw, imw, p1, q2, ims, kwConfig, kwDefault, kwClass, kwFilter, rbR_rd, rn2_T2, tR_rb]
      refine finN [0, 1, 2] [] (by simp [pickOkN]) (by simp [upd, tl_cons]) ?_
      simp [one, Sx]
    · have zi : ¬ (nc : Int) = 0 := by omega
      by_cases y : cl.length = 24
      · have yi : (cl.length : Int) = 24 := by omega
        have hc : cmdR ⟨⟨nm, cl, fi, df⟩, nc, nd⟩ r = (kwClass, stopR 5 a q1) := by simp [cmdR, hwr, fineW, fullW, kwConfig, kwDefault, kwClass, kwFilter, z, zi, y, yi]
        rw [hc]
        have p1 := ps 5
        have q2 := qs 5
        generalize stopR 5 a q1 = q3 at q2 ⊢
        unfold rO at pw qw p1 q2 ⊢
        simp -implicitDefEqProofs [Tryz.f88, List.lookup_cons, eS, rbR_iR, rbR_nil, rbOb_mk, iR_mf, pickOk, -List.all_eq_true, iR_ok, ok0, iR_eq_nil, deIs_nil, cmdA, cgX, fObs, obCls, obFil, pw, qw, imw, p1, q2, ims, kwConfig, kwDefault, kwClass, kwFilter, z, zi, y, yi, rbR_rd, rn2_T2, tR_rb]
        refine finN [0, 1, 2] [] (by simp [pickOkN]) (by simp [upd, tl_cons]) ?_
        simp [one, Sx]
      · have yi : ¬ (cl.length : Int) = 24 := by omega
        have hc : cmdR ⟨⟨nm, cl, fi, df⟩, nc, nd⟩ r = (kwClass, q1) := by simp [cmdR, hwr, fineW, fullW, kwConfig, kwDefault, kwClass, kwFilter, z, zi, y, yi]
        rw [hc]
        unfold rO at pw qw ⊢
        simp -implicitDefEqProofs [Tryz.f88, List.lookup_cons, eS, rbR_iR, rbR_nil, rbOb_mk, iR_mf, pickOk, -List.all_eq_true, iR_ok, ok0, iR_eq_nil, deIs_nil, cmdA, cgX, fObs, obCls, obFil, pw, qw, imw, kwConfig, kwDefault, kwClass, kwFilter, z, zi, y, yi, rbR_rd, rn2_T2, tR_rb]
        refine finN [0, 1, 2] [] (by simp [pickOkN]) (by simp [upd, tl_cons]) ?_
        simp [one, Sx]
  by_cases h4 : w = kwFilter
  · subst h4
    by_cases z : nc = 0
    · subst z
      have hc : cmdR ⟨⟨nm, cl, fi, df⟩, 0, nd⟩ r = (kwFilter, stopR 2 a q1) := by simp [cmdR, hwr, fineW, fullW, kwConfig, kwDefault, kwClass, kwFilter]
      rw [hc]
      have p1 := ps 2
      have q2 := qs 2
      generalize stopR 2 a q1 = q3 at q2 ⊢
      unfold rO at pw qw p1 q2 ⊢
      simp -implicitDefEqProofs [Tryz.f88, List.lookup_cons, eS, rbR_iR, rbR_nil, rbOb_mk, iR_mf, pickOk, -List.all_eq_true, iR_ok, ok0, iR_eq_nil, deIs_nil, cmdA, cgX, fObs, obCls, obFil, pw, qw, imw, p1, q2, ims, kwConfig, kwDefault, kwClass, kwFilter, rbR_rd, rn2_T2, tR_rb]
      refine finN [0, 1, 2] [] (by simp [pickOkN]) (by simp [upd, tl_cons]) ?_
      simp [one, Sx]
    · have zi : ¬ (nc : Int) = 0 := by omega
      by_cases y : fi.length = 16
      · have yi : (fi.length : Int) = 16 := by omega
        have hc : cmdR ⟨⟨nm, cl, fi, df⟩, nc, nd⟩ r = (kwFilter, stopR 5 a q1) := by simp [cmdR, hwr, fineW, fullW, kwConfig, kwDefault, kwClass, kwFilter, z, zi, y, yi]
        rw [hc]
        have p1 := ps 5
        have q2 := qs 5
        generalize stopR 5 a q1 = q3 at q2 ⊢
        unfold rO at pw qw p1 q2 ⊢
        simp -implicitDefEqProofs [Tryz.f88, List.lookup_cons, eS, rbR_iR, rbR_nil, rbOb_mk, iR_mf, pickOk, -List.all_eq_true, iR_ok, ok0, iR_eq_nil, deIs_nil, cmdA, cgX, fObs, obCls, obFil, pw, qw, imw, p1, q2, ims, kwConfig, kwDefault, kwClass, kwFilter, z, zi, y, yi, rbR_rd, rn2_T2, tR_rb]
        refine finN [0, 1, 2] [] (by simp [pickOkN]) (by simp [upd, tl_cons]) ?_
        simp [one, Sx]
      · have yi : ¬ (fi.length : Int) = 16 := by omega
        have hc : cmdR ⟨⟨nm, cl, fi, df⟩, nc, nd⟩ r = (kwFilter, q1) := by simp [cmdR, hwr, fineW, fullW, kwConfig, kwDefault, kwClass, kwFilter, z, zi, y, yi]
        rw [hc]
        unfold rO at pw qw ⊢
        simp -implicitDefEqProofs [Tryz.f88, List.lookup_cons, eS, rbR_iR, rbR_nil, rbOb_mk, iR_mf, pickOk, -List.all_eq_true, iR_ok, ok0, iR_eq_nil, deIs_nil, cmdA, cgX, fObs, obCls, obFil, pw, qw, imw, kwConfig, kwDefault, kwClass, kwFilter, z, zi, y, yi, rbR_rd, rn2_T2, tR_rb]
        refine finN [0, 1, 2] [] (by simp [pickOkN]) (by simp [upd, tl_cons]) ?_
        simp [one, Sx]
  have g1 : (w.toList == [99, 111, 110, 102, 105, 103]) = false := by simpa using (toL_ne h1 : ¬ w.toList = [99, 111, 110, 102, 105, 103])
  have g2 : (w.toList == [100, 101, 102, 97, 117, 108, 116]) = false := by simpa using (toL_ne h2 : ¬ w.toList = [100, 101, 102, 97, 117, 108, 116])
  have g3 : (w.toList == [99, 108, 97, 115, 115]) = false := by simpa using (toL_ne h3 : ¬ w.toList = [99, 108, 97, 115, 115])
  have g4 : (w.toList == [102, 105, 108, 116, 101, 114]) = false := by simpa using (toL_ne h4 : ¬ w.toList = [102, 105, 108, 116, 101, 114])
  by_cases z : nc = 0
  · subst z
    have hc : cmdR ⟨⟨nm, cl, fi, df⟩, 0, nd⟩ r = (w, stopR 2 a q1) := by simp [cmdR, hwr, fineW, fullW, h1, h2, h3, h4, g1, g2, g3, g4]
    rw [hc]
    have p1 := ps 2
    have q2 := qs 2
    generalize stopR 2 a q1 = q3 at q2 ⊢
    unfold rO at pw qw p1 q2 ⊢
    simp -implicitDefEqProofs [Tryz.f88, List.lookup_cons, eS, rbR_iR, rbR_nil, rbOb_mk, iR_mf, pickOk, -List.all_eq_true, iR_ok, ok0, iR_eq_nil, deIs_nil, cmdA, cgX, fObs, obCls, obFil, pw, qw, imw, p1, q2, ims, h1, h2, h3, h4, g1, g2, g3, g4, rbR_rd, rn2_T2, tR_rb]
    refine finN [0, 1, 2] [] (by simp [pickOkN]) (by simp [upd, tl_cons]) ?_
    simp [one, Sx]
  · have zi : ¬ (nc : Int) = 0 := by omega
    have hc : cmdR ⟨⟨nm, cl, fi, df⟩, nc, nd⟩ r = (w, stopR 2 a q1) := by simp [cmdR, hwr, fineW, fullW, h1, h2, h3, h4, g1, g2, g3, g4, z, zi]
    rw [hc]
    have p1 := ps 2
    have q2 := qs 2
    generalize stopR 2 a q1 = q3 at q2 ⊢
    unfold rO at pw qw p1 q2 ⊢
    simp -implicitDefEqProofs [Tryz.f88, List.lookup_cons, eS, rbR_iR, rbR_nil, rbOb_mk, iR_mf, pickOk, -List.all_eq_true, iR_ok, ok0, iR_eq_nil, deIs_nil, cmdA, cgX, fObs, obCls, obFil, pw, qw, imw, p1, q2, ims, h1, h2, h3, h4, g1, g2, g3, g4, z, zi, rbR_rd, rn2_T2, tR_rb]
    refine finN [0, 1, 2] [] (by simp [pickOkN]) (by simp [upd, tl_cons]) ?_
    simp [one, Sx]
end Go.Proofs
