/-
  What is proved here: contracts of the law's own functions on a loaded configuration. Condition: none.
-/
import Derived.Test.YtflhbkcjfmajeaaGreatDoorLdC
import Derived.Test.YtflhbkcjfmajeaaGreatDoorLCz
import Derived.Test.YtflhbkcjfmajeaaGreatDoorAbsE
namespace Go.Proofs
open Go.Abs
set_option linter.unusedSimpArgs false
set_option linter.unnecessarySimpa false
set_option linter.unusedVariables false
set_option maxHeartbeats 16000000
set_option maxRecDepth 20000

def okL (e : Ldd) : Prop := e.cls.length ≤ 1048576 ∧ e.par.length ≤ 1048576 ∧ e.fst.length ≤ 1048576 ∧ e.nx.length ≤ 1048576 ∧ e.en.length ≤ 1048576 ∧ e.fil.length ≤ 1048576 ∧ e.tgt.length ≤ 1048576
def nilE : Ldd := ⟨⟨#[]⟩, [], [], [], [], [], [], [], 0⟩
theorem okL_nil : okL nilE := by simp [okL, nilE]
def F9 : Fun := ⟨fun xs => ∃ e, xs = [.agg (lX e), .agg (lX e)] ∧ okL e, fun _ => (B true, [])⟩
theorem c9 : GenCA K Tryz.prog 9 F9 := by
  refine contractA Tryz.mix K [(26, F26), (28, F28), (27, F27)] [] (by simp [c26, c28, c27]) (by simp) Tryz.func9 rfl (by decide) ?_
  rintro xs ⟨e, rfl, h1, h2, h3, h4, h5, h6, h7⟩
  have hI : ∀ l : List Int, l.length ≤ 1048576 → F27.pre [.sl (iR l), .sl (iR l)] := fun l h => ⟨l, l, rfl, h⟩
  have hIr : ∀ l : List Int, F27.res [.sl (iR l), .sl (iR l)] = (B true, []) := fun l => by simp [F27]
  refine ⟨by rw [Tryz.ntmps9]; simp, ?_⟩
  simp -implicitDefEqProofs [Tryz.f9, List.lookup_cons, and_assoc, pick_and, pick_or, if_and, if_or, F26, F28, hI, hIr, h1, h2, h3, h4, h5, h6, h7]
  refine fin_pure (by simp) ?_
  simp -implicitDefEqProofs [pur2_i, pur2_b, pur2_s, pur2_nil, pur2_sl, pur2_tup, rn2_tup, rn2_agg, rn2_osl, rn1_v, rn1_osl, rn1_agg, rn0_v, rn0_sl, rn0, pickObs, pur_v, pur_b, pur_s, pur_nil, pur_sl, deI, deIs_sl, F9]
/-- all marked from k on -/
def lTot (k : Int) (n : List Nat) : Nat → Int
  | 0 => k
  | 1 => lTot k n 0 + 8 * (n.getD 0 0 : Int)
  | 2 => lTot k n 1 + (n.getD 1 0 : Int)
  | 3 => lTot k n 2 + (n.getD 2 0 : Int)
  | 4 => lTot k n 3 + (n.getD 3 0 : Int)
  | 5 => lTot k n 4 + (n.getD 4 0 : Int)
  | 6 => lTot k n 5 + 5 * (n.getD 5 0 : Int)
  | 7 => lTot k n 6 + (n.getD 6 0 : Int)
  | _ => 0
theorem lT_0 (k : Int) (n : List Nat) : lTot k n 0 = k := by simp only [lTot]
theorem lT_1 (k : Int) (n : List Nat) : lTot k n 1 = lTot k n 0 + 8 * (n.getD 0 0 : Int) := by simp only [lTot]
theorem lT_2 (k : Int) (n : List Nat) : lTot k n 2 = lTot k n 1 + (n.getD 1 0 : Int) := by simp only [lTot]
theorem lT_3 (k : Int) (n : List Nat) : lTot k n 3 = lTot k n 2 + (n.getD 2 0 : Int) := by simp only [lTot]
theorem lT_4 (k : Int) (n : List Nat) : lTot k n 4 = lTot k n 3 + (n.getD 3 0 : Int) := by simp only [lTot]
theorem lT_5 (k : Int) (n : List Nat) : lTot k n 5 = lTot k n 4 + (n.getD 4 0 : Int) := by simp only [lTot]
theorem lT_6 (k : Int) (n : List Nat) : lTot k n 6 = lTot k n 5 + 5 * (n.getD 5 0 : Int) := by simp only [lTot]
theorem lT_7 (k : Int) (n : List Nat) : lTot k n 7 = lTot k n 6 + (n.getD 6 0 : Int) := by simp only [lTot]
def mkE (name : ByteArray) (k : Int) (n : List Nat) (d : Int) : Ldd := ⟨name, Cls.mkL k (n.getD 0 0), upI (lTot k n 1) (n.getD 1 0), upI (lTot k n 2) (n.getD 2 0), upI (lTot k n 3) (n.getD 3 0), upI (lTot k n 4) (n.getD 4 0), Fil.mkL (lTot k n 5) (n.getD 5 0), upI (lTot k n 6) (n.getD 6 0), d⟩
def lLen (e : Ldd) : List Nat := [e.cls.length, e.par.length, e.fst.length, e.nx.length, e.en.length, e.fil.length, e.tgt.length]
def oLen (obs : List Ob) : List Nat := obs.map fun ob => ob.rows.length
theorem oLen_ob (e : Ldd) : oLen (lOb e) = lLen e := by simp [oLen, lOb, lLen, obCls, obFil, iOb]
def M12 : MFun := ⟨[true], fun xs obs => (∃ (e : Ldd) (k : Int), xs = [lO e, I k] ∧ obs = lOb e ∧ okL e ∧ 0 ≤ k ∧ k ≤ 549755813888) ∨ (∃ k : Int, xs = [.agg (lX nilE), I k] ∧ obs = [] ∧ 0 ≤ k ∧ k ≤ 549755813888),
  fun xs obs => match obs with
    | [] => (I (deI (xs.getD 1 .top)), [])
    | o :: os => (I (lTot (deI (xs.getD 1 .top)) (oLen (o :: os)) 7), lOb (mkE ⟨#[]⟩ (deI (xs.getD 1 .top)) (oLen (o :: os)) 0))⟩
theorem mkL_res (e : Ldd) (k : Int) : M12.res [lO e, I k] (lOb e) = (I (lTot k (lLen e) 7), lOb (mkE ⟨#[]⟩ k (lLen e) 0)) := by
  rw [← oLen_ob]
  rfl
theorem m12 : GenMA K Tryz.prog 12 M12 := by
  refine contractMA Tryz.mix K [] [(29, M29), (30, M30), (31, M31)] (by simp) (by simp [m29, m30, m31]) Tryz.func12 rfl (by decide) ?_
  have cmu : M29.mu = [true] := rfl
  have fmu : M30.mu = [true] := rfl
  have imu : M31.mu = [true] := rfl
  rintro xs obs us (⟨e, k, rfl, rfl, hp, hk0, hk1⟩ | ⟨k, rfl, rfl, hk0, hk1⟩) hu
  · obtain ⟨u0, u1, u2, u3, u4, u5, u6, rfl⟩ : ∃ u0 u1 u2 u3 u4 u5 u6, us = [u0, u1, u2, u3, u4, u5, u6] := by
      simp [lOb] at hu
      match us, hu with
      | [a, b, c, d, e, f, g], _ => exact ⟨a, b, c, d, e, f, g, rfl⟩
    rw [mkL_res]
    refine ⟨⟨by rw [Tryz.ntmps12]; simp, by simp, fun i ob hob => ?_⟩, ?_⟩
    · match i, hob with
      | 0, hob => simp [lOb] at hob; subst hob; exact ⟨_, rfl, rfl, rfl, rfl, rfl, rfl⟩
      | 1, hob => simp [lOb] at hob; subst hob; exact ⟨_, rfl, rfl, rfl, rfl, rfl, rfl⟩
      | 2, hob => simp [lOb] at hob; subst hob; exact ⟨_, rfl, rfl, rfl, rfl, rfl, rfl⟩
      | 3, hob => simp [lOb] at hob; subst hob; exact ⟨_, rfl, rfl, rfl, rfl, rfl, rfl⟩
      | 4, hob => simp [lOb] at hob; subst hob; exact ⟨_, rfl, rfl, rfl, rfl, rfl, rfl⟩
      | 5, hob => simp [lOb] at hob; subst hob; exact ⟨_, rfl, rfl, rfl, rfl, rfl, rfl⟩
      | 6, hob => simp [lOb] at hob; subst hob; exact ⟨_, rfl, rfl, rfl, rfl, rfl, rfl⟩
      | i + 7, hob => simp [lOb] at hob
    obtain ⟨h1, h2, h3, h4, h5, h6, h7⟩ := hp
    obtain ⟨N, hN⟩ : ∃ N, lLen e = N := ⟨_, rfl⟩
    have n0 : N.getD 0 0 = e.cls.length := by rw [← hN]; rfl
    have n1 : N.getD 1 0 = e.par.length := by rw [← hN]; rfl
    have n2 : N.getD 2 0 = e.fst.length := by rw [← hN]; rfl
    have n3 : N.getD 3 0 = e.nx.length := by rw [← hN]; rfl
    have n4 : N.getD 4 0 = e.en.length := by rw [← hN]; rfl
    have n5 : N.getD 5 0 = e.fil.length := by rw [← hN]; rfl
    have n6 : N.getD 6 0 = e.tgt.length := by rw [← hN]; rfl
    obtain ⟨k0, hk⟩ : ∃ k0, k = k0 := ⟨_, rfl⟩
    obtain ⟨k1, hk1'⟩ : ∃ k1, lTot k N 1 = k1 := ⟨_, rfl⟩
    have r1 : k1 = k + 8 * (e.cls.length : Int) := by rw [← hk1', lT_1 k N, n0, lT_0 k N]
    obtain ⟨k2, hk2'⟩ : ∃ k2, lTot k N 2 = k2 := ⟨_, rfl⟩
    have r2 : k2 = k1 + (e.par.length : Int) := by rw [← hk2', lT_2 k N, n1, hk1']
    obtain ⟨k3, hk3'⟩ : ∃ k3, lTot k N 3 = k3 := ⟨_, rfl⟩
    have r3 : k3 = k2 + (e.fst.length : Int) := by rw [← hk3', lT_3 k N, n2, hk2']
    obtain ⟨k4, hk4'⟩ : ∃ k4, lTot k N 4 = k4 := ⟨_, rfl⟩
    have r4 : k4 = k3 + (e.nx.length : Int) := by rw [← hk4', lT_4 k N, n3, hk3']
    obtain ⟨k5, hk5'⟩ : ∃ k5, lTot k N 5 = k5 := ⟨_, rfl⟩
    have r5 : k5 = k4 + (e.en.length : Int) := by rw [← hk5', lT_5 k N, n4, hk4']
    obtain ⟨k6, hk6'⟩ : ∃ k6, lTot k N 6 = k6 := ⟨_, rfl⟩
    have r6 : k6 = k5 + 5 * (e.fil.length : Int) := by rw [← hk6', lT_6 k N, n5, hk5']
    obtain ⟨k7, hk7'⟩ : ∃ k7, lTot k N 7 = k7 := ⟨_, rfl⟩
    have r7 : k7 = k6 + (e.tgt.length : Int) := by rw [← hk7', lT_7 k N, n6, hk6']
    have p0 : M29.pre [.osl 0 0, .v (.int .i64 k)] [⟨63, 8, 0, tR (e.cls), false, true, none⟩] := .inl ⟨e.cls, k, rfl, rfl, h1, by omega, by omega⟩
    have q0 : M29.res [.osl 0 0, .v (.int .i64 k)] [⟨63, 8, 0, tR (e.cls), false, true, none⟩] = (I k1, [⟨63, 8, 0, tR (Cls.mkL k e.cls.length), false, true, none⟩]) := by rw [r1]; simp [M29, deI, tOb, iOb]
    have p1 : M31.pre [.osl 0 0, .v (.int .i64 k1)] [⟨3, 1, 0, iR (e.par), false, true, none⟩] := .inl ⟨e.par, k1, rfl, rfl, h2, by omega, by omega⟩
    have q1 : M31.res [.osl 0 0, .v (.int .i64 k1)] [⟨3, 1, 0, iR (e.par), false, true, none⟩] = (I k2, [⟨3, 1, 0, iR (upI k1 e.par.length), false, true, none⟩]) := by rw [r2]; simp [M31, deI, tOb, iOb]
    have p2 : M31.pre [.osl 0 0, .v (.int .i64 k2)] [⟨3, 1, 0, iR (e.fst), false, true, none⟩] := .inl ⟨e.fst, k2, rfl, rfl, h3, by omega, by omega⟩
    have q2 : M31.res [.osl 0 0, .v (.int .i64 k2)] [⟨3, 1, 0, iR (e.fst), false, true, none⟩] = (I k3, [⟨3, 1, 0, iR (upI k2 e.fst.length), false, true, none⟩]) := by rw [r3]; simp [M31, deI, tOb, iOb]
    have p3 : M31.pre [.osl 0 0, .v (.int .i64 k3)] [⟨3, 1, 0, iR (e.nx), false, true, none⟩] := .inl ⟨e.nx, k3, rfl, rfl, h4, by omega, by omega⟩
    have q3 : M31.res [.osl 0 0, .v (.int .i64 k3)] [⟨3, 1, 0, iR (e.nx), false, true, none⟩] = (I k4, [⟨3, 1, 0, iR (upI k3 e.nx.length), false, true, none⟩]) := by rw [r4]; simp [M31, deI, tOb, iOb]
    have p4 : M31.pre [.osl 0 0, .v (.int .i64 k4)] [⟨3, 1, 0, iR (e.en), false, true, none⟩] := .inl ⟨e.en, k4, rfl, rfl, h5, by omega, by omega⟩
    have q4 : M31.res [.osl 0 0, .v (.int .i64 k4)] [⟨3, 1, 0, iR (e.en), false, true, none⟩] = (I k5, [⟨3, 1, 0, iR (upI k4 e.en.length), false, true, none⟩]) := by rw [r5]; simp [M31, deI, tOb, iOb]
    have p5 : M30.pre [.osl 0 0, .v (.int .i64 k5)] [⟨70, 5, 0, tR (e.fil), false, true, none⟩] := .inl ⟨e.fil, k5, rfl, rfl, h6, by omega, by omega⟩
    have q5 : M30.res [.osl 0 0, .v (.int .i64 k5)] [⟨70, 5, 0, tR (e.fil), false, true, none⟩] = (I k6, [⟨70, 5, 0, tR (Fil.mkL k5 e.fil.length), false, true, none⟩]) := by rw [r6]; simp [M30, deI, tOb, iOb]
    have p6 : M31.pre [.osl 0 0, .v (.int .i64 k6)] [⟨3, 1, 0, iR (e.tgt), false, true, none⟩] := .inl ⟨e.tgt, k6, rfl, rfl, h7, by omega, by omega⟩
    have q6 : M31.res [.osl 0 0, .v (.int .i64 k6)] [⟨3, 1, 0, iR (e.tgt), false, true, none⟩] = (I k7, [⟨3, 1, 0, iR (upI k6 e.tgt.length), false, true, none⟩]) := by rw [r7]; simp [M31, deI, tOb, iOb]
    have hmk : lOb (mkE ⟨#[]⟩ k N 0) = [obCls (Cls.mkL k e.cls.length), iOb (upI k1 e.par.length), iOb (upI k2 e.fst.length), iOb (upI k3 e.nx.length), iOb (upI k4 e.en.length), obFil (Fil.mkL k5 e.fil.length), iOb (upI k6 e.tgt.length)] := by
      simp only [lOb, mkE, n0, n1, n2, n3, n4, n5, n6, hk1', hk2', hk3', hk4', hk5', hk6']
    rw [hN, hmk, hk7']
    simp -implicitDefEqProofs [Tryz.f12, List.lookup_cons, and_assoc, pick_and, pick_or, if_and, if_or, rbR_iR, rbR_nil, rbOb_mk, iR_mf, pickOk, -List.all_eq_true, iR_ok, ok0, iR_eq_nil, deIs_nil, lO, lOb, obCls, obFil, iOb, cmu, fmu, imu, p0, q0, p1, q1, p2, q2, p3, q3, p4, q4, p5, q5, p6, q6]
    refine finMs [0, 1, 2, 3, 4, 5, 6] (by simp [pickOk, -List.all_eq_true, tR_ok, iR_ok]) (by simp [pinsM, upd, tl_cons]) ?_
    simp -implicitDefEqProofs [pur2_i, pur2_b, pur2_s, pur2_nil, pur2_sl, pur2_tup, rn2_tup, rn2_agg, rn2_osl, rn1_v, rn1_osl, rn1_agg, rn0_v, rn0_sl, rn0, pickObs, pur_v, pur_b, pur_s, pur_nil, pur_sl, deI, deIs_sl, rn2_I]
  · obtain rfl : us = [] := by simpa using hu
    refine ⟨⟨by rw [Tryz.ntmps12]; simp, by simp, by simp⟩, ?_⟩
    have a0 : M29.pre [.sl [], .v (.int .i64 k)] [] := .inr ⟨k, rfl, rfl, by omega, by omega⟩
    have a1 : M29.res [.sl [], .v (.int .i64 k)] [] = (I k, []) := by simp [M29, deI]
    have b0 : M30.pre [.sl [], .v (.int .i64 k)] [] := .inr ⟨k, rfl, rfl, by omega, by omega⟩
    have b1 : M30.res [.sl [], .v (.int .i64 k)] [] = (I k, []) := by simp [M30, deI]
    have i0 : M31.pre [.sl [], .v (.int .i64 k)] [] := .inr ⟨k, rfl, rfl, by omega, by omega⟩
    have i1 : M31.res [.sl [], .v (.int .i64 k)] [] = (I k, []) := by simp [M31, deI]
    have n1 : tR ([] : List Cls) = [] := rfl
    have n2 : tR ([] : List Fil) = [] := rfl
    have n3 : iR [] = [] := rfl
    simp -implicitDefEqProofs [Tryz.f12, List.lookup_cons, and_assoc, pick_and, pick_or, if_and, if_or, rbR_iR, rbR_nil, rbOb_mk, iR_mf, pickOk, -List.all_eq_true, iR_ok, ok0, iR_eq_nil, deIs_nil, nilE, n1, n2, n3, a0, a1, b0, b1, i0, i1, cmu, fmu, imu]
    refine finM0 [] (by simp [pickOk]) ?_
    simp -implicitDefEqProofs [pur2_i, pur2_b, pur2_s, pur2_nil, pur2_sl, pur2_tup, rn2_tup, rn2_agg, rn2_osl, rn1_v, rn1_osl, rn1_agg, rn0_v, rn0_sl, rn0, pickObs, pur_v, pur_b, pur_s, pur_nil, pur_sl, deI, deIs_sl, M12, rn2_I, deI]
def F13 : Fun := ⟨fun xs => ∃ (b : ByteArray) (k : Int) (n : List Nat) (d : Int), xs = [.agg (lX (mkE b k n d)), I k] ∧ (∀ i, n.getD i 0 ≤ 1048576) ∧ 0 ≤ k ∧ k ≤ 549755813888,
  fun xs => (I (lTot (deI (xs.getD 1 .top)) (lLen (deL (xs.getD 0 .top))) 7), [])⟩
theorem lTot_len (b : ByteArray) (k : Int) (n : List Nat) (d : Int) : lTot k (lLen (mkE b k n d)) 7 = lTot k n 7 := by
  simp only [lTot, lLen, mkE, List.getD_cons_zero, List.getD_cons_succ, Cls.mkL_len, Fil.mkL_len, upI_len]
theorem held_res (b : ByteArray) (k : Int) (n : List Nat) (d : Int) : F13.res [.agg (lX (mkE b k n d)), I k] = (I (lTot k n 7), []) := by
  rw [← lTot_len b k n d]
  simp [F13, deI]
theorem c13 : GenCA K Tryz.prog 13 F13 := by
  refine contractA Tryz.mix K [(32, F32), (34, F34), (33, F33)] [] (by simp [c32, c34, c33]) (by simp) Tryz.func13 rfl (by decide) ?_
  rintro xs ⟨b, k, N, d, rfl, hN, hk0, hk1⟩
  rw [held_res]
  refine ⟨by rw [Tryz.ntmps13]; simp, ?_⟩
  have h0 := hN 0
  obtain ⟨n0, hn0⟩ : ∃ m, N.getD 0 0 = m := ⟨_, rfl⟩
  rw [hn0] at h0
  have h1 := hN 1
  obtain ⟨n1, hn1⟩ : ∃ m, N.getD 1 0 = m := ⟨_, rfl⟩
  rw [hn1] at h1
  have h2 := hN 2
  obtain ⟨n2, hn2⟩ : ∃ m, N.getD 2 0 = m := ⟨_, rfl⟩
  rw [hn2] at h2
  have h3 := hN 3
  obtain ⟨n3, hn3⟩ : ∃ m, N.getD 3 0 = m := ⟨_, rfl⟩
  rw [hn3] at h3
  have h4 := hN 4
  obtain ⟨n4, hn4⟩ : ∃ m, N.getD 4 0 = m := ⟨_, rfl⟩
  rw [hn4] at h4
  have h5 := hN 5
  obtain ⟨n5, hn5⟩ : ∃ m, N.getD 5 0 = m := ⟨_, rfl⟩
  rw [hn5] at h5
  have h6 := hN 6
  obtain ⟨n6, hn6⟩ : ∃ m, N.getD 6 0 = m := ⟨_, rfl⟩
  rw [hn6] at h6
  obtain ⟨k1, hk1'⟩ : ∃ x, lTot k N 1 = x := ⟨_, rfl⟩
  have r1 : k1 = k + 8 * (n0 : Int) := by rw [← hk1', lT_1 k N, hn0, lT_0 k N]
  have g1 : ¬ k1 < 0 := by omega
  have l1 : 0 ≤ k1 := by omega
  have u1 : k1 ≤ 1099511627776 := by omega
  obtain ⟨k2, hk2'⟩ : ∃ x, lTot k N 2 = x := ⟨_, rfl⟩
  have r2 : k2 = k1 + (n1 : Int) := by rw [← hk2', lT_2 k N, hn1, hk1']
  have g2 : ¬ k2 < 0 := by omega
  have l2 : 0 ≤ k2 := by omega
  have u2 : k2 ≤ 1099511627776 := by omega
  obtain ⟨k3, hk3'⟩ : ∃ x, lTot k N 3 = x := ⟨_, rfl⟩
  have r3 : k3 = k2 + (n2 : Int) := by rw [← hk3', lT_3 k N, hn2, hk2']
  have g3 : ¬ k3 < 0 := by omega
  have l3 : 0 ≤ k3 := by omega
  have u3 : k3 ≤ 1099511627776 := by omega
  obtain ⟨k4, hk4'⟩ : ∃ x, lTot k N 4 = x := ⟨_, rfl⟩
  have r4 : k4 = k3 + (n3 : Int) := by rw [← hk4', lT_4 k N, hn3, hk3']
  have g4 : ¬ k4 < 0 := by omega
  have l4 : 0 ≤ k4 := by omega
  have u4 : k4 ≤ 1099511627776 := by omega
  obtain ⟨k5, hk5'⟩ : ∃ x, lTot k N 5 = x := ⟨_, rfl⟩
  have r5 : k5 = k4 + (n4 : Int) := by rw [← hk5', lT_5 k N, hn4, hk4']
  have g5 : ¬ k5 < 0 := by omega
  have l5 : 0 ≤ k5 := by omega
  have u5 : k5 ≤ 1099511627776 := by omega
  obtain ⟨k6, hk6'⟩ : ∃ x, lTot k N 6 = x := ⟨_, rfl⟩
  have r6 : k6 = k5 + 5 * (n5 : Int) := by rw [← hk6', lT_6 k N, hn5, hk5']
  have g6 : ¬ k6 < 0 := by omega
  have l6 : 0 ≤ k6 := by omega
  have u6 : k6 ≤ 1099511627776 := by omega
  obtain ⟨k7, hk7'⟩ : ∃ x, lTot k N 7 = x := ⟨_, rfl⟩
  have r7 : k7 = k6 + (n6 : Int) := by rw [← hk7', lT_7 k N, hn6, hk6']
  have g7 : ¬ k7 < 0 := by omega
  have l7 : 0 ≤ k7 := by omega
  have u7 : k7 ≤ 1099511627776 := by omega
  have p0 : F32.pre [.sl (tR (Cls.mkL k n0)), I k] := by simp [F32, deI]; omega
  have q0 : F32.res [.sl (tR (Cls.mkL k n0)), I k] = (I k1, []) := by rw [r1]; simp [F32, deI]
  have p1 : F33.pre [.sl (iR (upI k1 n1)), I k1] := by simp [F33, deI]; omega
  have q1 : F33.res [.sl (iR (upI k1 n1)), I k1] = (I k2, []) := by rw [r2]; simp [F33, deI]
  have p2 : F33.pre [.sl (iR (upI k2 n2)), I k2] := by simp [F33, deI]; omega
  have q2 : F33.res [.sl (iR (upI k2 n2)), I k2] = (I k3, []) := by rw [r3]; simp [F33, deI]
  have p3 : F33.pre [.sl (iR (upI k3 n3)), I k3] := by simp [F33, deI]; omega
  have q3 : F33.res [.sl (iR (upI k3 n3)), I k3] = (I k4, []) := by rw [r4]; simp [F33, deI]
  have p4 : F33.pre [.sl (iR (upI k4 n4)), I k4] := by simp [F33, deI]; omega
  have q4 : F33.res [.sl (iR (upI k4 n4)), I k4] = (I k5, []) := by rw [r5]; simp [F33, deI]
  have p5 : F34.pre [.sl (tR (Fil.mkL k5 n5)), I k5] := by simp [F34, deI]; omega
  have q5 : F34.res [.sl (tR (Fil.mkL k5 n5)), I k5] = (I k6, []) := by rw [r6]; simp [F34, deI]
  have p6 : F33.pre [.sl (iR (upI k6 n6)), I k6] := by simp [F33, deI]; omega
  have q6 : F33.res [.sl (iR (upI k6 n6)), I k6] = (I k7, []) := by rw [r7]; simp [F33, deI]
  have hme : lX (mkE b k N d) = [.v (.string b), .sl (tR (Cls.mkL k n0)), .sl (iR (upI k1 n1)), .sl (iR (upI k2 n2)), .sl (iR (upI k3 n3)), .sl (iR (upI k4 n4)), .sl (tR (Fil.mkL k5 n5)), .sl (iR (upI k6 n6)), I d] := by
    simp only [lX, mkE, hn0, hn1, hn2, hn3, hn4, hn5, hn6, hk1', hk2', hk3', hk4', hk5', hk6']
  rw [hme, hk7']
  simp -implicitDefEqProofs [Tryz.f13, List.lookup_cons, and_assoc, pick_and, pick_or, if_and, if_or, p0, q0, p1, q1, p2, q2, p3, q3, p4, q4, p5, q5, p6, q6, g1, g2, g3, g4, g5, g6, g7]
  refine fin_pure (by simp) ?_
  simp -implicitDefEqProofs [pur2_i, pur2_b, pur2_s, pur2_nil, pur2_sl, pur2_tup, rn2_tup, rn2_agg, rn2_osl, rn1_v, rn1_osl, rn1_agg, rn0_v, rn0_sl, rn0, pickObs, pur_v, pur_b, pur_s, pur_nil, pur_sl, deI, deIs_sl]
end Go.Proofs
