/-
  What is proved here: contracts of the reference's reader of attributes. Condition: none.
-/
import Derived.Test.YtecpfgnkiifnpaaDA1k
import Derived.Test.YtecpfgnkiifnpaaFR9k
import Derived.Test.YtecpfgnkiifnpaaAbs32
namespace Go.Proofs
open Go.Abs Go.Flat
set_option linter.unusedSimpArgs false
set_option linter.unnecessarySimpa false
set_option linter.unusedVariables false
set_option maxHeartbeats 16000000
set_option maxRecDepth 20000
def rvO (v : Nat) (s : ByteArray) (l : List Att) : List Ob := [⟨64, 2, 0, [[.v (.string s), .osl 1 v]], true, true, none⟩, ⟨49, 4, v, tR l, false, true, none⟩]
def rvS (obs : List Ob) : ByteArray := match obs with
  | [b, _] => (match b.rows with
    | [[s, _]] => deS s
    | _ => ⟨#[]⟩)
  | _ => ⟨#[]⟩
theorem rvS_O (s : ByteArray) (l : List Att) : rvS (rvO 0 s l) = s := rfl
theorem rvL_O (s : ByteArray) (l : List Att) : dcL (rvO 0 s l) = l := by simp [dcL, rvO]
def ftX : Option (Int × Nat) → X
  | some f => .agg [I f.1, I f.2]
  | none => .agg [I 0, I 0]
def F44 : Fun := ⟨fun xs => ∃ (s : ByteArray) (a : Nat), xs = [Sx s, I a] ∧ s.size ≤ 6000 ∧ a + 1 < s.size, fun xs => (I (shN (deS (xs.getD 0 .top)) (deI (xs.getD 1 .top)).toNat), [])⟩
theorem tvr_res (s : ByteArray) (a : Nat) : F44.res [.v (.string s), I a] = (I (shN s a), []) := by simp [F44, deS, deI]
theorem c44 : GenCA K Try.prog 44 F44 := by
  refine contractA Try.mix K [] [] (by simp) (by simp) Try.func44 rfl (by decide) ?_
  rintro xs ⟨s, a, rfl, hs, ha⟩
  have hr : F44.res [Sx s, I a] = (I (shN s a), []) := tvr_res s a
  rw [hr]
  refine ⟨by rw [Try.ntmps44]; simp, ?_⟩
  have hb0 := byt_N (s := s) (k := a) (by omega)
  have hb1 := byt_N (s := s) (k := a + 1) (by omega)
  have ha0 : a < s.size := by omega
  have g0 := byN_lt s a
  have g1 := byN_lt s (a + 1)
  have hv0 : IntKind.i64.wrap (byN s a : Int) = byN s a := w64 (by omega) (by omega)
  have hv1 : IntKind.i64.wrap (byN s (a + 1) : Int) = byN s (a + 1) := w64 (by omega) (by omega)
  have hv2 : IntKind.i64.wrap (256 * (byN s (a + 1) : Int)) = 256 * (byN s (a + 1) : Int) := w64 (by omega) (by omega)
  have hv3 : IntKind.i64.wrap ((byN s a : Int) + 256 * (byN s (a + 1) : Int)) = ((shN s a : Nat) : Int) := by rw [w64 (by omega) (by omega)]; unfold shN; omega
  have hw1 : IntKind.i64.wrap ((a : Int) + 1) = ((a + 1 : Nat) : Int) := by rw [w64 (by omega) (by omega)]; omega
  simp -implicitDefEqProofs [Try.f44, List.lookup_cons, eS, Sx]
  refine drawP_all _ (by decide) ?_
  simp -implicitDefEqProofs [List.lookup_cons, eS, eConv, ei_str, ha0, ha, hw1, hb0, hb1, hv0, hv1, hv2, hv3]
  refine ⟨by omega, fin_pure (by simp) ?_⟩
  simp -implicitDefEqProofs [fS, rn0, pickObs, deI]
def F45 : Fun := ⟨fun xs => ∃ n : Nat, xs = [I n] ∧ n ≤ 100000, fun xs => (I (pad4 (deI (xs.getD 0 .top)).toNat), [])⟩
theorem tvp_res (n : Nat) : F45.res [I n] = (I (pad4 n), []) := by simp [F45, deI]
theorem wrap_pad (n : Nat) (h : n ≤ 100000) : IntKind.i64.wrap (IntKind.i64.wrap (((n : Int) + 3).tdiv 4) * 4) = ((pad4 n : Nat) : Int) := by
  have e1 : ((n : Int) + 3).tdiv 4 = (((n + 3) / 4 : Nat) : Int) := (Int.ofNat_tdiv (n + 3) 4).symm
  have e2 : IntKind.i64.wrap (((n + 3) / 4 : Nat) : Int) = (((n + 3) / 4 : Nat) : Int) := w64 (by omega) (by omega)
  rw [e1, e2, w64 (by omega) (by omega)]
  unfold pad4
  omega
theorem c45 : GenCA K Try.prog 45 F45 := by
  refine contractA Try.mix K [] [] (by simp) (by simp) Try.func45 rfl (by decide) ?_
  rintro xs ⟨n, rfl, hn⟩
  rw [tvp_res]
  refine ⟨by rw [Try.ntmps45]; simp, ?_⟩
  have w5 : IntKind.i64.wrap ((n : Int) + 3) = (n : Int) + 3 := w64 (by omega) (by omega)
  have w6 := wrap_pad n hn
  simp -implicitDefEqProofs [Try.f45, List.lookup_cons, eS, w5, w6]
  refine fin_pure (by simp) ?_
  simp -implicitDefEqProofs [fS, rn0, pickObs, deI]
/-! ### the beginning of an attribute -/
def M43 : MFun := ⟨[true, false, false, false], fun xs obs => ∃ (s : ByteArray) (l : List Att) (d a e : Nat), xs = [.optr 0 0 0 0, I d, I a, I e] ∧ obs = rvO 0 s l ∧ s.size ≤ 6000 ∧ e ≤ s.size ∧ a < e ∧ l.length ≤ 400,
  fun xs obs => (ftX (headF (rvS obs) (deI (xs.getD 1 .top)).toNat (deI (xs.getD 2 .top)).toNat (deI (xs.getD 3 .top)).toNat (dcL obs).length), rvO 0 (rvS obs) (dcL obs))⟩
theorem head_res (s : ByteArray) (l : List Att) (d a e : Nat) : M43.res [.optr 0 0 0 0, I d, I a, I e] (rvO 0 s l) = (ftX (headF s d a e l.length), rvO 0 s l) := by
  simp only [M43, rvS_O, rvL_O]
  simp [deI]
theorem n43 : GenNA K Try.prog 43 M43 := by
  refine contractNA Try.mix K [(31, F31), (44, F44), (45, F45)] [] [] (by simp [c31, c44, c45]) (by simp) (by simp) Try.func43 rfl (by decide) ?_
  rintro xs obs us ⟨s, m, d, b, e, rfl, rfl, hs, he, hb, hm⟩ hu
  obtain ⟨u0, u1, rfl⟩ : ∃ u0 u1, us = [u0, u1] := by
    match us, hu with
    | [a, b], _ => exact ⟨a, b, rfl⟩
  rw [head_res]
  refine ⟨⟨by rw [Try.ntmps43]; simp, by simp, fun k ob hob => ?_⟩, ?_⟩
  · match k, hob with
    | 0, hob => simp [rvO] at hob; subst hob; exact ⟨_, rfl, rfl, rfl, rfl, rfl⟩
    | 1, hob => simp [rvO] at hob; subst hob; exact ⟨_, rfl, rfl, rfl, rfl, rfl⟩
    | k + 2, hob => simp [rvO] at hob
  have pv : ∀ k b : Int, F31.pre [I k, I b] := fun k b => ⟨k, b, rfl⟩
  have qv : ∀ k b : Int, F31.res [I k, I b] = (.agg [I k, I b], []) := fun k b => rfl
  by_cases c1 : 8 < d
  · have hf : headF s d b e m.length = some (4, b) := by unfold headF; rw [if_pos c1]
    have i1 : (8 : Int) < d := by omega
    rw [hf]
    simp -implicitDefEqProofs [Try.f43, List.lookup_cons, eS, rbR_iR, rbR_nil, rbOb_mk, iR_mf, pickOk, -List.all_eq_true, iR_ok, ok0, iR_eq_nil, deIs_nil, rvO, pv, qv, pickOkN, tR_rw, tR_rv, i1]
    refine finN [0, 1] [] (by simp [pickOkN]) (by simp [upd, tl_cons]) ?_
    simp [ftX, rvO, one]
  have i1 : ¬ (8 : Int) < d := by omega
  by_cases c2 : 400 ≤ m.length
  · have hf : headF s d b e m.length = some (5, b) := by unfold headF; rw [if_neg c1, if_pos c2]
    have i2 : (400 : Int) ≤ m.length := by omega
    rw [hf]
    simp -implicitDefEqProofs [Try.f43, List.lookup_cons, eS, rbR_iR, rbR_nil, rbOb_mk, iR_mf, pickOk, -List.all_eq_true, iR_ok, ok0, iR_eq_nil, deIs_nil, rvO, pv, qv, pickOkN, tR_rw, tR_rv, i1, i2, c2]
    refine finN [0, 1] [] (by simp [pickOkN]) (by simp [upd, tl_cons]) ?_
    simp [ftX, rvO, one]
  have i2 : ¬ (400 : Int) ≤ m.length := by omega
  have w0 : IntKind.i64.wrap ((e : Int) - b) = (e : Int) - b := w64 (by omega) (by omega)
  by_cases c3 : e - b < 4
  · have hf : headF s d b e m.length = some (6, b) := by unfold headF; rw [if_neg c1, if_neg c2, if_pos c3]
    have i3 : (e : Int) - b < 4 := by omega
    rw [hf]
    simp -implicitDefEqProofs [Try.f43, List.lookup_cons, eS, rbR_iR, rbR_nil, rbOb_mk, iR_mf, pickOk, -List.all_eq_true, iR_ok, ok0, iR_eq_nil, deIs_nil, rvO, pv, qv, pickOkN, tR_rw, tR_rv, i1, i2, c2, w0, i3]
    refine finN [0, 1] [] (by simp [pickOkN]) (by simp [upd, tl_cons]) ?_
    simp [ftX, rvO, one]
  have i3 : ¬ (e : Int) - b < 4 := by omega
  have pt : F44.pre [.v (.string s), I b] := ⟨s, b, rfl, hs, by omega⟩
  have qt := tvr_res s b
  have hsh := shN_lt s b
  by_cases c4 : shN s b < 4
  · have hf : headF s d b e m.length = some (3, b) := by unfold headF; rw [if_neg c1, if_neg c2, if_neg c3, if_pos c4]
    have i4 : ((shN s b : Nat) : Int) < 4 := by omega
    rw [hf]
    simp -implicitDefEqProofs [Try.f43, List.lookup_cons, eS, rbR_iR, rbR_nil, rbOb_mk, iR_mf, pickOk, -List.all_eq_true, iR_ok, ok0, iR_eq_nil, deIs_nil, rvO, pv, qv, pickOkN, tR_rw, tR_rv, i1, i2, c2, w0, i3, pt, qt, i4, c4]
    refine finN [0, 1] [] (by simp [pickOkN]) (by simp [upd, tl_cons]) ?_
    simp [ftX, rvO, one]
  have i4 : ¬ ((shN s b : Nat) : Int) < 4 := by omega
  have hpg := pad4_ge (shN s b)
  have pp : F45.pre [I (shN s b)] := ⟨shN s b, rfl, by omega⟩
  have qp := tvp_res (shN s b)
  have w6 : IntKind.i64.wrap ((b : Int) + (pad4 (shN s b) : Nat)) = (b : Int) + (pad4 (shN s b) : Nat) := w64 (by omega) (by omega)
  by_cases c5 : e - b < pad4 (shN s b)
  · have hf : headF s d b e m.length = some (6, b) := by unfold headF; rw [if_neg c1, if_neg c2, if_neg c3, if_neg c4, if_pos c5]
    have i5 : (e : Int) < (b : Int) + (pad4 (shN s b) : Nat) := by omega
    rw [hf]
    simp -implicitDefEqProofs [Try.f43, List.lookup_cons, eS, rbR_iR, rbR_nil, rbOb_mk, iR_mf, pickOk, -List.all_eq_true, iR_ok, ok0, iR_eq_nil, deIs_nil, rvO, pv, qv, pickOkN, tR_rw, tR_rv, i1, i2, c2, w0, i3, pt, qt, i4, c4, pp, qp, w6, i5]
    refine finN [0, 1] [] (by simp [pickOkN]) (by simp [upd, tl_cons]) ?_
    simp [ftX, rvO, one]
  have i5 : ¬ (e : Int) < (b : Int) + (pad4 (shN s b) : Nat) := by omega
  have w8 : IntKind.i64.wrap ((b : Int) + 2) = (b : Int) + 2 := w64 (by omega) (by omega)
  have pt2 : F44.pre [.v (.string s), I ((b : Int) + 2)] := ⟨s, b + 2, by rw [show ((b + 2 : Nat) : Int) = (b : Int) + 2 by omega]; rfl, hs, by omega⟩
  have qt2 := tvr_res s (b + 2)
  rw [show ((b + 2 : Nat) : Int) = (b : Int) + 2 by omega] at qt2
  by_cases c6 : shN s (b + 2) < 32768 ∧ 1004 < shN s b
  · have hf : headF s d b e m.length = some (5, b) := by unfold headF; rw [if_neg c1, if_neg c2, if_neg c3, if_neg c4, if_neg c5, if_pos c6]
    have i6 : ((shN s (b + 2) : Nat) : Int) < 32768 := by omega
    have i7 : (1004 : Int) < (shN s b : Nat) := by omega
    have i8 := c6.1
    have i9 := c6.2
    rw [hf]
    simp -implicitDefEqProofs [Try.f43, List.lookup_cons, eS, rbR_iR, rbR_nil, rbOb_mk, iR_mf, pickOk, -List.all_eq_true, iR_ok, ok0, iR_eq_nil, deIs_nil, rvO, pv, qv, pickOkN, tR_rw, tR_rv, i1, i2, c2, w0, i3, pt, qt, i4, c4, pp, qp, w6, i5, w8, pt2, qt2, i6, i7, i8, i9]
    refine finN [0, 1] [] (by simp [pickOkN]) (by simp [upd, tl_cons]) ?_
    simp [ftX, rvO, one]
  have w10 : IntKind.i64.wrap ((b : Int) + (shN s b : Nat)) = (b : Int) + (shN s b : Nat) := w64 (by omega) (by omega)
  by_cases c7 : shN s (b + 2) < 32768
  · have i6 : ((shN s (b + 2) : Nat) : Int) < 32768 := by omega
    have i7 : ¬ (1004 : Int) < (shN s b : Nat) := by omega
    have i9 : ¬ 1004 < shN s b := by omega
    simp -implicitDefEqProofs [Try.f43, List.lookup_cons, eS, rbR_iR, rbR_nil, rbOb_mk, iR_mf, pickOk, -List.all_eq_true, iR_ok, ok0, iR_eq_nil, deIs_nil, rvO, pv, qv, pickOkN, tR_rw, tR_rv, i1, i2, c2, w0, i3, pt, qt, i4, c4, pp, qp, w6, i5, w8, pt2, qt2, w10, i6, i7, c7, i9]
    refine loopP_inv (fun k : Nat => ⟨88, tl [(0, .optr 0 0 0 0), (1, I d), (2, I b), (3, I e), (8, .optr 2 0 0 0), (9, I (shN s b)), (10, I k), (1000, .pin 0 0 u0), (1001, .pin 1 0 u1)], [⟨64, 2, 0, [[.v (.string s), .osl 1 0]], true, true, none⟩, ⟨49, 4, 0, tR m, false, true, none⟩, ⟨24, 2, 0, [[I 0, I 0]], true, true, none⟩]⟩) (fun k => b + shN s b ≤ k ∧ k ≤ b + pad4 (shN s b) ∧ badAt s (b + shN s b) (b + pad4 (shN s b) - (b + shN s b)) = badAt s k (b + pad4 (shN s b) - k)) (fun k => b + pad4 (shN s b) - k) (b + shN s b) ⟨Nat.le_refl _, by omega, rfl⟩ (Wk.tl (by simp [hold, upd, tl_cons])) ?_
    rintro k ⟨j1, j2, j3⟩
    by_cases hkl : k < b + pad4 (shN s b)
    · have hkj : (k : Int) < (b : Int) + (pad4 (shN s b) : Nat) := by omega
      have hks : k < s.size := by omega
      have hby := byt_N hks
      have hw := w64n (show k < 4611686018427387904 by omega)
      rw [badAt_at hkl] at j3
      by_cases hz : byN s k = 0
      · rw [if_neg (by omega)] at j3
        simp -implicitDefEqProofs [List.lookup_cons, eS, rbR_iR, rbR_nil, rbOb_mk, iR_mf, pickOk, -List.all_eq_true, iR_ok, ok0, iR_eq_nil, deIs_nil, pp, qp, w6, hkl, hkj, ei_str, hks, hby, hz]
        refine ⟨k + 1, by omega, by omega, j3, by omega, ?_⟩
        exact Wk.tl (by simp [hold, upd, tl_cons, hw])
      · rw [if_pos hz] at j3
        have hf : headF s d b e m.length = some (1, k) := by unfold headF; rw [if_neg c1, if_neg c2, if_neg c3, if_neg c4, if_neg c5, if_neg c6, j3]; rfl
        have hzi : ¬ ((byN s k : Nat) : Int) = 0 := by omega
        rw [hf]
        simp -implicitDefEqProofs [List.lookup_cons, eS, rbR_iR, rbR_nil, rbOb_mk, iR_mf, pickOk, -List.all_eq_true, iR_ok, ok0, iR_eq_nil, deIs_nil, pp, qp, w6, hkl, hkj, ei_str, hks, hby, hz, hzi, pv, qv]
        refine finN [0, 1] [] (by simp [pickOkN]) (by simp [upd, tl_cons]) ?_
        simp [ftX, rvO, one]
    · have hkj : ¬ (k : Int) < (b : Int) + (pad4 (shN s b) : Nat) := by omega
      rw [badAt_end hkl] at j3
      have hf : headF s d b e m.length = none := by unfold headF; rw [if_neg c1, if_neg c2, if_neg c3, if_neg c4, if_neg c5, if_neg c6, j3]; rfl
      rw [hf]
      simp -implicitDefEqProofs [List.lookup_cons, eS, rbR_iR, rbR_nil, rbOb_mk, iR_mf, pickOk, -List.all_eq_true, iR_ok, ok0, iR_eq_nil, deIs_nil, pp, qp, w6, hkl, hkj]
      refine finN [0, 1] [] (by simp [pickOkN]) (by simp [upd, tl_cons]) ?_
      simp [ftX, rvO, one]
  · have i6 : ¬ ((shN s (b + 2) : Nat) : Int) < 32768 := by omega
    simp -implicitDefEqProofs [Try.f43, List.lookup_cons, eS, rbR_iR, rbR_nil, rbOb_mk, iR_mf, pickOk, -List.all_eq_true, iR_ok, ok0, iR_eq_nil, deIs_nil, rvO, pv, qv, pickOkN, tR_rw, tR_rv, i1, i2, c2, w0, i3, pt, qt, i4, c4, pp, qp, w6, i5, w8, pt2, qt2, w10, i6, c7]
    refine loopP_inv (fun k : Nat => ⟨88, tl [(0, .optr 0 0 0 0), (1, I d), (2, I b), (3, I e), (8, .optr 2 0 0 0), (9, I (shN s b)), (10, I k), (1000, .pin 0 0 u0), (1001, .pin 1 0 u1)], [⟨64, 2, 0, [[.v (.string s), .osl 1 0]], true, true, none⟩, ⟨49, 4, 0, tR m, false, true, none⟩, ⟨24, 2, 0, [[I 0, I 0]], true, true, none⟩]⟩) (fun k => b + shN s b ≤ k ∧ k ≤ b + pad4 (shN s b) ∧ badAt s (b + shN s b) (b + pad4 (shN s b) - (b + shN s b)) = badAt s k (b + pad4 (shN s b) - k)) (fun k => b + pad4 (shN s b) - k) (b + shN s b) ⟨Nat.le_refl _, by omega, rfl⟩ (Wk.tl (by simp [hold, upd, tl_cons])) ?_
    rintro k ⟨j1, j2, j3⟩
    by_cases hkl : k < b + pad4 (shN s b)
    · have hkj : (k : Int) < (b : Int) + (pad4 (shN s b) : Nat) := by omega
      have hks : k < s.size := by omega
      have hby := byt_N hks
      have hw := w64n (show k < 4611686018427387904 by omega)
      rw [badAt_at hkl] at j3
      by_cases hz : byN s k = 0
      · rw [if_neg (by omega)] at j3
        simp -implicitDefEqProofs [List.lookup_cons, eS, rbR_iR, rbR_nil, rbOb_mk, iR_mf, pickOk, -List.all_eq_true, iR_ok, ok0, iR_eq_nil, deIs_nil, pp, qp, w6, hkl, hkj, ei_str, hks, hby, hz]
        refine ⟨k + 1, by omega, by omega, j3, by omega, ?_⟩
        exact Wk.tl (by simp [hold, upd, tl_cons, hw])
      · rw [if_pos hz] at j3
        have hf : headF s d b e m.length = some (1, k) := by unfold headF; rw [if_neg c1, if_neg c2, if_neg c3, if_neg c4, if_neg c5, if_neg c6, j3]; rfl
        have hzi : ¬ ((byN s k : Nat) : Int) = 0 := by omega
        rw [hf]
        simp -implicitDefEqProofs [List.lookup_cons, eS, rbR_iR, rbR_nil, rbOb_mk, iR_mf, pickOk, -List.all_eq_true, iR_ok, ok0, iR_eq_nil, deIs_nil, pp, qp, w6, hkl, hkj, ei_str, hks, hby, hz, hzi, pv, qv]
        refine finN [0, 1] [] (by simp [pickOkN]) (by simp [upd, tl_cons]) ?_
        simp [ftX, rvO, one]
    · have hkj : ¬ (k : Int) < (b : Int) + (pad4 (shN s b) : Nat) := by omega
      rw [badAt_end hkl] at j3
      have hf : headF s d b e m.length = none := by unfold headF; rw [if_neg c1, if_neg c2, if_neg c3, if_neg c4, if_neg c5, if_neg c6, j3]; rfl
      rw [hf]
      simp -implicitDefEqProofs [List.lookup_cons, eS, rbR_iR, rbR_nil, rbOb_mk, iR_mf, pickOk, -List.all_eq_true, iR_ok, ok0, iR_eq_nil, deIs_nil, pp, qp, w6, hkl, hkj]
      refine finN [0, 1] [] (by simp [pickOkN]) (by simp [upd, tl_cons]) ?_
      simp [ftX, rvO, one]
end Go.Proofs
