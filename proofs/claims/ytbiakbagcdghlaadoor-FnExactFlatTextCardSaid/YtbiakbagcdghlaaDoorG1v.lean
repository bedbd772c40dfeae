/-
  What is proved here: contracts of both checks of a storable configuration. Condition: none.
-/
import Derived.Test.YtbiakbagcdghlaaDoorT9av
import Derived.Test.YtbiakbagcdghlaaDoorF1av
import Derived.Test.YtbiakbagcdghlaaDoorC2v
namespace Go.Proofs
open Go.Abs
set_option linter.unusedSimpArgs false
set_option linter.unnecessarySimpa false
set_option linter.unusedVariables false
set_option maxHeartbeats 8000000
set_option maxRecDepth 20000

def stOk (c : Cfg) : Bool := nmOk c.name && decide (c.cls.length ≤ 24) && decide (c.fil.length ≤ 16) && rng 0 1000000000 c.dflt && c.cls.all okN && c.fil.all okF0
theorem all_sC (l : List Cls) (p : Cls → Bool) (k : Nat) (h : k < l.length) (h1 : (l.take k).all p = true) (h2 : p l[k] = true) : (l.take (k + 1)).all p = true := by
  rw [takeS l k h, List.all_append, h1]; simp [h2]
theorem all_bC (l : List Cls) (p : Cls → Bool) (k : Nat) (h : k < l.length) (h2 : p l[k] = false) : l.all p = false := not_true fun h3 => by
  rw [List.all_eq_true] at h3
  rw [h3 _ (List.getElem_mem h)] at h2; cases h2
theorem all_sF (l : List Fil) (p : Fil → Bool) (k : Nat) (h : k < l.length) (h1 : (l.take k).all p = true) (h2 : p l[k] = true) : (l.take (k + 1)).all p = true := by
  rw [takeS l k h, List.all_append, h1]; simp [h2]
theorem all_bF (l : List Fil) (p : Fil → Bool) (k : Nat) (h : k < l.length) (h2 : p l[k] = false) : l.all p = false := not_true fun h3 => by
  rw [List.all_eq_true] at h3
  rw [h3 _ (List.getElem_mem h)] at h2; cases h2
/-! ### storable -/
def F15 : Fun := ⟨fun xs => xs = [.agg (cX (deC (xs.getD 0 .top) : Cfg))] ∧ (fun (c : Cfg) => (okC c)) (deC (xs.getD 0 .top) : Cfg), fun xs => (fun (c : Cfg) => ((B (stOk c), []) : X × List Ob)) (deC (xs.getD 0 .top) : Cfg)⟩
theorem F15_in {xs : List X} (h : F15.pre xs) : ∃ (c : Cfg), xs = [.agg (cX c)] ∧ (okC c) := ⟨_, h.1, h.2⟩
theorem F15_res (c : Cfg) : F15.res [.agg (cX c)] = (B (stOk c), []) := by simp [F15]
theorem F15_mk (c : Cfg) (h : okC c) : F15.pre [.agg (cX c)] := by simpa [F15] using h
theorem c15 : GenCA K3 Tryd.prog 15 F15 := by
  refine contractA Tryd.mix K3 [(29, F29), (30, F30), (32, F32), (31, F31), (33, F33)] [] (by simp [c29, toK3 c30, toK3 c32, toK3 c31, toK3 c33]) (by simp) Tryd.func15 rfl (by decide) ?_
  intro xs hxs
  obtain ⟨c, rfl, hp⟩ := F15_in hxs
  rw [F15_res]
  refine ⟨by rw [Tryd.ntmps15]; simp, ?_⟩
  obtain ⟨hl1, hl2, hn⟩ := hp
  cases hN : nmOk c.name with
  | false =>
    simp -implicitDefEqProofs [Tryd.f15, F29, F30, F32, F31, F33, List.lookup_cons, and_assoc, pick_and, pick_or, if_and, if_or, hn, hN]
    refine fin_pure (by simp) ?_
    simp -implicitDefEqProofs [pur2_i, pur2_b, pur2_s, pur2_nil, pur2_sl, pur2_tup, rn2_tup, rn2_agg, rn2_osl, rn1_v, rn1_osl, rn1_agg, rn0_v, rn0_sl, rn0, pickObs, pur_v, pur_b, pur_s, pur_nil, pur_sl, deI, deIs_sl, stOk, hN]
  | true =>
  by_cases h24 : 24 < c.cls.length
  · have h24' : ¬ c.cls.length ≤ 24 := by omega
    have i24 : (24 : Int) < c.cls.length := by omega
    have j24 : ¬ (c.cls.length : Int) ≤ 24 := by omega
    simp -implicitDefEqProofs [Tryd.f15, F29, F30, F32, F31, F33, List.lookup_cons, and_assoc, pick_and, pick_or, if_and, if_or, hn, hN, h24, i24, j24]
    refine fin_pure (by simp) ?_
    simp -implicitDefEqProofs [pur2_i, pur2_b, pur2_s, pur2_nil, pur2_sl, pur2_tup, rn2_tup, rn2_agg, rn2_osl, rn1_v, rn1_osl, rn1_agg, rn0_v, rn0_sl, rn0, pickObs, pur_v, pur_b, pur_s, pur_nil, pur_sl, deI, deIs_sl, stOk, h24']
  have i24 : ¬ (24 : Int) < c.cls.length := by omega
  have j24 : (c.cls.length : Int) ≤ 24 := by omega
  by_cases h16 : 16 < c.fil.length
  · have h16' : ¬ c.fil.length ≤ 16 := by omega
    have i16 : (16 : Int) < c.fil.length := by omega
    have j16 : ¬ (c.fil.length : Int) ≤ 16 := by omega
    simp -implicitDefEqProofs [Tryd.f15, F29, F30, F32, F31, F33, List.lookup_cons, and_assoc, pick_and, pick_or, if_and, if_or, hn, hN, h24, h16, i24, j24, i16, j16]
    refine fin_pure (by simp) ?_
    simp -implicitDefEqProofs [pur2_i, pur2_b, pur2_s, pur2_nil, pur2_sl, pur2_tup, rn2_tup, rn2_agg, rn2_osl, rn1_v, rn1_osl, rn1_agg, rn0_v, rn0_sl, rn0, pickObs, pur_v, pur_b, pur_s, pur_nil, pur_sl, deI, deIs_sl, stOk, h16']
  have i16 : ¬ (16 : Int) < c.fil.length := by omega
  have j16 : (c.fil.length : Int) ≤ 16 := by omega
  have g24 : c.cls.length ≤ 24 := by omega
  have g16 : c.fil.length ≤ 16 := by omega
  cases hD : rng 0 1000000000 c.dflt with
  | false =>
    simp -implicitDefEqProofs [Tryd.f15, F29, F30, F32, F31, F33, List.lookup_cons, and_assoc, pick_and, pick_or, if_and, if_or, hn, hN, h24, h16, i24, j24, i16, j16, hD]
    refine fin_pure (by simp) ?_
    simp -implicitDefEqProofs [pur2_i, pur2_b, pur2_s, pur2_nil, pur2_sl, pur2_tup, rn2_tup, rn2_agg, rn2_osl, rn1_v, rn1_osl, rn1_agg, rn0_v, rn0_sl, rn0, pickObs, pur_v, pur_b, pur_s, pur_nil, pur_sl, deI, deIs_sl, stOk, hD]
  | true =>
  simp -implicitDefEqProofs [Tryd.f15, List.lookup_cons, and_assoc, pick_and, pick_or, if_and, if_or, F29, F30, hn, hN, h24, h16, i24, j24, i16, j16, hD]
  refine loopP_inv (fun k : Nat => ⟨53, tl [(1, .optr 0 0 0 0), (30, .sl (tR c.cls)), (31, I c.cls.length), (32, I k)], [cBx c]⟩) (fun k => k ≤ c.cls.length ∧ (c.cls.take k).all okN = true) (fun k => c.cls.length - k) 0 ⟨Nat.zero_le _, rfl⟩ (Wk.tl (by simp [hold, upd, tl_cons])) ?_
  rintro k ⟨hk, ha⟩
  by_cases h : k < c.cls.length
  · have hw1 := w64n (show k < 4611686018427387904 by omega)
    cases hq : okN c.cls[k] with
    | true =>
      have hg := all_sC c.cls okN k h ha hq
      have h4 : (nums c.cls[k]).length = 8 := rfl
      have hq' : (nums c.cls[k]).all (rng 0 1000000000) = true := hq
      simp -implicitDefEqProofs [List.lookup_cons, and_assoc, pick_and, pick_or, if_and, if_or, h, cBx, iOb, F32, F31, h4, hq', -List.all_eq_true, -List.all_eq_false]
      refine ⟨k + 1, by omega, hg, by omega, ?_⟩
      exact Wk.tlD (m := 1) rfl (by simp [hold, upd, tl_cons, hw1]) (by simp [okL_cons, okL_nil, ok1, ok0]) (okH_cBx _ _ _ (by simp [okH_nil]))
    | false =>
      have hA := all_bC c.cls okN k h hq
      have h4 : (nums c.cls[k]).length = 8 := rfl
      have hq' : (nums c.cls[k]).all (rng 0 1000000000) = false := hq
      simp -implicitDefEqProofs [List.lookup_cons, and_assoc, pick_and, pick_or, if_and, if_or, h, cBx, iOb, F32, F31, h4, hq', -List.all_eq_true, -List.all_eq_false]
      refine fin_pure (by simp) ?_
      simp -implicitDefEqProofs [pur2_i, pur2_b, pur2_s, pur2_nil, pur2_sl, pur2_tup, rn2_tup, rn2_agg, rn2_osl, rn1_v, rn1_osl, rn1_agg, rn0_v, rn0_sl, rn0, pickObs, pur_v, pur_b, pur_s, pur_nil, pur_sl, deI, deIs_sl, stOk, hA, -List.all_eq_true, -List.all_eq_false]
  · have e : k = c.cls.length := by omega
    subst e
    rw [List.take_length] at ha
    have haC := ha
    simp -implicitDefEqProofs [List.lookup_cons, and_assoc, pick_and, pick_or, if_and, if_or, cBx]
    refine loopP_inv (fun k : Nat => ⟨53, tl [(1, .optr 0 0 0 0), (42, .sl (tR c.fil)), (43, I c.fil.length), (44, I k)], [cBx c]⟩) (fun k => k ≤ c.fil.length ∧ (c.fil.take k).all okF0 = true) (fun k => c.fil.length - k) 0 ⟨Nat.zero_le _, rfl⟩ (Wk.tl (by simp [hold, upd, tl_cons])) ?_
    rintro k ⟨hk, ha⟩
    by_cases h : k < c.fil.length
    · have hw1 := w64n (show k < 4611686018427387904 by omega)
      cases hq : okF0 c.fil[k] with
      | true =>
        have hg := all_sF c.fil okF0 k h ha hq
        have h4 : (numsF c.fil[k]).length = 5 := rfl
        have hq' : (numsF c.fil[k]).all (rng 0 1000000000) = true := hq
        simp -implicitDefEqProofs [List.lookup_cons, and_assoc, pick_and, pick_or, if_and, if_or, h, cBx, iOb, F33, F31, h4, hq', -List.all_eq_true, -List.all_eq_false]
        refine ⟨k + 1, by omega, hg, by omega, ?_⟩
        exact Wk.tlD (m := 1) rfl (by simp [hold, upd, tl_cons, hw1]) (by simp [okL_cons, okL_nil, ok1, ok0]) (okH_cBx _ _ _ (by simp [okH_nil]))
      | false =>
        have hA := all_bF c.fil okF0 k h hq
        have h4 : (numsF c.fil[k]).length = 5 := rfl
        have hq' : (numsF c.fil[k]).all (rng 0 1000000000) = false := hq
        simp -implicitDefEqProofs [List.lookup_cons, and_assoc, pick_and, pick_or, if_and, if_or, h, cBx, iOb, F33, F31, h4, hq', -List.all_eq_true, -List.all_eq_false]
        refine fin_pure (by simp) ?_
        simp -implicitDefEqProofs [pur2_i, pur2_b, pur2_s, pur2_nil, pur2_sl, pur2_tup, rn2_tup, rn2_agg, rn2_osl, rn1_v, rn1_osl, rn1_agg, rn0_v, rn0_sl, rn0, pickObs, pur_v, pur_b, pur_s, pur_nil, pur_sl, deI, deIs_sl, stOk, hA, -List.all_eq_true, -List.all_eq_false]
    · have e : k = c.fil.length := by omega
      subst e
      rw [List.take_length] at ha
      have haF := ha
      simp -implicitDefEqProofs [List.lookup_cons, and_assoc, pick_and, pick_or, if_and, if_or, cBx]
      refine fin_pure (by simp) ?_
      simp -implicitDefEqProofs [pur2_i, pur2_b, pur2_s, pur2_nil, pur2_sl, pur2_tup, rn2_tup, rn2_agg, rn2_osl, rn1_v, rn1_osl, rn1_agg, rn0_v, rn0_sl, rn0, pickObs, pur_v, pur_b, pur_s, pur_nil, pur_sl, deI, deIs_sl, stOk, hN, g24, g16, hD, haC, haF, -List.all_eq_true]
def F46 : Fun := ⟨fun xs => xs = [I (deI (xs.getD 0 .top) : Int)] ∧ (fun (n : Int) => (True)) (deI (xs.getD 0 .top) : Int), fun xs => (fun (n : Int) => ((B (rng 0 1000000000 n), []) : X × List Ob)) (deI (xs.getD 0 .top) : Int)⟩
theorem F46_in {xs : List X} (h : F46.pre xs) : ∃ (n : Int), xs = [I n] ∧ (True) := ⟨_, h.1, h.2⟩
theorem F46_res (n : Int) : F46.res [I n] = (B (rng 0 1000000000 n), []) := by simp [F46]
theorem F46_mk (n : Int) (h : True) : F46.pre [I n] := by simpa [F46] using h
theorem c46 : GenCA K3 Tryd.prog 46 F46 := by
  refine contractA Tryd.mix K3 [(56, F56)] [] (by simp [toK3 c56]) (by simp) Tryd.func46 rfl (by decide) ?_
  intro xs hxs
  obtain ⟨n, rfl, hp⟩ := F46_in hxs
  rw [F46_res]
  refine ⟨by rw [Tryd.ntmps46]; simp, ?_⟩
  simp -implicitDefEqProofs [Tryd.f46, F56, List.lookup_cons, and_assoc, pick_and, pick_or, if_and, if_or]
  refine fin_pure (by simp) ?_
  simp -implicitDefEqProofs [pur2_i, pur2_b, pur2_s, pur2_nil, pur2_sl, pur2_tup, rn2_tup, rn2_agg, rn2_osl, rn1_v, rn1_osl, rn1_agg, rn0_v, rn0_sl, rn0, pickObs, pur_v, pur_b, pur_s, pur_nil, pur_sl, deI, deIs_sl]
theorem c23 : GenCA K3 Tryd.prog 23 F15 := by
  refine contractA Tryd.mix K3 [(44, F32), (43, F33), (42, F42), (45, F29), (46, F46)] [] (by simp [toK3 c44, toK3 c43, toK3 c42, c45, c46]) (by simp) Tryd.func23 rfl (by decide) ?_
  intro xs hxs
  obtain ⟨c, rfl, hp⟩ := F15_in hxs
  rw [F15_res]
  refine ⟨by rw [Tryd.ntmps23]; simp, ?_⟩
  obtain ⟨hl1, hl2, hn⟩ := hp
  simp -implicitDefEqProofs [Tryd.f23, List.lookup_cons, and_assoc, pick_and, pick_or, if_and, if_or]
  refine loopP_inv (fun k : Nat => ⟨51, tl [(1, .optr 0 0 0 0), (8, .sl (tR c.cls)), (9, I c.cls.length), (10, I k)], [cBx c]⟩) (fun k => k ≤ c.cls.length ∧ (c.cls.take k).all okN = true) (fun k => c.cls.length - k) 0 ⟨Nat.zero_le _, rfl⟩ (Wk.tl (by simp [hold, upd, tl_cons])) ?_
  rintro k ⟨hk, ha⟩
  by_cases h : k < c.cls.length
  · have hw1 := w64n (show k < 4611686018427387904 by omega)
    cases hq : okN c.cls[k] with
    | true =>
      have hg := all_sC c.cls okN k h ha hq
      have h4 : (nums c.cls[k]).length = 8 := rfl
      have hq' : (nums c.cls[k]).all (rng 0 1000000000) = true := hq
      simp -implicitDefEqProofs [List.lookup_cons, and_assoc, pick_and, pick_or, if_and, if_or, h, cBx, iOb, F32, F42, h4, hq', -List.all_eq_true, -List.all_eq_false]
      refine ⟨k + 1, by omega, hg, by omega, ?_⟩
      exact Wk.tlD (m := 1) rfl (by simp [hold, upd, tl_cons, hw1]) (by simp [okL_cons, okL_nil, ok1, ok0]) (okH_cBx _ _ _ (by simp [okH_nil]))
    | false =>
      have hA := all_bC c.cls okN k h hq
      have h4 : (nums c.cls[k]).length = 8 := rfl
      have hq' : (nums c.cls[k]).all (rng 0 1000000000) = false := hq
      simp -implicitDefEqProofs [List.lookup_cons, and_assoc, pick_and, pick_or, if_and, if_or, h, cBx, iOb, F32, F42, h4, hq', -List.all_eq_true, -List.all_eq_false]
      refine fin_pure (by simp) ?_
      simp -implicitDefEqProofs [pur2_i, pur2_b, pur2_s, pur2_nil, pur2_sl, pur2_tup, rn2_tup, rn2_agg, rn2_osl, rn1_v, rn1_osl, rn1_agg, rn0_v, rn0_sl, rn0, pickObs, pur_v, pur_b, pur_s, pur_nil, pur_sl, deI, deIs_sl, stOk, hA, -List.all_eq_true, -List.all_eq_false]
  · have e : k = c.cls.length := by omega
    subst e
    rw [List.take_length] at ha
    have haC := ha
    simp -implicitDefEqProofs [List.lookup_cons, and_assoc, pick_and, pick_or, if_and, if_or, cBx]
    refine loopP_inv (fun k : Nat => ⟨51, tl [(1, .optr 0 0 0 0), (20, .sl (tR c.fil)), (21, I c.fil.length), (22, I k)], [cBx c]⟩) (fun k => k ≤ c.fil.length ∧ (c.fil.take k).all okF0 = true) (fun k => c.fil.length - k) 0 ⟨Nat.zero_le _, rfl⟩ (Wk.tl (by simp [hold, upd, tl_cons])) ?_
    rintro k ⟨hk, ha⟩
    by_cases h : k < c.fil.length
    · have hw1 := w64n (show k < 4611686018427387904 by omega)
      cases hq : okF0 c.fil[k] with
      | true =>
        have hg := all_sF c.fil okF0 k h ha hq
        have h4 : (numsF c.fil[k]).length = 5 := rfl
        have hq' : (numsF c.fil[k]).all (rng 0 1000000000) = true := hq
        simp -implicitDefEqProofs [List.lookup_cons, and_assoc, pick_and, pick_or, if_and, if_or, h, cBx, iOb, F33, F42, h4, hq', -List.all_eq_true, -List.all_eq_false]
        refine ⟨k + 1, by omega, hg, by omega, ?_⟩
        exact Wk.tlD (m := 1) rfl (by simp [hold, upd, tl_cons, hw1]) (by simp [okL_cons, okL_nil, ok1, ok0]) (okH_cBx _ _ _ (by simp [okH_nil]))
      | false =>
        have hA := all_bF c.fil okF0 k h hq
        have h4 : (numsF c.fil[k]).length = 5 := rfl
        have hq' : (numsF c.fil[k]).all (rng 0 1000000000) = false := hq
        simp -implicitDefEqProofs [List.lookup_cons, and_assoc, pick_and, pick_or, if_and, if_or, h, cBx, iOb, F33, F42, h4, hq', -List.all_eq_true, -List.all_eq_false]
        refine fin_pure (by simp) ?_
        simp -implicitDefEqProofs [pur2_i, pur2_b, pur2_s, pur2_nil, pur2_sl, pur2_tup, rn2_tup, rn2_agg, rn2_osl, rn1_v, rn1_osl, rn1_agg, rn0_v, rn0_sl, rn0, pickObs, pur_v, pur_b, pur_s, pur_nil, pur_sl, deI, deIs_sl, stOk, hA, -List.all_eq_true, -List.all_eq_false]
    · have e : k = c.fil.length := by omega
      subst e
      rw [List.take_length] at ha
      have haF := ha
      simp -implicitDefEqProofs [List.lookup_cons, and_assoc, pick_and, pick_or, if_and, if_or, cBx]
      cases hN : nmOk c.name with
      | false =>
        simp -implicitDefEqProofs [List.lookup_cons, and_assoc, pick_and, pick_or, if_and, if_or, F29, F46, hn, hN]
        refine fin_pure (by simp) ?_
        simp -implicitDefEqProofs [pur2_i, pur2_b, pur2_s, pur2_nil, pur2_sl, pur2_tup, rn2_tup, rn2_agg, rn2_osl, rn1_v, rn1_osl, rn1_agg, rn0_v, rn0_sl, rn0, pickObs, pur_v, pur_b, pur_s, pur_nil, pur_sl, deI, deIs_sl, stOk, hN]
      | true =>
      by_cases h24 : c.cls.length ≤ 24
      · have j24 : (c.cls.length : Int) ≤ 24 := by omega
        by_cases h16 : c.fil.length ≤ 16
        · have j16 : (c.fil.length : Int) ≤ 16 := by omega
          simp -implicitDefEqProofs [List.lookup_cons, and_assoc, pick_and, pick_or, if_and, if_or, F29, F46, hn, hN, h24, h16, j24, j16]
          refine fin_pure (by simp) ?_
          simp -implicitDefEqProofs [pur2_i, pur2_b, pur2_s, pur2_nil, pur2_sl, pur2_tup, rn2_tup, rn2_agg, rn2_osl, rn1_v, rn1_osl, rn1_agg, rn0_v, rn0_sl, rn0, pickObs, pur_v, pur_b, pur_s, pur_nil, pur_sl, deI, deIs_sl, stOk, hN, h24, h16, haC, haF, -List.all_eq_true]
        · have j16 : ¬ (c.fil.length : Int) ≤ 16 := by omega
          simp -implicitDefEqProofs [List.lookup_cons, and_assoc, pick_and, pick_or, if_and, if_or, F29, F46, hn, hN, h24, h16, j24, j16]
          refine fin_pure (by simp) ?_
          simp -implicitDefEqProofs [pur2_i, pur2_b, pur2_s, pur2_nil, pur2_sl, pur2_tup, rn2_tup, rn2_agg, rn2_osl, rn1_v, rn1_osl, rn1_agg, rn0_v, rn0_sl, rn0, pickObs, pur_v, pur_b, pur_s, pur_nil, pur_sl, deI, deIs_sl, stOk, h16]
      · have j24 : ¬ (c.cls.length : Int) ≤ 24 := by omega
        simp -implicitDefEqProofs [List.lookup_cons, and_assoc, pick_and, pick_or, if_and, if_or, F29, F46, hn, hN, h24, j24]
        refine fin_pure (by simp) ?_
        simp -implicitDefEqProofs [pur2_i, pur2_b, pur2_s, pur2_nil, pur2_sl, pur2_tup, rn2_tup, rn2_agg, rn2_osl, rn1_v, rn1_osl, rn1_agg, rn0_v, rn0_sl, rn0, pickObs, pur_v, pur_b, pur_s, pur_nil, pur_sl, deI, deIs_sl, stOk, h24]
end Go.Proofs
