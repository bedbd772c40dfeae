/-
  What is proved here: contracts of the conditions on a configuration, and of IsConfig. Condition: none.
-/
import Derived.Test.YtglbimhhiikkpaaDoorC2r
namespace Go.Proofs
open Go.Abs
set_option linter.unusedSimpArgs false
set_option linter.unnecessarySimpa false
set_option linter.unusedVariables false
set_option maxHeartbeats 4000000
set_option maxRecDepth 20000

/-! ### places with a mark -/
def fl (p : Nat → Bool) (n : Nat) : List Int := nI ((List.range n).filter p)
theorem fl_succ (p : Nat → Bool) (n : Nat) : fl p (n + 1) = fl p n ++ (if p n = true then [(n : Int)] else []) := by
  unfold fl nI
  rw [List.range_succ, List.filter_append]
  cases h : p n <;> simp [h]
theorem fl_len (p : Nat → Bool) (n : Nat) : (fl p n).length ≤ n := by
  unfold fl
  rw [nI_len]
  exact Nat.le_trans (List.length_filter_le _ _) (by simp)
theorem fl_app {p : Nat → Bool} {k : Nat} (h : p k = true) : iR (fl p k) ++ [[I (k : Int)]] = iR (fl p (k + 1)) := by
  rw [fl_succ, if_pos h]; simp [← iR_append, iR_cons, iR_nil]
theorem fl_same {p : Nat → Bool} {k : Nat} (h : p k = false) : fl p (k + 1) = fl p k := by
  rw [fl_succ, if_neg (by simp [h])]; simp
theorem fl_nil (p : Nat → Bool) (n : Nat) : decide ((fl p n).length = 0) = (List.range n).all fun i => !p i := by
  rw [Bool.eq_iff_iff, decide_eq_true_eq, fl, nI_len]
  simp [List.length_eq_zero_iff, List.filter_eq_nil_iff]
theorem all_r (p : Nat → Bool) (n : Nat) : (List.range (n + 1)).all p = ((List.range n).all p && p n) := by simp [List.range_succ]
theorem all_rb (p : Nat → Bool) (n k : Nat) (h : k < n) (hp : p k = false) : (List.range n).all p = false := not_true fun h3 => by
  rw [all_range.1 h3 k h] at hp; cases hp

/-! ### parents -/
def badP (l : List Cls) (k : Nat) : Bool := !decide ((atC l k).par = 0) && decide (fidx l (atC l k).par < 0)
def F153 : Fun := ⟨fun xs => xs = [.agg (cX (deC (xs.getD 0 .top) : Cfg))] ∧ (fun (c : Cfg) => (okC c)) (deC (xs.getD 0 .top) : Cfg), fun xs => (fun (c : Cfg) => ((.osl 0 0, [iOb (fl (badP c.cls) c.cls.length)]) : X × List Ob)) (deC (xs.getD 0 .top) : Cfg)⟩
theorem F153_in {xs : List X} (h : F153.pre xs) : ∃ (c : Cfg), xs = [.agg (cX c)] ∧ (okC c) := ⟨_, h.1, h.2⟩
theorem F153_res (c : Cfg) : F153.res [.agg (cX c)] = (.osl 0 0, [iOb (fl (badP c.cls) c.cls.length)]) := by simp [F153]
theorem F153_mk (c : Cfg) (h : okC c) : F153.pre [.agg (cX c)] := by simpa [F153] using h
theorem c153 : GenCA K Tryd.prog 153 F153 := by
  refine contractA Tryd.mix K [(72, F72)] [] (by simp [c72]) (by simp) Tryd.func153 rfl (by decide) ?_
  intro xs hxs
  obtain ⟨c, rfl, hp⟩ := F153_in hxs
  rw [F153_res]
  refine ⟨by rw [Tryd.ntmps153]; simp, ?_⟩
  have hl := hp.1
  simp -implicitDefEqProofs [Tryd.f153, F72, List.lookup_cons, and_assoc, pick_and, pick_or, if_and, if_or, eBuildSlice, srcRows, srcOk, chunk]
  refine loopP_inv (fun k : Nat => ⟨31, tl [(1, .optr 0 0 0 0), (3, .osl 1 0), (8, .sl (tR c.cls)), (9, I c.cls.length), (10, I k)], [cBx c, iOb (fl (badP c.cls) k)]⟩) (fun k => k ≤ c.cls.length) (fun k => c.cls.length - k) 0 (Nat.zero_le _) (Wk.tl (by simp [hold, upd, tl_cons])) ?_
  intro k hk
  by_cases h : k < c.cls.length
  · have hw1 := w64n (show k < 4611686018427387904 by omega)
    have hln := fl_len (badP c.cls) k
    by_cases hz : c.cls[k].par = 0
    · have hb : badP c.cls k = false := by simp [badP, atC_eq h, hz]
      simp -implicitDefEqProofs [List.lookup_cons, and_assoc, pick_and, pick_or, if_and, if_or, h, hz, cBx, iOb, eAppend, eBuildSlice, srcRows, srcOk, chunk]
      refine ⟨k + 1, by omega, by omega, ?_⟩
      rw [fl_same hb]
      exact Wk.tlD (m := 2) rfl (by simp [hold, upd, tl_cons, hw1]) (by simp [okL_cons, okL_nil, ok1, ok0]) (okH_cBx _ _ _ (okH_iR _ _ _ _ _ _ _ _ _ (by simp [okH_nil])))
    · by_cases hf : fidx c.cls c.cls[k].par < 0
      · have hb : badP c.cls k = true := by simp [badP, atC_eq h, hz, hf]
        have hf2 : ¬ 0 ≤ fidx c.cls c.cls[k].par := by omega
        simp -implicitDefEqProofs [List.lookup_cons, and_assoc, pick_and, pick_or, if_and, if_or, h, hz, hf, hf2, hp, F72, cBx, iOb, eAppend, eBuildSlice, srcRows, srcOk, chunk]
        refine ⟨by omega, by omega, k + 1, by omega, by omega, ?_⟩
        rw [fl_app hb]
        refine Wk.tlP [0, 1] (by simp [pickOk, -List.all_eq_true, iR_ok, ok0, Sx]) ?_ ?_
        · simp [pickObs, Sx]
        · simp [hold, upd, tl_cons, rn1, rn0, hw1]
          exact ⟨rfl, rfl⟩
      · have hb : badP c.cls k = false := by simp [badP, atC_eq h, hf]
        have hf2 : 0 ≤ fidx c.cls c.cls[k].par := by omega
        simp -implicitDefEqProofs [List.lookup_cons, and_assoc, pick_and, pick_or, if_and, if_or, h, hz, hf, hf2, hp, F72, cBx, iOb, eAppend, eBuildSlice, srcRows, srcOk, chunk]
        refine ⟨k + 1, by omega, by omega, ?_⟩
        rw [fl_same hb]
        exact Wk.tlD (m := 2) rfl (by simp [hold, upd, tl_cons, hw1]) (by simp [okL_cons, okL_nil, ok1, ok0]) (okH_cBx _ _ _ (okH_iR _ _ _ _ _ _ _ _ _ (by simp [okH_nil])))
  · have e : k = c.cls.length := by omega
    subst e
    simp -implicitDefEqProofs [List.lookup_cons, and_assoc, pick_and, pick_or, if_and, if_or, iOb, cBx]
    refine fin_own [1] (by simp [pickOk, -List.all_eq_true, iR_ok]) ?_
    simp -implicitDefEqProofs [pur2_i, pur2_b, pur2_s, pur2_nil, pur2_sl, pur2_tup, rn2_tup, rn2_agg, rn2_osl, rn1_v, rn1_osl, rn1_agg, rn0_v, rn0_sl, rn0, pickObs, pur_v, pur_b, pur_s, pur_nil, pur_sl, deI, deIs_sl, iOb]
def topsU (l : List Cls) (k : Nat) : Int := ((l.take k).countP fun x => decide (x.par = 0) : Nat)
theorem topsU_succ (l : List Cls) (k : Nat) (h : k < l.length) : topsU l (k + 1) = topsU l k + (if l[k].par = 0 then 1 else 0) := by
  unfold topsU
  rw [takeS l k h, List.countP_append]
  by_cases h2 : l[k].par = 0 <;> simp [h2]
theorem topsU_le (l : List Cls) (k : Nat) : 0 ≤ topsU l k ∧ topsU l k ≤ k := by
  unfold topsU
  have := List.countP_le_length (p := fun x : Cls => decide (x.par = 0)) (l := l.take k)
  simp at this
  omega
theorem c3_eq (l : List Cls) : cn3 l = (decide (topsU l l.length = 1) && decide ((fl (badP l) l.length).length = 0)) := by
  rw [fl_nil]
  have e1 : decide (topsU l l.length = 1) = decide (tops l = 1) := by
    unfold topsU tops
    rw [List.take_length, Bool.eq_iff_iff]
    simp only [decide_eq_true_eq]
    omega
  have e2 : ((List.range l.length).all fun i => !badP l i) = l.all (fun x => decide (x.par = 0) || decide (0 ≤ fidx l x.par)) := by
    rw [Bool.eq_iff_iff, all_range, all_atC]
    refine forall_congr' fun i => forall_congr' fun hi => ?_
    simp only [badP]
    by_cases h1 : (atC l i).par = 0
    · simp [h1]
    · by_cases h2 : fidx l (atC l i).par < 0
      · have : ¬ 0 ≤ fidx l (atC l i).par := by omega
        simp [h1, h2, this]
      · have : 0 ≤ fidx l (atC l i).par := by omega
        simp [h1, h2, this]
  rw [e1, e2, cn3]
def F121 : Fun := ⟨fun xs => xs = [.agg (cX (deC (xs.getD 0 .top) : Cfg))] ∧ (fun (c : Cfg) => (okC c)) (deC (xs.getD 0 .top) : Cfg), fun xs => (fun (c : Cfg) => ((B (cn3 c.cls), []) : X × List Ob)) (deC (xs.getD 0 .top) : Cfg)⟩
theorem F121_in {xs : List X} (h : F121.pre xs) : ∃ (c : Cfg), xs = [.agg (cX c)] ∧ (okC c) := ⟨_, h.1, h.2⟩
theorem F121_res (c : Cfg) : F121.res [.agg (cX c)] = (B (cn3 c.cls), []) := by simp [F121]
theorem F121_mk (c : Cfg) (h : okC c) : F121.pre [.agg (cX c)] := by simpa [F121] using h
theorem c121 : GenCA K Tryd.prog 121 F121 := by
  refine contractA Tryd.mix K [(153, F153.pu)] [] (by simp [c153.pu]) (by simp) Tryd.func121 rfl (by decide) ?_
  intro xs hxs
  obtain ⟨c, rfl, hp⟩ := F121_in hxs
  rw [F121_res]
  refine ⟨by rw [Tryd.ntmps121]; simp, ?_⟩
  have hl := hp.1
  simp -implicitDefEqProofs [Tryd.f121, List.lookup_cons, and_assoc, pick_and, pick_or, if_and, if_or]
  refine loopP_inv (fun k : Nat => ⟨27, tl [(1, .optr 0 0 0 0), (3, I (topsU c.cls k)), (7, .sl (tR c.cls)), (8, I c.cls.length), (9, I k)], [cBx c]⟩) (fun k => k ≤ c.cls.length) (fun k => c.cls.length - k) 0 (Nat.zero_le _) (Wk.tl (by simp [hold, upd, tl_cons, topsU])) ?_
  intro k hk
  by_cases h : k < c.cls.length
  · have hw1 := w64n (show k < 4611686018427387904 by omega)
    have hS := topsU_succ c.cls k h
    have hb := topsU_le c.cls k
    have hw2 : IntKind.i64.wrap (topsU c.cls k + 1) = topsU c.cls k + 1 := w64 (by omega) (by omega)
    by_cases hz : c.cls[k].par = 0
    · rw [if_pos hz] at hS
      simp -implicitDefEqProofs [List.lookup_cons, and_assoc, pick_and, pick_or, if_and, if_or, h, hz, cBx, iOb]
      refine ⟨k + 1, by omega, by omega, ?_⟩
      rw [hS]
      exact Wk.tlD (m := 1) rfl (by simp [hold, upd, tl_cons, hw1, hw2]) (by simp [okL_cons, okL_nil, ok1, ok0]) (okH_cBx _ _ _ (by simp [okH_nil]))
    · rw [if_neg hz, Int.add_zero] at hS
      simp -implicitDefEqProofs [List.lookup_cons, and_assoc, pick_and, pick_or, if_and, if_or, h, hz, cBx, iOb]
      refine ⟨k + 1, by omega, by omega, ?_⟩
      rw [hS]
      exact Wk.tlD (m := 1) rfl (by simp [hold, upd, tl_cons, hw1]) (by simp [okL_cons, okL_nil, ok1, ok0]) (okH_cBx _ _ _ (by simp [okH_nil]))
  · have e : k = c.cls.length := by omega
    subst e
    have hc3 := c3_eq c.cls
    by_cases h1 : topsU c.cls c.cls.length = 1
    · simp -implicitDefEqProofs [List.lookup_cons, and_assoc, pick_and, pick_or, if_and, if_or, h1, hp, F153, iOb, cBx]
      refine fin_pure (by simp) ?_
      simp -implicitDefEqProofs [pur2_i, pur2_b, pur2_s, pur2_nil, pur2_sl, pur2_tup, rn2_tup, rn2_agg, rn2_osl, rn1_v, rn1_osl, rn1_agg, rn0_v, rn0_sl, rn0, pickObs, pur_v, pur_b, pur_s, pur_nil, pur_sl, deI, deIs_sl, hc3, h1]
      rw [Bool.eq_iff_iff]
      simp
    · simp -implicitDefEqProofs [List.lookup_cons, and_assoc, pick_and, pick_or, if_and, if_or, h1, hp, F153, iOb, cBx]
      refine fin_pure (by simp) ?_
      simp -implicitDefEqProofs [pur2_i, pur2_b, pur2_s, pur2_nil, pur2_sl, pur2_tup, rn2_tup, rn2_agg, rn2_osl, rn1_v, rn1_osl, rn1_agg, rn0_v, rn0_sl, rn0, pickObs, pur_v, pur_b, pur_s, pur_nil, pur_sl, deI, deIs_sl, hc3, h1]

/-! ### ids -/
def idP (l : List Cls) (i : Nat) : Bool := rng 1 999 (atC l i).id && (decide (i = 0) || decide ((atC l (i - 1)).id < (atC l i).id))
def F120 : Fun := ⟨fun xs => xs = [.agg (cX (deC (xs.getD 0 .top) : Cfg))] ∧ (fun (c : Cfg) => (okC c)) (deC (xs.getD 0 .top) : Cfg), fun xs => (fun (c : Cfg) => ((B (cn2 c.cls), []) : X × List Ob)) (deC (xs.getD 0 .top) : Cfg)⟩
theorem F120_in {xs : List X} (h : F120.pre xs) : ∃ (c : Cfg), xs = [.agg (cX c)] ∧ (okC c) := ⟨_, h.1, h.2⟩
theorem F120_res (c : Cfg) : F120.res [.agg (cX c)] = (B (cn2 c.cls), []) := by simp [F120]
theorem F120_mk (c : Cfg) (h : okC c) : F120.pre [.agg (cX c)] := by simpa [F120] using h
theorem c120 : GenCA K Tryd.prog 120 F120 := by
  refine contractA Tryd.mix K [(100, F100)] [] (by simp [c100]) (by simp) Tryd.func120 rfl (by decide) ?_
  intro xs hxs
  obtain ⟨c, rfl, hp⟩ := F120_in hxs
  rw [F120_res]
  refine ⟨by rw [Tryd.ntmps120]; simp, ?_⟩
  have hl := hp.1
  simp -implicitDefEqProofs [Tryd.f120, List.lookup_cons, and_assoc, pick_and, pick_or, if_and, if_or]
  refine loopP_inv (fun k : Nat => ⟨44, tl [(1, .optr 0 0 0 0), (6, .sl (tR c.cls)), (7, I c.cls.length), (8, I k)], [cBx c]⟩) (fun k => k ≤ c.cls.length ∧ (List.range k).all (idP c.cls) = true) (fun k => c.cls.length - k) 0 (by simp) (Wk.tl (by simp [hold, upd, tl_cons])) ?_
  rintro k ⟨hk, ha⟩
  by_cases h : k < c.cls.length
  · have hw1 := w64n (show k < 4611686018427387904 by omega)
    have hbad : idP c.cls k = false → cn2 c.cls = false := fun hb => by
      have := all_rb (idP c.cls) c.cls.length k h hb
      show ((List.range c.cls.length).all (idP c.cls) && _) = false
      rw [this]; rfl
    have hgood : idP c.cls k = true → (List.range (k + 1)).all (idP c.cls) = true := fun hb => by rw [all_r, ha, hb]; rfl
    cases hr : rng 1 999 c.cls[k].id with
    | false =>
      have hb := hbad (by simp [idP, atC_eq h, hr])
      simp -implicitDefEqProofs [List.lookup_cons, and_assoc, pick_and, pick_or, if_and, if_or, h, cBx]
      refine drawP_all _ (by decide) ?_
      simp -implicitDefEqProofs [List.lookup_cons, and_assoc, pick_and, pick_or, if_and, if_or, h, cBx, F100, hr]
      refine fin_pure (by simp) ?_
      simp -implicitDefEqProofs [pur2_i, pur2_b, pur2_s, pur2_nil, pur2_sl, pur2_tup, rn2_tup, rn2_agg, rn2_osl, rn1_v, rn1_osl, rn1_agg, rn0_v, rn0_sl, rn0, pickObs, pur_v, pur_b, pur_s, pur_nil, pur_sl, deI, deIs_sl, hb]
    | true =>
      by_cases hk0 : k = 0
      · subst hk0
        have hg := hgood (by simp [idP, atC_eq h, hr])
        simp -implicitDefEqProofs [List.lookup_cons, and_assoc, pick_and, pick_or, if_and, if_or, h, cBx]
        refine drawP_all _ (by decide) ?_
        simp -implicitDefEqProofs [List.lookup_cons, and_assoc, pick_and, pick_or, if_and, if_or, h, cBx, F100, hr]
        refine ⟨1, by omega, by simpa using hg, by omega, ?_⟩
        exact Wk.tlD (m := 1) rfl (by simp [hold, upd, tl_cons, show IntKind.i64.wrap (1 : Int) = 1 from by decide]) (by simp [okL_cons, okL_nil, ok1, ok0]) (okH_cBx _ _ _ (by simp [okH_nil]))
      · obtain ⟨j, hjk⟩ : ∃ j, k - 1 = j := ⟨_, rfl⟩
        have hj : j < c.cls.length := by omega
        have hw0 : IntKind.i64.wrap ((k : Int) - 1) = j := by rw [w64 (by omega) (by omega)]; omega
        have hp0 : 0 < k := by omega
        simp -implicitDefEqProofs [List.lookup_cons, and_assoc, pick_and, pick_or, if_and, if_or, h, cBx]
        refine drawP_all _ (by decide) ?_
        by_cases hlt : c.cls[j].id < c.cls[k].id
        · have hg := hgood (by simp [idP, hjk, atC_eq h, atC_eq hj, hr, hlt])
          have hn : ¬ c.cls[k].id ≤ c.cls[j].id := by omega
          simp -implicitDefEqProofs [List.lookup_cons, and_assoc, pick_and, pick_or, if_and, if_or, h, hj, cBx, F100, hr, hw0, hp0, hn]
          refine ⟨k + 1, by omega, by simpa using hg, by omega, ?_⟩
          exact Wk.tlD (m := 1) rfl (by simp [hold, upd, tl_cons, hw1]) (by simp [okL_cons, okL_nil, ok1, ok0]) (okH_cBx _ _ _ (by simp [okH_nil]))
        · have hb := hbad (by simp [idP, hk0, hjk, atC_eq h, atC_eq hj, hlt])
          have hn : c.cls[k].id ≤ c.cls[j].id := by omega
          simp -implicitDefEqProofs [List.lookup_cons, and_assoc, pick_and, pick_or, if_and, if_or, h, hj, cBx, F100, hr, hw0, hp0, hn]
          refine fin_pure (by simp) ?_
          simp -implicitDefEqProofs [pur2_i, pur2_b, pur2_s, pur2_nil, pur2_sl, pur2_tup, rn2_tup, rn2_agg, rn2_osl, rn1_v, rn1_osl, rn1_agg, rn0_v, rn0_sl, rn0, pickObs, pur_v, pur_b, pur_s, pur_nil, pur_sl, deI, deIs_sl, hb]
  · have e : k = c.cls.length := by omega
    subst e
    have h2 : cn2 c.cls = rng 1 24 c.cls.length := by
      show ((List.range c.cls.length).all (idP c.cls) && _) = _
      rw [ha]; rfl
    simp -implicitDefEqProofs [List.lookup_cons, and_assoc, pick_and, pick_or, if_and, if_or, cBx]
    refine fin_pure (by simp) ?_
    simp -implicitDefEqProofs [pur2_i, pur2_b, pur2_s, pur2_nil, pur2_sl, pur2_tup, rn2_tup, rn2_agg, rn2_osl, rn1_v, rn1_osl, rn1_agg, rn0_v, rn0_sl, rn0, pickObs, pur_v, pur_b, pur_s, pur_nil, pur_sl, deI, deIs_sl, h2, rng]
end Go.Proofs
