/-
  What is proved here: contracts of both functions that list the differences of two configurations. Condition: none.
-/
import Derived.Test.YtglbimhhiikkpaaDoorD2r
namespace Go.Proofs
open Go.Abs
set_option linter.unusedSimpArgs false
set_option linter.unnecessarySimpa false
set_option linter.unusedVariables false
set_option maxHeartbeats 16000000
set_option maxRecDepth 20000
theorem chOb_ok (l : List Chg) (m : Nat) : (tR l).all (fun r => r.all (ok0 m)) = true := tR_ok l m
def F57 : Fun := ⟨fun xs => xs = [.agg (cX (deC (xs.getD 0 .top) : Cfg)), .agg (cX (deC (xs.getD 1 .top) : Cfg))] ∧ (fun (c : Cfg) (d : Cfg) => (okC c ∧ okC d ∧ isCfg c = true)) (deC (xs.getD 0 .top) : Cfg) (deC (xs.getD 1 .top) : Cfg), fun xs => (fun (c : Cfg) (d : Cfg) => ((.osl 0 0, [chOb (diffL c d)]) : X × List Ob)) (deC (xs.getD 0 .top) : Cfg) (deC (xs.getD 1 .top) : Cfg)⟩
theorem F57_in {xs : List X} (h : F57.pre xs) : ∃ (c : Cfg) (d : Cfg), xs = [.agg (cX c), .agg (cX d)] ∧ (okC c ∧ okC d ∧ isCfg c = true) := ⟨_, _, h.1, h.2⟩
theorem F57_res (c : Cfg) (d : Cfg) : F57.res [.agg (cX c), .agg (cX d)] = (.osl 0 0, [chOb (diffL c d)]) := by simp [F57]
theorem F57_mk (c : Cfg) (d : Cfg) (h : okC c ∧ okC d ∧ isCfg c = true) : F57.pre [.agg (cX c), .agg (cX d)] := by simpa [F57] using h

theorem c57 : GenCA K Tryd.prog 57 F57 := by
  refine contractA Tryd.mix K [(92, F92), (72, F72), (45, F45), (93, F93)] [] (by simp [c92, c72, c45, c93]) (by simp) Tryd.func57 rfl (by decide) ?_
  intro xs hxs
  obtain ⟨c, d, rfl, hp⟩ := F57_in hxs
  rw [F57_res]
  refine ⟨by rw [Tryd.ntmps57]; simp, ?_⟩
  obtain ⟨⟨hc1, hc2, hc3⟩, ⟨hd1, hd2, hd3⟩, hgc⟩ := hp
  have okc : okC c := ⟨hc1, hc2, hc3⟩
  have okd : okC d := ⟨hd1, hd2, hd3⟩
  have b1 := p1_len c d
  have b2 := p2_len c d
  have b3 := p3_len c d
  have b4 := p4_len c d
  have b5 := p5_len c d
  simp -implicitDefEqProofs [Tryd.f57, List.lookup_cons, and_assoc, pick_and, pick_or, if_and, if_or, hc1, hc2, hd1, hd2, eBuildSlice, srcRows, srcOk, chunk]
  refine loopP_inv (fun k : Nat => ⟨112, tl [(2, .optr 0 0 0 0), (3, .optr 1 0 0 0), (5, .osl 2 0), (16, .sl (tR c.fil)), (17, I c.fil.length), (18, I k)], [cBx c, cBx d, chOb (dA c d k)]⟩) (fun k => k ≤ c.fil.length) (fun k => c.fil.length - k) 0 (Nat.zero_le _) ?_ ?_
  · exact Wk.tl (by simp [hold, upd, tl_cons])
  intro k hk
  by_cases h : k < c.fil.length
  · have hw1 := w64n (show k < 4611686018427387904 by omega)
    have hln : (dA c d k).length ≤ k := fmL_len _ _ _ _
    by_cases hq : pidx d.fil c.fil[k].prio < 0
    · have hN : tR (dA c d k) ++ [rX ((fun x : Fil => chDropF x.prio) c.fil[k])] = tR (dA c d (k + 1)) := fm_yes0 (fun x : Fil => decide (pidx d.fil x.prio < 0)) (fun x : Fil => chDropF x.prio) c.fil k h (by simpa using hq)
      simp only [chDropF, Chg.rXe] at hN
      simp -implicitDefEqProofs [List.lookup_cons, and_assoc, pick_and, pick_or, if_and, if_or, h, cBx, chOb, tOb, hc1, hc2, hd1, hd2, okc, okd, F92, hq, eAppend, eBuildSlice, srcRows, srcOk, chunk]
      refine ⟨by omega, by omega, k + 1, by omega, by omega, ?_⟩
      rw [hN]
      refine Wk.tlP [0, 1, 2] (by simp [pickOk, -List.all_eq_true, tR_ok, ok0]) ?_ ?_
      · simp [pickObs]
      · simp [hold, upd, tl_cons, rn1, rn0, hw1]
        exact ⟨rfl, rfl, rfl⟩
    · have hN : dA c d (k + 1) = dA c d k := fm_no (fun x : Fil => decide (pidx d.fil x.prio < 0)) (fun x : Fil => chDropF x.prio) c.fil k h (by simpa using hq)
      simp -implicitDefEqProofs [List.lookup_cons, and_assoc, pick_and, pick_or, if_and, if_or, h, cBx, chOb, tOb, hc1, hc2, hd1, hd2, okc, okd, F92, hq, eAppend, eBuildSlice, srcRows, srcOk, chunk]
      refine ⟨k + 1, by omega, by omega, ?_⟩
      rw [hN]
      exact Wk.tlD (m := 3) rfl (by simp [hold, upd, tl_cons, hw1]) (by simp [okL_cons, okL_nil, ok1, ok0]) (okH_cBx _ _ _ (okH_cBx _ _ _ (okH_tR _ _ _ _ _ _ _ _ _ (by simp [okH_nil]))))
  · have e : k = c.fil.length := by omega
    subst e
    rw [show dA c d c.fil.length = p1 c d from rfl]
    simp -implicitDefEqProofs [List.lookup_cons, and_assoc, pick_and, pick_or, if_and, if_or, cBx, chOb, tOb, hc1, hc2, hd1, hd2, eAppend, eBuildSlice, srcRows, srcOk, chunk]
    refine loopP_inv (fun k : Nat => ⟨112, tl [(2, .optr 0 0 0 0), (3, .optr 1 0 0 0), (5, .osl 2 0), (35, .sl (tR c.cls)), (36, I c.cls.length), (37, I k)], [cBx c, cBx d, chOb (p1 c d ++ dB c d k)]⟩) (fun k => k ≤ c.cls.length) (fun k => c.cls.length - k) 0 (Nat.zero_le _) ?_ ?_
    · rw [show p1 c d ++ dB c d 0 = p1 c d from List.append_nil _]
      exact Wk.tl (by simp [hold, upd, tl_cons])
    intro k hk
    by_cases h : k < c.cls.length
    · have hw1 := w64n (show k < 4611686018427387904 by omega)
      have hln : (dB c d k).length ≤ k := fmL_len _ _ _ _
      generalize hP : p1 c d = P
      have hPl : P.length ≤ 4194308 := by rw [← hP]; omega
      by_cases hq : fidx d.cls c.cls[k].id < 0
      · have hN : tR (P ++ dB c d k) ++ [rX ((fun x : Cls => chDropC x.id) c.cls[k])] = tR (P ++ dB c d (k + 1)) := fm_yes P (fun x : Cls => decide (fidx d.cls x.id < 0)) (fun x : Cls => chDropC x.id) c.cls k h (by simpa using hq)
        simp only [chDropC, Chg.rXe] at hN
        simp -implicitDefEqProofs [List.lookup_cons, and_assoc, pick_and, pick_or, if_and, if_or, h, cBx, chOb, tOb, hc1, hc2, hd1, hd2, okc, okd, F72, hq, eAppend, eBuildSlice, srcRows, srcOk, chunk]
        refine ⟨by omega, by omega, k + 1, by omega, by omega, ?_⟩
        rw [hN]
        refine Wk.tlP [0, 1, 2] (by simp [pickOk, -List.all_eq_true, tR_ok, ok0]) ?_ ?_
        · simp [pickObs]
        · simp [hold, upd, tl_cons, rn1, rn0, hw1]
          exact ⟨rfl, rfl, rfl⟩
      · have hN : dB c d (k + 1) = dB c d k := fm_no (fun x : Cls => decide (fidx d.cls x.id < 0)) (fun x : Cls => chDropC x.id) c.cls k h (by simpa using hq)
        simp -implicitDefEqProofs [List.lookup_cons, and_assoc, pick_and, pick_or, if_and, if_or, h, cBx, chOb, tOb, hc1, hc2, hd1, hd2, okc, okd, F72, hq, eAppend, eBuildSlice, srcRows, srcOk, chunk]
        refine ⟨k + 1, by omega, by omega, ?_⟩
        rw [hN]
        exact Wk.tlD (m := 3) rfl (by simp [hold, upd, tl_cons, hw1]) (by simp [okL_cons, okL_nil, ok1, ok0]) (okH_cBx _ _ _ (okH_cBx _ _ _ (okH_tR _ _ _ _ _ _ _ _ _ (by simp [okH_nil]))))
    · have e : k = c.cls.length := by omega
      subst e
      rw [show p1 c d ++ dB c d c.cls.length = p2 c d from rfl]
      by_cases hnm : (c.name.toList == d.name.toList) = true
      · have hN : p3 c d = p2 c d := by simp only [p3, dC, if_pos hnm, List.append_nil]
        simp -implicitDefEqProofs [List.lookup_cons, and_assoc, pick_and, pick_or, if_and, if_or, cBx, chOb, tOb, hc1, hc2, hd1, hd2, hnm, eAppend, eBuildSlice, srcRows, srcOk, chunk]
        refine loopP_inv (fun k : Nat => ⟨112, tl [(2, .optr 0 0 0 0), (3, .optr 1 0 0 0), (5, .osl 2 0), (65, .sl (tR d.cls)), (66, I d.cls.length), (67, I k)], [cBx c, cBx d, chOb (p3 c d ++ dD c d k)]⟩) (fun k => k ≤ d.cls.length) (fun k => d.cls.length - k) 0 (Nat.zero_le _) ?_ ?_
        · rw [show p3 c d ++ dD c d 0 = p3 c d from List.append_nil _]
          first
            | (rw [hN]; exact Wk.tl (by simp [hold, upd, tl_cons]))
            | (refine Wk.tlP [0, 1, 2] (by simp [pickOk, -List.all_eq_true, tR_ok, ok0]) ?_ ?_
               · first | (simp [pickObs]; done) | (simp [pickObs]; exact ⟨rfl, rfl, rfl⟩)
               · first | (simp [hold, upd, tl_cons, rn1, rn0]; done) | (simp [hold, upd, tl_cons, rn1, rn0]; exact ⟨rfl, rfl, rfl⟩))
        intro k hk
        by_cases h : k < d.cls.length
        · have hw1 := w64n (show k < 4611686018427387904 by omega)
          have hln : (dD c d k).length ≤ k := fmL_len _ _ _ _
          generalize hP : p3 c d = P
          have hPl : P.length ≤ 4194308 := by rw [← hP]; omega
          cases hq : c.cls.any (Cls.eqB d.cls[k]) with
          | false =>
            have hN : tR (P ++ dD c d k) ++ [rX (chPutC d.cls[k])] = tR (P ++ dD c d (k + 1)) := fm_yes P (fun x : Cls => !c.cls.any (Cls.eqB x)) chPutC d.cls k h (by simp only [hq]; rfl)
            simp only [chPutC, Chg.rXe] at hN
            simp -implicitDefEqProofs [List.lookup_cons, and_assoc, pick_and, pick_or, if_and, if_or, h, cBx, chOb, tOb, hc1, hc2, hd1, hd2, okc, okd, F45, hq, -List.any_eq_false, eAppend, eBuildSlice, srcRows, srcOk, chunk]
            refine ⟨by omega, by omega, k + 1, by omega, by omega, ?_⟩
            rw [hN]
            refine Wk.tlP [0, 1, 2] (by simp [pickOk, -List.all_eq_true, tR_ok, ok0]) ?_ ?_
            · simp [pickObs]
            · simp [hold, upd, tl_cons, rn1, rn0, hw1]
              exact ⟨rfl, rfl, rfl⟩
          | true =>
            have hN : dD c d (k + 1) = dD c d k := fm_no (fun x : Cls => !c.cls.any (Cls.eqB x)) chPutC d.cls k h (by simp only [hq]; rfl)
            simp -implicitDefEqProofs [List.lookup_cons, and_assoc, pick_and, pick_or, if_and, if_or, h, cBx, chOb, tOb, hc1, hc2, hd1, hd2, okc, okd, F45, hq, -List.any_eq_true, eAppend, eBuildSlice, srcRows, srcOk, chunk]
            refine ⟨k + 1, by omega, by omega, ?_⟩
            rw [hN]
            exact Wk.tlD (m := 3) rfl (by simp [hold, upd, tl_cons, hw1]) (by simp [okL_cons, okL_nil, ok1, ok0]) (okH_cBx _ _ _ (okH_cBx _ _ _ (okH_tR _ _ _ _ _ _ _ _ _ (by simp [okH_nil]))))
        · have e : k = d.cls.length := by omega
          subst e
          rw [show p3 c d ++ dD c d d.cls.length = p4 c d from rfl]
          simp -implicitDefEqProofs [List.lookup_cons, and_assoc, pick_and, pick_or, if_and, if_or, cBx, chOb, tOb, hc1, hc2, hd1, hd2, eAppend, eBuildSlice, srcRows, srcOk, chunk]
          refine loopP_inv (fun k : Nat => ⟨112, tl [(2, .optr 0 0 0 0), (3, .optr 1 0 0 0), (5, .osl 2 0), (83, .sl (tR d.fil)), (84, I d.fil.length), (85, I k)], [cBx c, cBx d, chOb (p4 c d ++ dE c d k)]⟩) (fun k => k ≤ d.fil.length) (fun k => d.fil.length - k) 0 (Nat.zero_le _) ?_ ?_
          · rw [show p4 c d ++ dE c d 0 = p4 c d from List.append_nil _]
            exact Wk.tl (by simp [hold, upd, tl_cons])
          intro k hk
          by_cases h : k < d.fil.length
          · have hw1 := w64n (show k < 4611686018427387904 by omega)
            have hln : (dE c d k).length ≤ k := fmL_len _ _ _ _
            generalize hP : p4 c d = P
            have hPl : P.length ≤ 4194308 := by rw [← hP]; omega
            cases hq : c.fil.any (Fil.eqB d.fil[k]) with
            | false =>
              have hN : tR (P ++ dE c d k) ++ [rX (chPutF d.fil[k])] = tR (P ++ dE c d (k + 1)) := fm_yes P (fun x : Fil => !c.fil.any (Fil.eqB x)) chPutF d.fil k h (by simp only [hq]; rfl)
              simp only [chPutF, Chg.rXe] at hN
              simp -implicitDefEqProofs [List.lookup_cons, and_assoc, pick_and, pick_or, if_and, if_or, h, cBx, chOb, tOb, hc1, hc2, hd1, hd2, okc, okd, F93, hq, -List.any_eq_false, eAppend, eBuildSlice, srcRows, srcOk, chunk]
              refine ⟨by omega, by omega, k + 1, by omega, by omega, ?_⟩
              rw [hN]
              refine Wk.tlP [0, 1, 2] (by simp [pickOk, -List.all_eq_true, tR_ok, ok0]) ?_ ?_
              · simp [pickObs]
              · simp [hold, upd, tl_cons, rn1, rn0, hw1]
                exact ⟨rfl, rfl, rfl⟩
            | true =>
              have hN : dE c d (k + 1) = dE c d k := fm_no (fun x : Fil => !c.fil.any (Fil.eqB x)) chPutF d.fil k h (by simp only [hq]; rfl)
              simp -implicitDefEqProofs [List.lookup_cons, and_assoc, pick_and, pick_or, if_and, if_or, h, cBx, chOb, tOb, hc1, hc2, hd1, hd2, okc, okd, F93, hq, -List.any_eq_true, eAppend, eBuildSlice, srcRows, srcOk, chunk]
              refine ⟨k + 1, by omega, by omega, ?_⟩
              rw [hN]
              exact Wk.tlD (m := 3) rfl (by simp [hold, upd, tl_cons, hw1]) (by simp [okL_cons, okL_nil, ok1, ok0]) (okH_cBx _ _ _ (okH_cBx _ _ _ (okH_tR _ _ _ _ _ _ _ _ _ (by simp [okH_nil]))))
          · have e : k = d.fil.length := by omega
            subst e
            rw [show p4 c d ++ dE c d d.fil.length = p5 c d from rfl]
            by_cases hdf : c.dflt = d.dflt
            · have hN : diffL c d = p5 c d := by simp only [diffL, dF, if_pos hdf, List.append_nil]
              simp -implicitDefEqProofs [List.lookup_cons, and_assoc, pick_and, pick_or, if_and, if_or, cBx, chOb, tOb, hdf, eAppend, eBuildSlice, srcRows, srcOk, chunk]
              refine fin_own [2] (by simp [pickOk, -List.all_eq_true, tR_ok]) ?_
              simp -implicitDefEqProofs [pur2_i, pur2_b, pur2_s, pur2_nil, pur2_sl, pur2_tup, rn2_tup, rn2_agg, rn2_osl, rn1_v, rn1_osl, rn1_agg, rn0_v, rn0_sl, rn0, pickObs, pur_v, pur_b, pur_s, pur_nil, pur_sl, deI, deIs_sl, chOb, tOb, hN]
            · have hN : tR (p5 c d) ++ [rX (chDef d.dflt)] = tR (diffL c d) := by simp only [diffL, dF, if_neg hdf, tR_one, tR_append]
              simp only [chDef, Chg.rXe] at hN
              simp -implicitDefEqProofs [List.lookup_cons, and_assoc, pick_and, pick_or, if_and, if_or, cBx, chOb, tOb, hdf, eAppend, eBuildSlice, srcRows, srcOk, chunk]
              refine ⟨by omega, by omega, ?_⟩
              rw [hN]
              refine fin_own [2] (by simp [pickOk, -List.all_eq_true, tR_ok]) ?_
              simp -implicitDefEqProofs [pur2_i, pur2_b, pur2_s, pur2_nil, pur2_sl, pur2_tup, rn2_tup, rn2_agg, rn2_osl, rn1_v, rn1_osl, rn1_agg, rn0_v, rn0_sl, rn0, pickObs, pur_v, pur_b, pur_s, pur_nil, pur_sl, deI, deIs_sl, chOb, tOb]
      · have hnm0 : (c.name.toList == d.name.toList) = false := not_true hnm
        have hN : tR (p2 c d) ++ [rX (chName d.name)] = tR (p3 c d) := by simp only [p3, dC, hnm0, Bool.false_eq_true, if_false, tR_one, tR_append]
        simp only [chName, Chg.rXe] at hN
        simp -implicitDefEqProofs [List.lookup_cons, and_assoc, pick_and, pick_or, if_and, if_or, cBx, chOb, tOb, hc1, hc2, hd1, hd2, hnm0, eAppend, eBuildSlice, srcRows, srcOk, chunk]
        refine ⟨by omega, by omega, ?_⟩
        rw [hN]
        refine loopP_inv (fun k : Nat => ⟨112, tl [(2, .optr 0 0 0 0), (3, .optr 1 0 0 0), (5, .osl 2 0), (65, .sl (tR d.cls)), (66, I d.cls.length), (67, I k)], [cBx c, cBx d, chOb (p3 c d ++ dD c d k)]⟩) (fun k => k ≤ d.cls.length) (fun k => d.cls.length - k) 0 (Nat.zero_le _) ?_ ?_
        · rw [show p3 c d ++ dD c d 0 = p3 c d from List.append_nil _]
          first
            | (rw [hN]; exact Wk.tl (by simp [hold, upd, tl_cons]))
            | (refine Wk.tlP [0, 1, 2] (by simp [pickOk, -List.all_eq_true, tR_ok, ok0]) ?_ ?_
               · first | (simp [pickObs]; done) | (simp [pickObs]; exact ⟨rfl, rfl, rfl⟩)
               · first | (simp [hold, upd, tl_cons, rn1, rn0]; done) | (simp [hold, upd, tl_cons, rn1, rn0]; exact ⟨rfl, rfl, rfl⟩))
        intro k hk
        by_cases h : k < d.cls.length
        · have hw1 := w64n (show k < 4611686018427387904 by omega)
          have hln : (dD c d k).length ≤ k := fmL_len _ _ _ _
          generalize hP : p3 c d = P
          have hPl : P.length ≤ 4194308 := by rw [← hP]; omega
          cases hq : c.cls.any (Cls.eqB d.cls[k]) with
          | false =>
            have hN : tR (P ++ dD c d k) ++ [rX (chPutC d.cls[k])] = tR (P ++ dD c d (k + 1)) := fm_yes P (fun x : Cls => !c.cls.any (Cls.eqB x)) chPutC d.cls k h (by simp only [hq]; rfl)
            simp only [chPutC, Chg.rXe] at hN
            simp -implicitDefEqProofs [List.lookup_cons, and_assoc, pick_and, pick_or, if_and, if_or, h, cBx, chOb, tOb, hc1, hc2, hd1, hd2, okc, okd, F45, hq, -List.any_eq_false, eAppend, eBuildSlice, srcRows, srcOk, chunk]
            refine ⟨by omega, by omega, k + 1, by omega, by omega, ?_⟩
            rw [hN]
            refine Wk.tlP [0, 1, 2] (by simp [pickOk, -List.all_eq_true, tR_ok, ok0]) ?_ ?_
            · simp [pickObs]
            · simp [hold, upd, tl_cons, rn1, rn0, hw1]
              exact ⟨rfl, rfl, rfl⟩
          | true =>
            have hN : dD c d (k + 1) = dD c d k := fm_no (fun x : Cls => !c.cls.any (Cls.eqB x)) chPutC d.cls k h (by simp only [hq]; rfl)
            simp -implicitDefEqProofs [List.lookup_cons, and_assoc, pick_and, pick_or, if_and, if_or, h, cBx, chOb, tOb, hc1, hc2, hd1, hd2, okc, okd, F45, hq, -List.any_eq_true, eAppend, eBuildSlice, srcRows, srcOk, chunk]
            refine ⟨k + 1, by omega, by omega, ?_⟩
            rw [hN]
            exact Wk.tlD (m := 3) rfl (by simp [hold, upd, tl_cons, hw1]) (by simp [okL_cons, okL_nil, ok1, ok0]) (okH_cBx _ _ _ (okH_cBx _ _ _ (okH_tR _ _ _ _ _ _ _ _ _ (by simp [okH_nil]))))
        · have e : k = d.cls.length := by omega
          subst e
          rw [show p3 c d ++ dD c d d.cls.length = p4 c d from rfl]
          simp -implicitDefEqProofs [List.lookup_cons, and_assoc, pick_and, pick_or, if_and, if_or, cBx, chOb, tOb, hc1, hc2, hd1, hd2, eAppend, eBuildSlice, srcRows, srcOk, chunk]
          refine loopP_inv (fun k : Nat => ⟨112, tl [(2, .optr 0 0 0 0), (3, .optr 1 0 0 0), (5, .osl 2 0), (83, .sl (tR d.fil)), (84, I d.fil.length), (85, I k)], [cBx c, cBx d, chOb (p4 c d ++ dE c d k)]⟩) (fun k => k ≤ d.fil.length) (fun k => d.fil.length - k) 0 (Nat.zero_le _) ?_ ?_
          · rw [show p4 c d ++ dE c d 0 = p4 c d from List.append_nil _]
            exact Wk.tl (by simp [hold, upd, tl_cons])
          intro k hk
          by_cases h : k < d.fil.length
          · have hw1 := w64n (show k < 4611686018427387904 by omega)
            have hln : (dE c d k).length ≤ k := fmL_len _ _ _ _
            generalize hP : p4 c d = P
            have hPl : P.length ≤ 4194308 := by rw [← hP]; omega
            cases hq : c.fil.any (Fil.eqB d.fil[k]) with
            | false =>
              have hN : tR (P ++ dE c d k) ++ [rX (chPutF d.fil[k])] = tR (P ++ dE c d (k + 1)) := fm_yes P (fun x : Fil => !c.fil.any (Fil.eqB x)) chPutF d.fil k h (by simp only [hq]; rfl)
              simp only [chPutF, Chg.rXe] at hN
              simp -implicitDefEqProofs [List.lookup_cons, and_assoc, pick_and, pick_or, if_and, if_or, h, cBx, chOb, tOb, hc1, hc2, hd1, hd2, okc, okd, F93, hq, -List.any_eq_false, eAppend, eBuildSlice, srcRows, srcOk, chunk]
              refine ⟨by omega, by omega, k + 1, by omega, by omega, ?_⟩
              rw [hN]
              refine Wk.tlP [0, 1, 2] (by simp [pickOk, -List.all_eq_true, tR_ok, ok0]) ?_ ?_
              · simp [pickObs]
              · simp [hold, upd, tl_cons, rn1, rn0, hw1]
                exact ⟨rfl, rfl, rfl⟩
            | true =>
              have hN : dE c d (k + 1) = dE c d k := fm_no (fun x : Fil => !c.fil.any (Fil.eqB x)) chPutF d.fil k h (by simp only [hq]; rfl)
              simp -implicitDefEqProofs [List.lookup_cons, and_assoc, pick_and, pick_or, if_and, if_or, h, cBx, chOb, tOb, hc1, hc2, hd1, hd2, okc, okd, F93, hq, -List.any_eq_true, eAppend, eBuildSlice, srcRows, srcOk, chunk]
              refine ⟨k + 1, by omega, by omega, ?_⟩
              rw [hN]
              exact Wk.tlD (m := 3) rfl (by simp [hold, upd, tl_cons, hw1]) (by simp [okL_cons, okL_nil, ok1, ok0]) (okH_cBx _ _ _ (okH_cBx _ _ _ (okH_tR _ _ _ _ _ _ _ _ _ (by simp [okH_nil]))))
          · have e : k = d.fil.length := by omega
            subst e
            rw [show p4 c d ++ dE c d d.fil.length = p5 c d from rfl]
            by_cases hdf : c.dflt = d.dflt
            · have hN : diffL c d = p5 c d := by simp only [diffL, dF, if_pos hdf, List.append_nil]
              simp -implicitDefEqProofs [List.lookup_cons, and_assoc, pick_and, pick_or, if_and, if_or, cBx, chOb, tOb, hdf, eAppend, eBuildSlice, srcRows, srcOk, chunk]
              refine fin_own [2] (by simp [pickOk, -List.all_eq_true, tR_ok]) ?_
              simp -implicitDefEqProofs [pur2_i, pur2_b, pur2_s, pur2_nil, pur2_sl, pur2_tup, rn2_tup, rn2_agg, rn2_osl, rn1_v, rn1_osl, rn1_agg, rn0_v, rn0_sl, rn0, pickObs, pur_v, pur_b, pur_s, pur_nil, pur_sl, deI, deIs_sl, chOb, tOb, hN]
            · have hN : tR (p5 c d) ++ [rX (chDef d.dflt)] = tR (diffL c d) := by simp only [diffL, dF, if_neg hdf, tR_one, tR_append]
              simp only [chDef, Chg.rXe] at hN
              simp -implicitDefEqProofs [List.lookup_cons, and_assoc, pick_and, pick_or, if_and, if_or, cBx, chOb, tOb, hdf, eAppend, eBuildSlice, srcRows, srcOk, chunk]
              refine ⟨by omega, by omega, ?_⟩
              rw [hN]
              refine fin_own [2] (by simp [pickOk, -List.all_eq_true, tR_ok]) ?_
              simp -implicitDefEqProofs [pur2_i, pur2_b, pur2_s, pur2_nil, pur2_sl, pur2_tup, rn2_tup, rn2_agg, rn2_osl, rn1_v, rn1_osl, rn1_agg, rn0_v, rn0_sl, rn0, pickObs, pur_v, pur_b, pur_s, pur_nil, pur_sl, deI, deIs_sl, chOb, tOb]
theorem c56 : GenCA K Tryd.prog 56 F57 := by
  refine contractA Tryd.mix K [(91, F92), (41, F72)] [] (by simp [c91, c41]) (by simp) Tryd.func56 rfl (by decide) ?_
  intro xs hxs
  obtain ⟨c, d, rfl, hp⟩ := F57_in hxs
  rw [F57_res]
  refine ⟨by rw [Tryd.ntmps56]; simp, ?_⟩
  obtain ⟨⟨hc1, hc2, hc3⟩, ⟨hd1, hd2, hd3⟩, hgc⟩ := hp
  have okc : okC c := ⟨hc1, hc2, hc3⟩
  have okd : okC d := ⟨hd1, hd2, hd3⟩
  have hcg := hgc
  rw [isCfg_eq] at hcg
  have huc := cfg_up hcg
  have hup := cfg_upF hcg
  have b1 := p1_len c d
  have b2 := p2_len c d
  have b3 := p3_len c d
  have b4 := p4_len c d
  have b5 := p5_len c d
  simp -implicitDefEqProofs [Tryd.f56, List.lookup_cons, and_assoc, pick_and, pick_or, if_and, if_or, hc1, hc2, hd1, hd2, eBuildSlice, srcRows, srcOk, chunk]
  refine loopP_inv (fun k : Nat => ⟨133, tl [(2, .optr 0 0 0 0), (3, .optr 1 0 0 0), (5, .osl 2 0), (17, .sl (tR c.fil)), (18, I c.fil.length), (19, I k)], [cBx c, cBx d, chOb (dA c d k)]⟩) (fun k => k ≤ c.fil.length) (fun k => c.fil.length - k) 0 (Nat.zero_le _) ?_ ?_
  · exact Wk.tlN (h := [cBx c, cBx d]) 67 16 5 (by simp [upd]) (by simp [hold, upd, tl_cons])
  intro k hk
  by_cases h : k < c.fil.length
  · have hw1 := w64n (show k < 4611686018427387904 by omega)
    have hln : (dA c d k).length ≤ k := fmL_len _ _ _ _
    by_cases hq : pidx d.fil c.fil[k].prio < 0
    · have hN : tR (dA c d k) ++ [rX ((fun x : Fil => chDropF x.prio) c.fil[k])] = tR (dA c d (k + 1)) := fm_yes0 (fun x : Fil => decide (pidx d.fil x.prio < 0)) (fun x : Fil => chDropF x.prio) c.fil k h (by simpa using hq)
      simp only [chDropF, Chg.rXe] at hN
      simp -implicitDefEqProofs [List.lookup_cons, and_assoc, pick_and, pick_or, if_and, if_or, h, cBx, chOb, tOb, hc1, hc2, hd1, hd2, okc, okd, F92, hq, eAppend, eBuildSlice, srcRows, srcOk, chunk]
      refine ⟨by omega, by omega, k + 1, by omega, by omega, ?_⟩
      rw [hN]
      refine Wk.tlP [0, 1, 2] (by simp [pickOk, -List.all_eq_true, tR_ok, ok0]) ?_ ?_
      · simp [pickObs]
      · simp [hold, upd, tl_cons, rn1, rn0, hw1]
        exact ⟨rfl, rfl, rfl⟩
    · have hN : dA c d (k + 1) = dA c d k := fm_no (fun x : Fil => decide (pidx d.fil x.prio < 0)) (fun x : Fil => chDropF x.prio) c.fil k h (by simpa using hq)
      simp -implicitDefEqProofs [List.lookup_cons, and_assoc, pick_and, pick_or, if_and, if_or, h, cBx, chOb, tOb, hc1, hc2, hd1, hd2, okc, okd, F92, hq, eAppend, eBuildSlice, srcRows, srcOk, chunk]
      refine ⟨k + 1, by omega, by omega, ?_⟩
      rw [hN]
      exact Wk.tlD (m := 3) rfl (by simp [hold, upd, tl_cons, hw1]) (by simp [okL_cons, okL_nil, ok1, ok0]) (okH_cBx _ _ _ (okH_cBx _ _ _ (okH_tR _ _ _ _ _ _ _ _ _ (by simp [okH_nil]))))
  · have e : k = c.fil.length := by omega
    subst e
    rw [show dA c d c.fil.length = p1 c d from rfl]
    simp -implicitDefEqProofs [List.lookup_cons, and_assoc, pick_and, pick_or, if_and, if_or, cBx, chOb, tOb, hc1, hc2, hd1, hd2, eAppend, eBuildSlice, srcRows, srcOk, chunk]
    refine loopP_inv (fun k : Nat => ⟨133, tl [(2, .optr 0 0 0 0), (3, .optr 1 0 0 0), (5, .osl 2 0), (36, .sl (tR c.cls)), (37, I c.cls.length), (38, I k)], [cBx c, cBx d, chOb (p1 c d ++ dB c d k)]⟩) (fun k => k ≤ c.cls.length) (fun k => c.cls.length - k) 0 (Nat.zero_le _) ?_ ?_
    · rw [show p1 c d ++ dB c d 0 = p1 c d from List.append_nil _]
      exact Wk.tl (by simp [hold, upd, tl_cons])
    intro k hk
    by_cases h : k < c.cls.length
    · have hw1 := w64n (show k < 4611686018427387904 by omega)
      have hln : (dB c d k).length ≤ k := fmL_len _ _ _ _
      generalize hP : p1 c d = P
      have hPl : P.length ≤ 4194308 := by rw [← hP]; omega
      by_cases hq : fidx d.cls c.cls[k].id < 0
      · have hN : tR (P ++ dB c d k) ++ [rX ((fun x : Cls => chDropC x.id) c.cls[k])] = tR (P ++ dB c d (k + 1)) := fm_yes P (fun x : Cls => decide (fidx d.cls x.id < 0)) (fun x : Cls => chDropC x.id) c.cls k h (by simpa using hq)
        simp only [chDropC, Chg.rXe] at hN
        simp -implicitDefEqProofs [List.lookup_cons, and_assoc, pick_and, pick_or, if_and, if_or, h, cBx, chOb, tOb, hc1, hc2, hd1, hd2, okc, okd, F72, hq, eAppend, eBuildSlice, srcRows, srcOk, chunk]
        refine ⟨by omega, by omega, k + 1, by omega, by omega, ?_⟩
        rw [hN]
        refine Wk.tlP [0, 1, 2] (by simp [pickOk, -List.all_eq_true, tR_ok, ok0]) ?_ ?_
        · simp [pickObs]
        · simp [hold, upd, tl_cons, rn1, rn0, hw1]
          exact ⟨rfl, rfl, rfl⟩
      · have hN : dB c d (k + 1) = dB c d k := fm_no (fun x : Cls => decide (fidx d.cls x.id < 0)) (fun x : Cls => chDropC x.id) c.cls k h (by simpa using hq)
        simp -implicitDefEqProofs [List.lookup_cons, and_assoc, pick_and, pick_or, if_and, if_or, h, cBx, chOb, tOb, hc1, hc2, hd1, hd2, okc, okd, F72, hq, eAppend, eBuildSlice, srcRows, srcOk, chunk]
        refine ⟨k + 1, by omega, by omega, ?_⟩
        rw [hN]
        exact Wk.tlD (m := 3) rfl (by simp [hold, upd, tl_cons, hw1]) (by simp [okL_cons, okL_nil, ok1, ok0]) (okH_cBx _ _ _ (okH_cBx _ _ _ (okH_tR _ _ _ _ _ _ _ _ _ (by simp [okH_nil]))))
    · have e : k = c.cls.length := by omega
      subst e
      rw [show p1 c d ++ dB c d c.cls.length = p2 c d from rfl]
      by_cases hnm : (c.name.toList == d.name.toList) = true
      · have hN : p3 c d = p2 c d := by simp only [p3, dC, if_pos hnm, List.append_nil]
        simp -implicitDefEqProofs [List.lookup_cons, and_assoc, pick_and, pick_or, if_and, if_or, cBx, chOb, tOb, hc1, hc2, hd1, hd2, hnm, eAppend, eBuildSlice, srcRows, srcOk, chunk]
        refine loopP_inv (fun k : Nat => ⟨133, tl [(2, .optr 0 0 0 0), (3, .optr 1 0 0 0), (5, .osl 2 0), (66, .sl (tR d.cls)), (67, I d.cls.length), (68, I k)], [cBx c, cBx d, chOb (p3 c d ++ dD c d k)]⟩) (fun k => k ≤ d.cls.length) (fun k => d.cls.length - k) 0 (Nat.zero_le _) ?_ ?_
        · rw [show p3 c d ++ dD c d 0 = p3 c d from List.append_nil _]
          first
            | (rw [hN]; exact Wk.tl (by simp [hold, upd, tl_cons]))
            | (refine Wk.tlP [0, 1, 2] (by simp [pickOk, -List.all_eq_true, tR_ok, ok0]) ?_ ?_
               · first | (simp [pickObs]; done) | (simp [pickObs]; exact ⟨rfl, rfl, rfl⟩)
               · first | (simp [hold, upd, tl_cons, rn1, rn0]; done) | (simp [hold, upd, tl_cons, rn1, rn0]; exact ⟨rfl, rfl, rfl⟩))
        intro k hk
        by_cases h : k < d.cls.length
        · have hw1 := w64n (show k < 4611686018427387904 by omega)
          have hln : (dD c d k).length ≤ k := fmL_len _ _ _ _
          generalize hP : p3 c d = P
          have hPl : P.length ≤ 4194308 := by rw [← hP]; omega
          simp -implicitDefEqProofs [List.lookup_cons, and_assoc, pick_and, pick_or, if_and, if_or, h, cBx, chOb, tOb, hc1, hc2, hd1, hd2, okc, okd, F72, eAppend, eBuildSlice, srcRows, srcOk, chunk]
          refine drawP_all _ (by decide) ?_
          cases hq : c.cls.any (Cls.eqB d.cls[k]) with
          | true =>
            have hN : dD c d (k + 1) = dD c d k := fm_no (fun x : Cls => !c.cls.any (Cls.eqB x)) chPutC d.cls k h (by simp only [hq]; rfl)
            obtain ⟨y, hy, hye⟩ := List.any_eq_true.1 hq
            rw [← (Cls.eqB_iff _ _).1 hye] at hy
            obtain ⟨j, hj, hje⟩ := List.getElem_of_mem hy
            have hf : fidx c.cls d.cls[k].id = (j : Int) := by rw [← hje]; exact fidx_at huc j hj
            simp -implicitDefEqProofs [List.lookup_cons, and_assoc, pick_and, pick_or, if_and, if_or, h, cBx, chOb, tOb, hc1, hc2, hd1, hd2, okc, okd, hf, hj, hje, show ¬ (j : Int) < 0 by omega, planEq, eAppend, eBuildSlice, srcRows, srcOk, chunk]
            refine ⟨k + 1, by omega, by omega, ?_⟩
            rw [hN]
            exact Wk.tlD (m := 3) rfl (by simp [hold, upd, tl_cons, hw1]) (by simp [okL_cons, okL_nil, ok1, ok0]) (okH_cBx _ _ _ (okH_cBx _ _ _ (okH_tR _ _ _ _ _ _ _ _ _ (by simp [okH_nil]))))
          | false =>
            have hN : tR (P ++ dD c d k) ++ [rX (chPutC d.cls[k])] = tR (P ++ dD c d (k + 1)) := fm_yes P (fun x : Cls => !c.cls.any (Cls.eqB x)) chPutC d.cls k h (by simp only [hq]; rfl)
            simp only [chPutC, Chg.rXe] at hN
            by_cases hf0 : 0 ≤ fidx c.cls d.cls[k].id
            · obtain ⟨j, hf⟩ := Int.eq_ofNat_of_zero_le hf0
              obtain ⟨hj, hid⟩ := fidx_id hf
              have hne : ¬ c.cls[j] = d.cls[k] := fun e => by
                have : c.cls.any (Cls.eqB d.cls[k]) = true := List.any_eq_true.2 ⟨c.cls[j], List.getElem_mem hj, (Cls.eqB_iff _ _).2 e.symm⟩
                rw [this] at hq; cases hq
              simp -implicitDefEqProofs [List.lookup_cons, and_assoc, pick_and, pick_or, if_and, if_or, h, cBx, chOb, tOb, hc1, hc2, hd1, hd2, okc, okd, hf, hj, show ¬ (j : Int) < 0 by omega, planEq, eAppend, eBuildSlice, srcRows, srcOk, chunk]
              refine ⟨fun _ => ?_, fun a1 a2 a3 a4 a5 a6 a7 a8 => (hne ((Cls.eqB_iff _ _).1 (by simp [Cls.eqB, a1, a2, a3, a4, a5, a6, a7, a8]))).elim⟩
              refine ⟨by omega, by omega, k + 1, by omega, by omega, ?_⟩
              rw [hN]
              refine Wk.tlP [0, 1, 2] (by simp [pickOk, -List.all_eq_true, tR_ok, ok0]) ?_ ?_
              · simp [pickObs]
              · simp [hold, upd, tl_cons, rn1, rn0, hw1]
                exact ⟨rfl, rfl, rfl⟩
            · simp -implicitDefEqProofs [List.lookup_cons, and_assoc, pick_and, pick_or, if_and, if_or, h, cBx, chOb, tOb, hc1, hc2, hd1, hd2, okc, okd, hf0, show fidx c.cls d.cls[k].id < 0 by omega, planEq, eAppend, eBuildSlice, srcRows, srcOk, chunk]
              refine ⟨by omega, by omega, k + 1, by omega, by omega, ?_⟩
              rw [hN]
              refine Wk.tlP [0, 1, 2] (by simp [pickOk, -List.all_eq_true, tR_ok, ok0]) ?_ ?_
              · simp [pickObs]
              · simp [hold, upd, tl_cons, rn1, rn0, hw1]
                exact ⟨rfl, rfl, rfl⟩
        · have e : k = d.cls.length := by omega
          subst e
          rw [show p3 c d ++ dD c d d.cls.length = p4 c d from rfl]
          simp -implicitDefEqProofs [List.lookup_cons, and_assoc, pick_and, pick_or, if_and, if_or, cBx, chOb, tOb, hc1, hc2, hd1, hd2, eAppend, eBuildSlice, srcRows, srcOk, chunk]
          refine loopP_inv (fun k : Nat => ⟨133, tl [(2, .optr 0 0 0 0), (3, .optr 1 0 0 0), (5, .osl 2 0), (94, .sl (tR d.fil)), (95, I d.fil.length), (96, I k)], [cBx c, cBx d, chOb (p4 c d ++ dE c d k)]⟩) (fun k => k ≤ d.fil.length) (fun k => d.fil.length - k) 0 (Nat.zero_le _) ?_ ?_
          · rw [show p4 c d ++ dE c d 0 = p4 c d from List.append_nil _]
            exact Wk.tl (by simp [hold, upd, tl_cons])
          intro k hk
          by_cases h : k < d.fil.length
          · have hw1 := w64n (show k < 4611686018427387904 by omega)
            have hln : (dE c d k).length ≤ k := fmL_len _ _ _ _
            generalize hP : p4 c d = P
            have hPl : P.length ≤ 4194308 := by rw [← hP]; omega
            simp -implicitDefEqProofs [List.lookup_cons, and_assoc, pick_and, pick_or, if_and, if_or, h, cBx, chOb, tOb, hc1, hc2, hd1, hd2, okc, okd, F92, eAppend, eBuildSlice, srcRows, srcOk, chunk]
            refine drawP_all _ (by decide) ?_
            cases hq : c.fil.any (Fil.eqB d.fil[k]) with
            | true =>
              have hN : dE c d (k + 1) = dE c d k := fm_no (fun x : Fil => !c.fil.any (Fil.eqB x)) chPutF d.fil k h (by simp only [hq]; rfl)
              obtain ⟨y, hy, hye⟩ := List.any_eq_true.1 hq
              rw [← (Fil.eqB_iff _ _).1 hye] at hy
              obtain ⟨j, hj, hje⟩ := List.getElem_of_mem hy
              have hf : pidx c.fil d.fil[k].prio = (j : Int) := by rw [← hje]; exact pidx_at hup j hj
              simp -implicitDefEqProofs [List.lookup_cons, and_assoc, pick_and, pick_or, if_and, if_or, h, cBx, chOb, tOb, hc1, hc2, hd1, hd2, okc, okd, hf, hj, hje, show ¬ (j : Int) < 0 by omega, planEq, eAppend, eBuildSlice, srcRows, srcOk, chunk]
              refine ⟨k + 1, by omega, by omega, ?_⟩
              rw [hN]
              exact Wk.tlD (m := 3) rfl (by simp [hold, upd, tl_cons, hw1]) (by simp [okL_cons, okL_nil, ok1, ok0]) (okH_cBx _ _ _ (okH_cBx _ _ _ (okH_tR _ _ _ _ _ _ _ _ _ (by simp [okH_nil]))))
            | false =>
              have hN : tR (P ++ dE c d k) ++ [rX (chPutF d.fil[k])] = tR (P ++ dE c d (k + 1)) := fm_yes P (fun x : Fil => !c.fil.any (Fil.eqB x)) chPutF d.fil k h (by simp only [hq]; rfl)
              simp only [chPutF, Chg.rXe] at hN
              by_cases hf0 : 0 ≤ pidx c.fil d.fil[k].prio
              · obtain ⟨j, hf⟩ := Int.eq_ofNat_of_zero_le hf0
                obtain ⟨hj, hid⟩ := pidx_id hf
                have hne : ¬ c.fil[j] = d.fil[k] := fun e => by
                  have : c.fil.any (Fil.eqB d.fil[k]) = true := List.any_eq_true.2 ⟨c.fil[j], List.getElem_mem hj, (Fil.eqB_iff _ _).2 e.symm⟩
                  rw [this] at hq; cases hq
                simp -implicitDefEqProofs [List.lookup_cons, and_assoc, pick_and, pick_or, if_and, if_or, h, cBx, chOb, tOb, hc1, hc2, hd1, hd2, okc, okd, hf, hj, show ¬ (j : Int) < 0 by omega, planEq, eAppend, eBuildSlice, srcRows, srcOk, chunk]
                refine ⟨fun _ => ?_, fun a1 a2 a3 a4 a5 => (hne ((Fil.eqB_iff _ _).1 (by simp [Fil.eqB, a1, a2, a3, a4, a5]))).elim⟩
                refine ⟨by omega, by omega, k + 1, by omega, by omega, ?_⟩
                rw [hN]
                refine Wk.tlP [0, 1, 2] (by simp [pickOk, -List.all_eq_true, tR_ok, ok0]) ?_ ?_
                · simp [pickObs]
                · simp [hold, upd, tl_cons, rn1, rn0, hw1]
                  exact ⟨rfl, rfl, rfl⟩
              · simp -implicitDefEqProofs [List.lookup_cons, and_assoc, pick_and, pick_or, if_and, if_or, h, cBx, chOb, tOb, hc1, hc2, hd1, hd2, okc, okd, hf0, show pidx c.fil d.fil[k].prio < 0 by omega, planEq, eAppend, eBuildSlice, srcRows, srcOk, chunk]
                refine ⟨by omega, by omega, k + 1, by omega, by omega, ?_⟩
                rw [hN]
                refine Wk.tlP [0, 1, 2] (by simp [pickOk, -List.all_eq_true, tR_ok, ok0]) ?_ ?_
                · simp [pickObs]
                · simp [hold, upd, tl_cons, rn1, rn0, hw1]
                  exact ⟨rfl, rfl, rfl⟩
          · have e : k = d.fil.length := by omega
            subst e
            rw [show p4 c d ++ dE c d d.fil.length = p5 c d from rfl]
            by_cases hdf : c.dflt = d.dflt
            · have hN : diffL c d = p5 c d := by simp only [diffL, dF, if_pos hdf, List.append_nil]
              simp -implicitDefEqProofs [List.lookup_cons, and_assoc, pick_and, pick_or, if_and, if_or, cBx, chOb, tOb, hdf, eAppend, eBuildSlice, srcRows, srcOk, chunk]
              refine fin_own [2] (by simp [pickOk, -List.all_eq_true, tR_ok]) ?_
              simp -implicitDefEqProofs [pur2_i, pur2_b, pur2_s, pur2_nil, pur2_sl, pur2_tup, rn2_tup, rn2_agg, rn2_osl, rn1_v, rn1_osl, rn1_agg, rn0_v, rn0_sl, rn0, pickObs, pur_v, pur_b, pur_s, pur_nil, pur_sl, deI, deIs_sl, chOb, tOb, hN]
            · have hN : tR (p5 c d) ++ [rX (chDef d.dflt)] = tR (diffL c d) := by simp only [diffL, dF, if_neg hdf, tR_one, tR_append]
              simp only [chDef, Chg.rXe] at hN
              simp -implicitDefEqProofs [List.lookup_cons, and_assoc, pick_and, pick_or, if_and, if_or, cBx, chOb, tOb, hdf, eAppend, eBuildSlice, srcRows, srcOk, chunk]
              refine ⟨by omega, by omega, ?_⟩
              rw [hN]
              refine fin_own [2] (by simp [pickOk, -List.all_eq_true, tR_ok]) ?_
              simp -implicitDefEqProofs [pur2_i, pur2_b, pur2_s, pur2_nil, pur2_sl, pur2_tup, rn2_tup, rn2_agg, rn2_osl, rn1_v, rn1_osl, rn1_agg, rn0_v, rn0_sl, rn0, pickObs, pur_v, pur_b, pur_s, pur_nil, pur_sl, deI, deIs_sl, chOb, tOb]
      · have hnm0 : (c.name.toList == d.name.toList) = false := not_true hnm
        have hN : tR (p2 c d) ++ [rX (chName d.name)] = tR (p3 c d) := by simp only [p3, dC, hnm0, Bool.false_eq_true, if_false, tR_one, tR_append]
        simp only [chName, Chg.rXe] at hN
        simp -implicitDefEqProofs [List.lookup_cons, and_assoc, pick_and, pick_or, if_and, if_or, cBx, chOb, tOb, hc1, hc2, hd1, hd2, hnm0, eAppend, eBuildSlice, srcRows, srcOk, chunk]
        refine ⟨by omega, by omega, ?_⟩
        rw [hN]
        refine loopP_inv (fun k : Nat => ⟨133, tl [(2, .optr 0 0 0 0), (3, .optr 1 0 0 0), (5, .osl 2 0), (66, .sl (tR d.cls)), (67, I d.cls.length), (68, I k)], [cBx c, cBx d, chOb (p3 c d ++ dD c d k)]⟩) (fun k => k ≤ d.cls.length) (fun k => d.cls.length - k) 0 (Nat.zero_le _) ?_ ?_
        · rw [show p3 c d ++ dD c d 0 = p3 c d from List.append_nil _]
          first
            | (rw [hN]; exact Wk.tl (by simp [hold, upd, tl_cons]))
            | (refine Wk.tlP [0, 1, 2] (by simp [pickOk, -List.all_eq_true, tR_ok, ok0]) ?_ ?_
               · first | (simp [pickObs]; done) | (simp [pickObs]; exact ⟨rfl, rfl, rfl⟩)
               · first | (simp [hold, upd, tl_cons, rn1, rn0]; done) | (simp [hold, upd, tl_cons, rn1, rn0]; exact ⟨rfl, rfl, rfl⟩))
        intro k hk
        by_cases h : k < d.cls.length
        · have hw1 := w64n (show k < 4611686018427387904 by omega)
          have hln : (dD c d k).length ≤ k := fmL_len _ _ _ _
          generalize hP : p3 c d = P
          have hPl : P.length ≤ 4194308 := by rw [← hP]; omega
          simp -implicitDefEqProofs [List.lookup_cons, and_assoc, pick_and, pick_or, if_and, if_or, h, cBx, chOb, tOb, hc1, hc2, hd1, hd2, okc, okd, F72, eAppend, eBuildSlice, srcRows, srcOk, chunk]
          refine drawP_all _ (by decide) ?_
          cases hq : c.cls.any (Cls.eqB d.cls[k]) with
          | true =>
            have hN : dD c d (k + 1) = dD c d k := fm_no (fun x : Cls => !c.cls.any (Cls.eqB x)) chPutC d.cls k h (by simp only [hq]; rfl)
            obtain ⟨y, hy, hye⟩ := List.any_eq_true.1 hq
            rw [← (Cls.eqB_iff _ _).1 hye] at hy
            obtain ⟨j, hj, hje⟩ := List.getElem_of_mem hy
            have hf : fidx c.cls d.cls[k].id = (j : Int) := by rw [← hje]; exact fidx_at huc j hj
            simp -implicitDefEqProofs [List.lookup_cons, and_assoc, pick_and, pick_or, if_and, if_or, h, cBx, chOb, tOb, hc1, hc2, hd1, hd2, okc, okd, hf, hj, hje, show ¬ (j : Int) < 0 by omega, planEq, eAppend, eBuildSlice, srcRows, srcOk, chunk]
            refine ⟨k + 1, by omega, by omega, ?_⟩
            rw [hN]
            exact Wk.tlD (m := 3) rfl (by simp [hold, upd, tl_cons, hw1]) (by simp [okL_cons, okL_nil, ok1, ok0]) (okH_cBx _ _ _ (okH_cBx _ _ _ (okH_tR _ _ _ _ _ _ _ _ _ (by simp [okH_nil]))))
          | false =>
            have hN : tR (P ++ dD c d k) ++ [rX (chPutC d.cls[k])] = tR (P ++ dD c d (k + 1)) := fm_yes P (fun x : Cls => !c.cls.any (Cls.eqB x)) chPutC d.cls k h (by simp only [hq]; rfl)
            simp only [chPutC, Chg.rXe] at hN
            by_cases hf0 : 0 ≤ fidx c.cls d.cls[k].id
            · obtain ⟨j, hf⟩ := Int.eq_ofNat_of_zero_le hf0
              obtain ⟨hj, hid⟩ := fidx_id hf
              have hne : ¬ c.cls[j] = d.cls[k] := fun e => by
                have : c.cls.any (Cls.eqB d.cls[k]) = true := List.any_eq_true.2 ⟨c.cls[j], List.getElem_mem hj, (Cls.eqB_iff _ _).2 e.symm⟩
                rw [this] at hq; cases hq
              simp -implicitDefEqProofs [List.lookup_cons, and_assoc, pick_and, pick_or, if_and, if_or, h, cBx, chOb, tOb, hc1, hc2, hd1, hd2, okc, okd, hf, hj, show ¬ (j : Int) < 0 by omega, planEq, eAppend, eBuildSlice, srcRows, srcOk, chunk]
              refine ⟨fun _ => ?_, fun a1 a2 a3 a4 a5 a6 a7 a8 => (hne ((Cls.eqB_iff _ _).1 (by simp [Cls.eqB, a1, a2, a3, a4, a5, a6, a7, a8]))).elim⟩
              refine ⟨by omega, by omega, k + 1, by omega, by omega, ?_⟩
              rw [hN]
              refine Wk.tlP [0, 1, 2] (by simp [pickOk, -List.all_eq_true, tR_ok, ok0]) ?_ ?_
              · simp [pickObs]
              · simp [hold, upd, tl_cons, rn1, rn0, hw1]
                exact ⟨rfl, rfl, rfl⟩
            · simp -implicitDefEqProofs [List.lookup_cons, and_assoc, pick_and, pick_or, if_and, if_or, h, cBx, chOb, tOb, hc1, hc2, hd1, hd2, okc, okd, hf0, show fidx c.cls d.cls[k].id < 0 by omega, planEq, eAppend, eBuildSlice, srcRows, srcOk, chunk]
              refine ⟨by omega, by omega, k + 1, by omega, by omega, ?_⟩
              rw [hN]
              refine Wk.tlP [0, 1, 2] (by simp [pickOk, -List.all_eq_true, tR_ok, ok0]) ?_ ?_
              · simp [pickObs]
              · simp [hold, upd, tl_cons, rn1, rn0, hw1]
                exact ⟨rfl, rfl, rfl⟩
        · have e : k = d.cls.length := by omega
          subst e
          rw [show p3 c d ++ dD c d d.cls.length = p4 c d from rfl]
          simp -implicitDefEqProofs [List.lookup_cons, and_assoc, pick_and, pick_or, if_and, if_or, cBx, chOb, tOb, hc1, hc2, hd1, hd2, eAppend, eBuildSlice, srcRows, srcOk, chunk]
          refine loopP_inv (fun k : Nat => ⟨133, tl [(2, .optr 0 0 0 0), (3, .optr 1 0 0 0), (5, .osl 2 0), (94, .sl (tR d.fil)), (95, I d.fil.length), (96, I k)], [cBx c, cBx d, chOb (p4 c d ++ dE c d k)]⟩) (fun k => k ≤ d.fil.length) (fun k => d.fil.length - k) 0 (Nat.zero_le _) ?_ ?_
          · rw [show p4 c d ++ dE c d 0 = p4 c d from List.append_nil _]
            exact Wk.tl (by simp [hold, upd, tl_cons])
          intro k hk
          by_cases h : k < d.fil.length
          · have hw1 := w64n (show k < 4611686018427387904 by omega)
            have hln : (dE c d k).length ≤ k := fmL_len _ _ _ _
            generalize hP : p4 c d = P
            have hPl : P.length ≤ 4194308 := by rw [← hP]; omega
            simp -implicitDefEqProofs [List.lookup_cons, and_assoc, pick_and, pick_or, if_and, if_or, h, cBx, chOb, tOb, hc1, hc2, hd1, hd2, okc, okd, F92, eAppend, eBuildSlice, srcRows, srcOk, chunk]
            refine drawP_all _ (by decide) ?_
            cases hq : c.fil.any (Fil.eqB d.fil[k]) with
            | true =>
              have hN : dE c d (k + 1) = dE c d k := fm_no (fun x : Fil => !c.fil.any (Fil.eqB x)) chPutF d.fil k h (by simp only [hq]; rfl)
              obtain ⟨y, hy, hye⟩ := List.any_eq_true.1 hq
              rw [← (Fil.eqB_iff _ _).1 hye] at hy
              obtain ⟨j, hj, hje⟩ := List.getElem_of_mem hy
              have hf : pidx c.fil d.fil[k].prio = (j : Int) := by rw [← hje]; exact pidx_at hup j hj
              simp -implicitDefEqProofs [List.lookup_cons, and_assoc, pick_and, pick_or, if_and, if_or, h, cBx, chOb, tOb, hc1, hc2, hd1, hd2, okc, okd, hf, hj, hje, show ¬ (j : Int) < 0 by omega, planEq, eAppend, eBuildSlice, srcRows, srcOk, chunk]
              refine ⟨k + 1, by omega, by omega, ?_⟩
              rw [hN]
              exact Wk.tlD (m := 3) rfl (by simp [hold, upd, tl_cons, hw1]) (by simp [okL_cons, okL_nil, ok1, ok0]) (okH_cBx _ _ _ (okH_cBx _ _ _ (okH_tR _ _ _ _ _ _ _ _ _ (by simp [okH_nil]))))
            | false =>
              have hN : tR (P ++ dE c d k) ++ [rX (chPutF d.fil[k])] = tR (P ++ dE c d (k + 1)) := fm_yes P (fun x : Fil => !c.fil.any (Fil.eqB x)) chPutF d.fil k h (by simp only [hq]; rfl)
              simp only [chPutF, Chg.rXe] at hN
              by_cases hf0 : 0 ≤ pidx c.fil d.fil[k].prio
              · obtain ⟨j, hf⟩ := Int.eq_ofNat_of_zero_le hf0
                obtain ⟨hj, hid⟩ := pidx_id hf
                have hne : ¬ c.fil[j] = d.fil[k] := fun e => by
                  have : c.fil.any (Fil.eqB d.fil[k]) = true := List.any_eq_true.2 ⟨c.fil[j], List.getElem_mem hj, (Fil.eqB_iff _ _).2 e.symm⟩
                  rw [this] at hq; cases hq
                simp -implicitDefEqProofs [List.lookup_cons, and_assoc, pick_and, pick_or, if_and, if_or, h, cBx, chOb, tOb, hc1, hc2, hd1, hd2, okc, okd, hf, hj, show ¬ (j : Int) < 0 by omega, planEq, eAppend, eBuildSlice, srcRows, srcOk, chunk]
                refine ⟨fun _ => ?_, fun a1 a2 a3 a4 a5 => (hne ((Fil.eqB_iff _ _).1 (by simp [Fil.eqB, a1, a2, a3, a4, a5]))).elim⟩
                refine ⟨by omega, by omega, k + 1, by omega, by omega, ?_⟩
                rw [hN]
                refine Wk.tlP [0, 1, 2] (by simp [pickOk, -List.all_eq_true, tR_ok, ok0]) ?_ ?_
                · simp [pickObs]
                · simp [hold, upd, tl_cons, rn1, rn0, hw1]
                  exact ⟨rfl, rfl, rfl⟩
              · simp -implicitDefEqProofs [List.lookup_cons, and_assoc, pick_and, pick_or, if_and, if_or, h, cBx, chOb, tOb, hc1, hc2, hd1, hd2, okc, okd, hf0, show pidx c.fil d.fil[k].prio < 0 by omega, planEq, eAppend, eBuildSlice, srcRows, srcOk, chunk]
                refine ⟨by omega, by omega, k + 1, by omega, by omega, ?_⟩
                rw [hN]
                refine Wk.tlP [0, 1, 2] (by simp [pickOk, -List.all_eq_true, tR_ok, ok0]) ?_ ?_
                · simp [pickObs]
                · simp [hold, upd, tl_cons, rn1, rn0, hw1]
                  exact ⟨rfl, rfl, rfl⟩
          · have e : k = d.fil.length := by omega
            subst e
            rw [show p4 c d ++ dE c d d.fil.length = p5 c d from rfl]
            by_cases hdf : c.dflt = d.dflt
            · have hN : diffL c d = p5 c d := by simp only [diffL, dF, if_pos hdf, List.append_nil]
              simp -implicitDefEqProofs [List.lookup_cons, and_assoc, pick_and, pick_or, if_and, if_or, cBx, chOb, tOb, hdf, eAppend, eBuildSlice, srcRows, srcOk, chunk]
              refine fin_own [2] (by simp [pickOk, -List.all_eq_true, tR_ok]) ?_
              simp -implicitDefEqProofs [pur2_i, pur2_b, pur2_s, pur2_nil, pur2_sl, pur2_tup, rn2_tup, rn2_agg, rn2_osl, rn1_v, rn1_osl, rn1_agg, rn0_v, rn0_sl, rn0, pickObs, pur_v, pur_b, pur_s, pur_nil, pur_sl, deI, deIs_sl, chOb, tOb, hN]
            · have hN : tR (p5 c d) ++ [rX (chDef d.dflt)] = tR (diffL c d) := by simp only [diffL, dF, if_neg hdf, tR_one, tR_append]
              simp only [chDef, Chg.rXe] at hN
              simp -implicitDefEqProofs [List.lookup_cons, and_assoc, pick_and, pick_or, if_and, if_or, cBx, chOb, tOb, hdf, eAppend, eBuildSlice, srcRows, srcOk, chunk]
              refine ⟨by omega, by omega, ?_⟩
              rw [hN]
              refine fin_own [2] (by simp [pickOk, -List.all_eq_true, tR_ok]) ?_
              simp -implicitDefEqProofs [pur2_i, pur2_b, pur2_s, pur2_nil, pur2_sl, pur2_tup, rn2_tup, rn2_agg, rn2_osl, rn1_v, rn1_osl, rn1_agg, rn0_v, rn0_sl, rn0, pickObs, pur_v, pur_b, pur_s, pur_nil, pur_sl, deI, deIs_sl, chOb, tOb]
end Go.Proofs
