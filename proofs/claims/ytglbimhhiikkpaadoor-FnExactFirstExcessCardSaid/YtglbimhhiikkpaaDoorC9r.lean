/-
  What is proved here: contracts of the reference's judgement of filters and of a configuration. Condition: none.
-/
import Derived.Test.YtglbimhhiikkpaaDoorC8r
namespace Go.Proofs
open Go.Abs
set_option linter.unusedSimpArgs false
set_option linter.unnecessarySimpa false
set_option linter.unusedVariables false
set_option maxHeartbeats 8000000
set_option maxRecDepth 20000

theorem c78 : GenCA K Tryd.prog 78 F129 := by
  refine contractA Tryd.mix K [(119, F119), (79, F89)] [] (by simp [c119, c79]) (by simp) Tryd.func78 rfl (by decide) ?_
  intro xs hxs
  obtain ⟨c, rfl, hp⟩ := F129_in hxs
  rw [F129_res]
  refine ⟨by rw [Tryd.ntmps78]; simp, ?_⟩
  have hl := hp.2.1
  simp -implicitDefEqProofs [Tryd.f78, List.lookup_cons, and_assoc, pick_and, pick_or, if_and, if_or]
  refine loopP_inv (fun k : Nat => ⟨44, tl [(1, .optr 0 0 0 0), (6, .sl (tR c.fil)), (7, I c.fil.length), (8, I k)], [cBx c]⟩) (fun k => k ≤ c.fil.length ∧ (List.range k).all (filP c.cls c.fil) = true) (fun k => c.fil.length - k) 0 (by simp) (Wk.tl (by simp [hold, upd, tl_cons])) ?_
  rintro k ⟨hk, ha⟩
  by_cases h : k < c.fil.length
  · have hw1 := w64n (show k < 4611686018427387904 by omega)
    have hbad : filP c.cls c.fil k = false → filOk c.cls c.fil = false := fun hb => by
      have := all_rb (filP c.cls c.fil) c.fil.length k h hb
      show ((List.range c.fil.length).all (filP c.cls c.fil) && _) = false
      rw [this]; rfl
    have hgood : filP c.cls c.fil k = true → (List.range (k + 1)).all (filP c.cls c.fil) = true := fun hb => by rw [all_r, ha, hb]; rfl
    cases hr : c.fil[k].ok with
    | false =>
      have hb := hbad (by simp [filP, atF_eq h, hr])
      simp -implicitDefEqProofs [List.lookup_cons, and_assoc, pick_and, pick_or, if_and, if_or, h, cBx]
      refine drawP_all _ (by decide) ?_
      simp -implicitDefEqProofs [List.lookup_cons, and_assoc, pick_and, pick_or, if_and, if_or, h, cBx, F119, F89, hr]
      refine fin_pure (by simp) ?_
      simp -implicitDefEqProofs [pur2_i, pur2_b, pur2_s, pur2_nil, pur2_sl, pur2_tup, rn2_tup, rn2_agg, rn2_osl, rn1_v, rn1_osl, rn1_agg, rn0_v, rn0_sl, rn0, pickObs, pur_v, pur_b, pur_s, pur_nil, pur_sl, deI, deIs_sl, hb]
    | true =>
      by_cases hk0 : k = 0
      · subst hk0
        cases ht : targetOk c.cls c.fil[0].target with
        | true =>
          have hg := hgood (by simp [filP, atF_eq h, hr, ht])
          simp -implicitDefEqProofs [List.lookup_cons, and_assoc, pick_and, pick_or, if_and, if_or, h, cBx]
          refine drawP_all _ (by decide) ?_
          simp -implicitDefEqProofs [List.lookup_cons, and_assoc, pick_and, pick_or, if_and, if_or, h, cBx, F119, F89, hr, hp, ht]
          refine ⟨1, by omega, by simpa using hg, by omega, ?_⟩
          exact Wk.tlD (m := 1) rfl (by simp [hold, upd, tl_cons, show IntKind.i64.wrap (1 : Int) = 1 from by decide]) (by simp [okL_cons, okL_nil, ok1, ok0]) (okH_cBx _ _ _ (by simp [okH_nil]))
        | false =>
          have hb := hbad (by simp [filP, atF_eq h, hr, ht])
          simp -implicitDefEqProofs [List.lookup_cons, and_assoc, pick_and, pick_or, if_and, if_or, h, cBx]
          refine drawP_all _ (by decide) ?_
          simp -implicitDefEqProofs [List.lookup_cons, and_assoc, pick_and, pick_or, if_and, if_or, h, cBx, F119, F89, hr, hp, ht]
          refine fin_pure (by simp) ?_
          simp -implicitDefEqProofs [pur2_i, pur2_b, pur2_s, pur2_nil, pur2_sl, pur2_tup, rn2_tup, rn2_agg, rn2_osl, rn1_v, rn1_osl, rn1_agg, rn0_v, rn0_sl, rn0, pickObs, pur_v, pur_b, pur_s, pur_nil, pur_sl, deI, deIs_sl, hb]
      · obtain ⟨j, hjk⟩ : ∃ j, k - 1 = j := ⟨_, rfl⟩
        have hj : j < c.fil.length := by omega
        have hw0 : IntKind.i64.wrap ((k : Int) - 1) = j := by rw [w64 (by omega) (by omega)]; omega
        have hp0 : 0 < k := by omega
        by_cases hlt : c.fil[j].prio < c.fil[k].prio
        · have hn : ¬ c.fil[k].prio ≤ c.fil[j].prio := by omega
          cases ht : targetOk c.cls c.fil[k].target with
          | true =>
            have hg := hgood (by simp [filP, hjk, atF_eq h, atF_eq hj, hr, hlt, ht])
            simp -implicitDefEqProofs [List.lookup_cons, and_assoc, pick_and, pick_or, if_and, if_or, h, cBx]
            refine drawP_all _ (by decide) ?_
            simp -implicitDefEqProofs [List.lookup_cons, and_assoc, pick_and, pick_or, if_and, if_or, h, hj, cBx, F119, F89, hr, hp, ht, hw0, hp0, hn]
            refine ⟨k + 1, by omega, by simpa using hg, by omega, ?_⟩
            exact Wk.tlD (m := 1) rfl (by simp [hold, upd, tl_cons, hw1]) (by simp [okL_cons, okL_nil, ok1, ok0]) (okH_cBx _ _ _ (by simp [okH_nil]))
          | false =>
            have hb := hbad (by simp [filP, hjk, atF_eq h, atF_eq hj, hr, hlt, ht])
            simp -implicitDefEqProofs [List.lookup_cons, and_assoc, pick_and, pick_or, if_and, if_or, h, cBx]
            refine drawP_all _ (by decide) ?_
            simp -implicitDefEqProofs [List.lookup_cons, and_assoc, pick_and, pick_or, if_and, if_or, h, hj, cBx, F119, F89, hr, hp, ht, hw0, hp0, hn]
            refine fin_pure (by simp) ?_
            simp -implicitDefEqProofs [pur2_i, pur2_b, pur2_s, pur2_nil, pur2_sl, pur2_tup, rn2_tup, rn2_agg, rn2_osl, rn1_v, rn1_osl, rn1_agg, rn0_v, rn0_sl, rn0, pickObs, pur_v, pur_b, pur_s, pur_nil, pur_sl, deI, deIs_sl, hb]
        · have hb := hbad (by simp [filP, hk0, hjk, atF_eq h, atF_eq hj, hlt])
          have hn : c.fil[k].prio ≤ c.fil[j].prio := by omega
          simp -implicitDefEqProofs [List.lookup_cons, and_assoc, pick_and, pick_or, if_and, if_or, h, cBx]
          refine drawP_all _ (by decide) ?_
          simp -implicitDefEqProofs [List.lookup_cons, and_assoc, pick_and, pick_or, if_and, if_or, h, hj, cBx, F119, F89, hr, hp, hw0, hp0, hn]
          refine fin_pure (by simp) ?_
          simp -implicitDefEqProofs [pur2_i, pur2_b, pur2_s, pur2_nil, pur2_sl, pur2_tup, rn2_tup, rn2_agg, rn2_osl, rn1_v, rn1_osl, rn1_agg, rn0_v, rn0_sl, rn0, pickObs, pur_v, pur_b, pur_s, pur_nil, pur_sl, deI, deIs_sl, hb]
  · have e : k = c.fil.length := by omega
    subst e
    have h2 : filOk c.cls c.fil = decide (c.fil.length ≤ 16) := by
      show ((List.range c.fil.length).all (filP c.cls c.fil) && _) = _
      rw [ha]; rfl
    simp -implicitDefEqProofs [List.lookup_cons, and_assoc, pick_and, pick_or, if_and, if_or, cBx]
    refine fin_pure (by simp) ?_
    simp -implicitDefEqProofs [pur2_i, pur2_b, pur2_s, pur2_nil, pur2_sl, pur2_tup, rn2_tup, rn2_agg, rn2_osl, rn1_v, rn1_osl, rn1_agg, rn0_v, rn0_sl, rn0, pickObs, pur_v, pur_b, pur_s, pur_nil, pur_sl, deI, deIs_sl, h2]
    omega

theorem c40 : GenCA K Tryd.prog 40 F44 := by
  refine contractA Tryd.mix K [(75, F99), (76, F76), (77, F77), (78, F129), (79, F89)] [] (by simp [c75, c76, c77, c78, c79]) (by simp) Tryd.func40 rfl (by decide) ?_
  intro xs hxs
  obtain ⟨c, rfl, hp⟩ := F44_in hxs
  rw [F44_res, isCfg_eq]
  refine ⟨by rw [Tryd.ntmps40]; simp, ?_⟩
  cases h1 : nmOk c.name with
  | false =>
    simp -implicitDefEqProofs [Tryd.f40, List.lookup_cons, and_assoc, pick_and, pick_or, if_and, if_or, F76, F77, F129, F89, hp, hp.2.2, h1]
    refine fin_pure (by simp) ?_
    simp -implicitDefEqProofs [pur2_i, pur2_b, pur2_s, pur2_nil, pur2_sl, pur2_tup, rn2_tup, rn2_agg, rn2_osl, rn1_v, rn1_osl, rn1_agg, rn0_v, rn0_sl, rn0, pickObs, pur_v, pur_b, pur_s, pur_nil, pur_sl, deI, deIs_sl, cfgOk, h1]
  | true =>
  cases h2 : rng 1 24 (c.cls.length : Int) with
  | false =>
    simp -implicitDefEqProofs [Tryd.f40, List.lookup_cons, and_assoc, pick_and, pick_or, if_and, if_or, F76, F77, F129, F89, hp, hp.2.2, h1, h2]
    refine fin_pure (by simp) ?_
    simp -implicitDefEqProofs [pur2_i, pur2_b, pur2_s, pur2_nil, pur2_sl, pur2_tup, rn2_tup, rn2_agg, rn2_osl, rn1_v, rn1_osl, rn1_agg, rn0_v, rn0_sl, rn0, pickObs, pur_v, pur_b, pur_s, pur_nil, pur_sl, deI, deIs_sl, cfgOk, h2]
  | true =>
  cases h3 : treeOk c.cls with
  | false =>
    simp -implicitDefEqProofs [Tryd.f40, List.lookup_cons, and_assoc, pick_and, pick_or, if_and, if_or, F76, F77, F129, F89, hp, hp.2.2, h1, h2, h3]
    refine fin_pure (by simp) ?_
    simp -implicitDefEqProofs [pur2_i, pur2_b, pur2_s, pur2_nil, pur2_sl, pur2_tup, rn2_tup, rn2_agg, rn2_osl, rn1_v, rn1_osl, rn1_agg, rn0_v, rn0_sl, rn0, pickObs, pur_v, pur_b, pur_s, pur_nil, pur_sl, deI, deIs_sl, cfgOk, h3]
  | true =>
  cases h4 : filOk c.cls c.fil with
  | false =>
    simp -implicitDefEqProofs [Tryd.f40, List.lookup_cons, and_assoc, pick_and, pick_or, if_and, if_or, F76, F77, F129, F89, hp, hp.2.2, h1, h2, h3, h4]
    refine fin_pure (by simp) ?_
    simp -implicitDefEqProofs [pur2_i, pur2_b, pur2_s, pur2_nil, pur2_sl, pur2_tup, rn2_tup, rn2_agg, rn2_osl, rn1_v, rn1_osl, rn1_agg, rn0_v, rn0_sl, rn0, pickObs, pur_v, pur_b, pur_s, pur_nil, pur_sl, deI, deIs_sl, cfgOk, h4]
  | true =>
  by_cases hd : c.dflt = 0
  · have hp0 : okC ⟨c.name, c.cls, c.fil, 0⟩ := hp
    simp -implicitDefEqProofs [Tryd.f40, List.lookup_cons, and_assoc, pick_and, pick_or, if_and, if_or, F76, F77, F129, F89, hp, hp.2.2, h1, h2, h3, h4, hd, hp0]
    refine fin_pure (by simp) ?_
    simp -implicitDefEqProofs [pur2_i, pur2_b, pur2_s, pur2_nil, pur2_sl, pur2_tup, rn2_tup, rn2_agg, rn2_osl, rn1_v, rn1_osl, rn1_agg, rn0_v, rn0_sl, rn0, pickObs, pur_v, pur_b, pur_s, pur_nil, pur_sl, deI, deIs_sl, cfgOk, h1, h2, h3, h4, hd]
  · simp -implicitDefEqProofs [Tryd.f40, List.lookup_cons, and_assoc, pick_and, pick_or, if_and, if_or, F76, F77, F129, F89, hp, hp.2.2, h1, h2, h3, h4, hd]
    refine fin_pure (by simp) ?_
    simp -implicitDefEqProofs [pur2_i, pur2_b, pur2_s, pur2_nil, pur2_sl, pur2_tup, rn2_tup, rn2_agg, rn2_osl, rn1_v, rn1_osl, rn1_agg, rn0_v, rn0_sl, rn0, pickObs, pur_v, pur_b, pur_s, pur_nil, pur_sl, deI, deIs_sl, cfgOk, h1, h2, h3, h4, hd]
end Go.Proofs
