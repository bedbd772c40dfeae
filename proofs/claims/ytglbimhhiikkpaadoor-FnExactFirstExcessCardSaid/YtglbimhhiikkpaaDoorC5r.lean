/-
  What is proved here: contracts of the condition on the filters, of all ten conditions, and of IsConfig. Condition: none.
-/
import Derived.Test.YtglbimhhiikkpaaDoorC4r
namespace Go.Proofs
open Go.Abs
set_option linter.unusedSimpArgs false
set_option linter.unnecessarySimpa false
set_option linter.unusedVariables false
set_option maxHeartbeats 4000000
set_option maxRecDepth 20000

def filP (l : List Cls) (f : List Fil) (i : Nat) : Bool := (atF f i).ok && (decide (i = 0) || decide ((atF f (i - 1)).prio < (atF f i).prio)) && targetOk l (atF f i).target
def F129 : Fun := ⟨fun xs => xs = [.agg (cX (deC (xs.getD 0 .top) : Cfg))] ∧ (fun (c : Cfg) => (okC c)) (deC (xs.getD 0 .top) : Cfg), fun xs => (fun (c : Cfg) => ((B (filOk c.cls c.fil), []) : X × List Ob)) (deC (xs.getD 0 .top) : Cfg)⟩
theorem F129_in {xs : List X} (h : F129.pre xs) : ∃ (c : Cfg), xs = [.agg (cX c)] ∧ (okC c) := ⟨_, h.1, h.2⟩
theorem F129_res (c : Cfg) : F129.res [.agg (cX c)] = (B (filOk c.cls c.fil), []) := by simp [F129]
theorem F129_mk (c : Cfg) (h : okC c) : F129.pre [.agg (cX c)] := by simpa [F129] using h
theorem c129 : GenCA K Tryd.prog 129 F129 := by
  refine contractA Tryd.mix K [(103, F103), (89, F89)] [] (by simp [c103, c89]) (by simp) Tryd.func129 rfl (by decide) ?_
  intro xs hxs
  obtain ⟨c, rfl, hp⟩ := F129_in hxs
  rw [F129_res]
  refine ⟨by rw [Tryd.ntmps129]; simp, ?_⟩
  have hl := hp.2.1
  simp -implicitDefEqProofs [Tryd.f129, List.lookup_cons, and_assoc, pick_and, pick_or, if_and, if_or]
  refine loopP_inv (fun k : Nat => ⟨44, tl [(1, .optr 0 0 0 0), (6, .sl (tR c.fil)), (7, I c.fil.length), (8, I k)], [cBx c]⟩) (fun k => k ≤ c.fil.length ∧ (List.range k).all (filP c.cls c.fil) = true) (fun k => c.fil.length - k) 0 (by simp) (Wk.tl (by simp [hold, upd, tl_cons])) ?_
  rintro k ⟨hk, ha⟩
  by_cases h : k < c.fil.length
  · have hw1 := w64n (show k < 4611686018427387904 by omega)
    have hbad : filP c.cls c.fil k = false → filOk c.cls c.fil = false := fun hb => by
      have := all_rb (filP c.cls c.fil) c.fil.length k h hb
      show ((List.range c.fil.length).all (filP c.cls c.fil) && _) = false
      rw [this]; rfl
    have hgood : filP c.cls c.fil k = true → (List.range (k + 1)).all (filP c.cls c.fil) = true := fun hb => by rw [all_r, ha, hb]; rfl
    cases hr : c.fil[k].ok with
    | false =>
      have hb := hbad (by simp [filP, atF_eq h, hr])
      simp -implicitDefEqProofs [List.lookup_cons, and_assoc, pick_and, pick_or, if_and, if_or, h, cBx]
      refine drawP_all _ (by decide) ?_
      simp -implicitDefEqProofs [List.lookup_cons, and_assoc, pick_and, pick_or, if_and, if_or, h, cBx, F103, F89, hr]
      refine fin_pure (by simp) ?_
      simp -implicitDefEqProofs [pur2_i, pur2_b, pur2_s, pur2_nil, pur2_sl, pur2_tup, rn2_tup, rn2_agg, rn2_osl, rn1_v, rn1_osl, rn1_agg, rn0_v, rn0_sl, rn0, pickObs, pur_v, pur_b, pur_s, pur_nil, pur_sl, deI, deIs_sl, hb]
    | true =>
      by_cases hk0 : k = 0
      · subst hk0
        cases ht : targetOk c.cls c.fil[0].target with
        | true =>
          have hg := hgood (by simp [filP, atF_eq h, hr, ht])
          simp -implicitDefEqProofs [List.lookup_cons, and_assoc, pick_and, pick_or, if_and, if_or, h, cBx]
          refine drawP_all _ (by decide) ?_
          simp -implicitDefEqProofs [List.lookup_cons, and_assoc, pick_and, pick_or, if_and, if_or, h, cBx, F103, F89, hr, hp, ht]
          refine ⟨1, by omega, by simpa using hg, by omega, ?_⟩
          exact Wk.tlD (m := 1) rfl (by simp [hold, upd, tl_cons, show IntKind.i64.wrap (1 : Int) = 1 from by decide]) (by simp [okL_cons, okL_nil, ok1, ok0]) (okH_cBx _ _ _ (by simp [okH_nil]))
        | false =>
          have hb := hbad (by simp [filP, atF_eq h, hr, ht])
          simp -implicitDefEqProofs [List.lookup_cons, and_assoc, pick_and, pick_or, if_and, if_or, h, cBx]
          refine drawP_all _ (by decide) ?_
          simp -implicitDefEqProofs [List.lookup_cons, and_assoc, pick_and, pick_or, if_and, if_or, h, cBx, F103, F89, hr, hp, ht]
          refine fin_pure (by simp) ?_
          simp -implicitDefEqProofs [pur2_i, pur2_b, pur2_s, pur2_nil, pur2_sl, pur2_tup, rn2_tup, rn2_agg, rn2_osl, rn1_v, rn1_osl, rn1_agg, rn0_v, rn0_sl, rn0, pickObs, pur_v, pur_b, pur_s, pur_nil, pur_sl, deI, deIs_sl, hb]
      · obtain ⟨j, hjk⟩ : ∃ j, k - 1 = j := ⟨_, rfl⟩
        have hj : j < c.fil.length := by omega
        have hw0 : IntKind.i64.wrap ((k : Int) - 1) = j := by rw [w64 (by omega) (by omega)]; omega
        have hp0 : 0 < k := by omega
        by_cases hlt : c.fil[j].prio < c.fil[k].prio
        · have hn : ¬ c.fil[k].prio ≤ c.fil[j].prio := by omega
          cases ht : targetOk c.cls c.fil[k].target with
          | true =>
            have hg := hgood (by simp [filP, hjk, atF_eq h, atF_eq hj, hr, hlt, ht])
            simp -implicitDefEqProofs [List.lookup_cons, and_assoc, pick_and, pick_or, if_and, if_or, h, cBx]
            refine drawP_all _ (by decide) ?_
            simp -implicitDefEqProofs [List.lookup_cons, and_assoc, pick_and, pick_or, if_and, if_or, h, hj, cBx, F103, F89, hr, hp, ht, hw0, hp0, hn]
            refine ⟨k + 1, by omega, by simpa using hg, by omega, ?_⟩
            exact Wk.tlD (m := 1) rfl (by simp [hold, upd, tl_cons, hw1]) (by simp [okL_cons, okL_nil, ok1, ok0]) (okH_cBx _ _ _ (by simp [okH_nil]))
          | false =>
            have hb := hbad (by simp [filP, hjk, atF_eq h, atF_eq hj, hr, hlt, ht])
            simp -implicitDefEqProofs [List.lookup_cons, and_assoc, pick_and, pick_or, if_and, if_or, h, cBx]
            refine drawP_all _ (by decide) ?_
            simp -implicitDefEqProofs [List.lookup_cons, and_assoc, pick_and, pick_or, if_and, if_or, h, hj, cBx, F103, F89, hr, hp, ht, hw0, hp0, hn]
            refine fin_pure (by simp) ?_
            simp -implicitDefEqProofs [pur2_i, pur2_b, pur2_s, pur2_nil, pur2_sl, pur2_tup, rn2_tup, rn2_agg, rn2_osl, rn1_v, rn1_osl, rn1_agg, rn0_v, rn0_sl, rn0, pickObs, pur_v, pur_b, pur_s, pur_nil, pur_sl, deI, deIs_sl, hb]
        · have hb := hbad (by simp [filP, hk0, hjk, atF_eq h, atF_eq hj, hlt])
          have hn : c.fil[k].prio ≤ c.fil[j].prio := by omega
          simp -implicitDefEqProofs [List.lookup_cons, and_assoc, pick_and, pick_or, if_and, if_or, h, cBx]
          refine drawP_all _ (by decide) ?_
          simp -implicitDefEqProofs [List.lookup_cons, and_assoc, pick_and, pick_or, if_and, if_or, h, hj, cBx, F103, F89, hr, hp, hw0, hp0, hn]
          refine fin_pure (by simp) ?_
          simp -implicitDefEqProofs [pur2_i, pur2_b, pur2_s, pur2_nil, pur2_sl, pur2_tup, rn2_tup, rn2_agg, rn2_osl, rn1_v, rn1_osl, rn1_agg, rn0_v, rn0_sl, rn0, pickObs, pur_v, pur_b, pur_s, pur_nil, pur_sl, deI, deIs_sl, hb]
  · have e : k = c.fil.length := by omega
    subst e
    have h2 : filOk c.cls c.fil = decide (c.fil.length ≤ 16) := by
      show ((List.range c.fil.length).all (filP c.cls c.fil) && _) = _
      rw [ha]; rfl
    simp -implicitDefEqProofs [List.lookup_cons, and_assoc, pick_and, pick_or, if_and, if_or, cBx]
    refine fin_pure (by simp) ?_
    simp -implicitDefEqProofs [pur2_i, pur2_b, pur2_s, pur2_nil, pur2_sl, pur2_tup, rn2_tup, rn2_agg, rn2_osl, rn1_v, rn1_osl, rn1_agg, rn0_v, rn0_sl, rn0, pickObs, pur_v, pur_b, pur_s, pur_nil, pur_sl, deI, deIs_sl, h2]
    omega

def prR1 (_ : List X) (x : Cls) : Bool := !x.rateOk
def prR2 (_ : List X) (x : Cls) : Bool := !x.burstOk
theorem c124 : GenCA K Tryd.prog 124 (FPr cp0 prR1) := by
  refine contractA Tryd.mix K [(101, F101)] [] (by simp [c101]) (by simp) Tryd.func124 rfl (by decide) ?_
  intro xs hxs
  obtain ⟨x, rfl⟩ := cpr hxs
  have hres : (FPr cp0 prR1).res [.agg (rX x)] = (B (!x.rateOk), []) := by simp only [FPr, List.getD_cons_zero, List.tail_cons, deA_agg, dec_rX, prR1]
  rw [hres]
  refine ⟨by rw [Tryd.ntmps124]; simp, ?_⟩
  simp -implicitDefEqProofs [Tryd.f124, List.lookup_cons, and_assoc, pick_and, pick_or, if_and, if_or, F101]
  refine fin_pure (by simp) ?_
  simp -implicitDefEqProofs [pur2_i, pur2_b, pur2_s, pur2_nil, pur2_sl, pur2_tup, rn2_tup, rn2_agg, rn2_osl, rn1_v, rn1_osl, rn1_agg, rn0_v, rn0_sl, rn0, pickObs, pur_v, pur_b, pur_s, pur_nil, pur_sl, deI, deIs_sl]
theorem c127 : GenCA K Tryd.prog 127 (FPr cp0 prR2) := by
  refine contractA Tryd.mix K [(102, F102)] [] (by simp [c102]) (by simp) Tryd.func127 rfl (by decide) ?_
  intro xs hxs
  obtain ⟨x, rfl⟩ := cpr hxs
  have hres : (FPr cp0 prR2).res [.agg (rX x)] = (B (!x.burstOk), []) := by simp only [FPr, List.getD_cons_zero, List.tail_cons, deA_agg, dec_rX, prR2]
  rw [hres]
  refine ⟨by rw [Tryd.ntmps127]; simp, ?_⟩
  simp -implicitDefEqProofs [Tryd.f127, List.lookup_cons, and_assoc, pick_and, pick_or, if_and, if_or, F102]
  refine fin_pure (by simp) ?_
  simp -implicitDefEqProofs [pur2_i, pur2_b, pur2_s, pur2_nil, pur2_sl, pur2_tup, rn2_tup, rn2_agg, rn2_osl, rn1_v, rn1_osl, rn1_agg, rn0_v, rn0_sl, rn0, pickObs, pur_v, pur_b, pur_s, pur_nil, pur_sl, deI, deIs_sl]
end Go.Proofs
