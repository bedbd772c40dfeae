/-
  What is proved here: contracts of the reference's judgement of a configuration. Condition: none.
-/
import Derived.Test.YtglbimhhiikkpaaDoorC7r
namespace Go.Proofs
open Go.Abs
set_option linter.unusedSimpArgs false
set_option linter.unnecessarySimpa false
set_option linter.unusedVariables false
set_option maxHeartbeats 8000000
set_option maxRecDepth 20000

theorem chain_len (l : List Cls) : ∀ (n : Nat) (i : Int), (chain l n i).length ≤ n
  | 0, i => by simp [chain]
  | n + 1, i => by
    simp only [chain]
    by_cases h : i < 0
    · simp [h]
    · have := chain_len l n (nxt l i)
      simp [h]; omega
theorem chain_at (l : List Cls) (i : Nat) (hi : i < l.length) : ∃ n : Nat, ∃ h : n < (chain l 9 i).length, n + 1 = (chain l 9 i).length ∧ (chain l 9 i).getLast?.getD 0 = (chain l 9 i)[n] ∧ ∃ a : Nat, (chain l 9 i)[n] = a ∧ a < l.length := by
  have hr := chain_mem l 9 (i : Int)
  have h0 : ¬ (i : Int) < 0 := by omega
  have he : chain l 9 (i : Int) = (i : Int) :: chain l 8 (nxt l i) := by rw [chain, if_neg h0]
  generalize chain l 9 (i : Int) = r at hr he
  have hlen : 0 < r.length := by rw [he]; simp
  have hn : r.length - 1 < r.length := by omega
  have h2 := hr _ (List.getElem_mem hn)
  have h3 : r[r.length - 1] < (l.length : Int) := by
    rcases h2.2 with e | e
    · rw [e]; omega
    · exact e
  refine ⟨r.length - 1, hn, by omega, ?_, (r[r.length - 1]).toNat, by omega, by omega⟩
  rw [List.getLast?_eq_getElem?, List.getElem?_eq_getElem hn, Option.getD_some]
def upP (l : List Cls) (i : Nat) : Bool := decide (i = 0) || decide ((atC l (i - 1)).id < (atC l i).id)
def nodeOk (l : List Cls) (i : Nat) : Bool := wayOk l i && spareOk l i && limOk l i
theorem treeOk_def (l : List Cls) : treeOk l = (l.all Cls.ok && (List.range l.length).all (upP l) && decide (tops l = 1) && (List.range l.length).all (nodeOk l)) := rfl
theorem rts_of_ok {l : List Cls} (h : l.all Cls.ok = true) : rtsOk l = true := by
  rw [rtsOk, List.all_eq_true]
  intro x hx
  have := List.all_eq_true.1 h x hx
  simp [Cls.ok, Cls.rateOk, rng] at this
  simp [rng]; omega
def F77 : Fun := ⟨fun xs => xs = [.agg (cX (deC (xs.getD 0 .top) : Cfg))] ∧ (fun (c : Cfg) => (okC c)) (deC (xs.getD 0 .top) : Cfg), fun xs => (fun (c : Cfg) => ((B (treeOk c.cls), []) : X × List Ob)) (deC (xs.getD 0 .top) : Cfg)⟩
theorem F77_in {xs : List X} (h : F77.pre xs) : ∃ (c : Cfg), xs = [.agg (cX c)] ∧ (okC c) := ⟨_, h.1, h.2⟩
theorem F77_res (c : Cfg) : F77.res [.agg (cX c)] = (B (treeOk c.cls), []) := by simp [F77]
theorem F77_mk (c : Cfg) (h : okC c) : F77.pre [.agg (cX c)] := by simpa [F77] using h
theorem c77 : GenCA K Tryd.prog 77 F77 := by
  refine contractA Tryd.mix K [(116, F116), (117, F117), (118, F118), (109, F135), (76, F76)] [] (by simp [c116, c117, c118, c109, c76]) (by simp) Tryd.func77 rfl (by decide) ?_
  intro xs hxs
  obtain ⟨c, rfl, hp⟩ := F77_in hxs
  rw [F77_res]
  refine ⟨by rw [Tryd.ntmps77]; simp, ?_⟩
  have hl := hp.1
  have htd := treeOk_def c.cls
  simp -implicitDefEqProofs [Tryd.f77, List.lookup_cons, and_assoc, pick_and, pick_or, if_and, if_or]
  refine loopP_inv (fun k : Nat => ⟨99, tl [(1, .optr 0 0 0 0), (3, I (topsU c.cls k)), (10, .sl (tR c.cls)), (11, I c.cls.length), (12, I k)], [cBx c]⟩) (fun k => k ≤ c.cls.length ∧ (c.cls.take k).all Cls.ok = true ∧ (List.range k).all (upP c.cls) = true) (fun k => c.cls.length - k) 0 (by simp) (Wk.tl (by simp [hold, upd, tl_cons, topsU])) ?_
  rintro k ⟨hk, ha, hu⟩
  by_cases h : k < c.cls.length
  · have hw1 := w64n (show k < 4611686018427387904 by omega)
    have hS := topsU_succ c.cls k h
    have hb := topsU_le c.cls k
    have hw2 : IntKind.i64.wrap (topsU c.cls k + 1) = topsU c.cls k + 1 := w64 (by omega) (by omega)
    simp -implicitDefEqProofs [List.lookup_cons, and_assoc, pick_and, pick_or, if_and, if_or, h, cBx]
    refine drawP_all _ (by decide) ?_
    cases hok : c.cls[k].ok with
    | false =>
      have hb2 : c.cls.all Cls.ok = false := not_true fun h3 => by
        rw [List.all_eq_true] at h3
        rw [h3 _ (List.getElem_mem h)] at hok; cases hok
      simp -implicitDefEqProofs [List.lookup_cons, and_assoc, pick_and, pick_or, if_and, if_or, h, cBx, F116, hok]
      refine fin_pure (by simp) ?_
      simp -implicitDefEqProofs [pur2_i, pur2_b, pur2_s, pur2_nil, pur2_sl, pur2_tup, rn2_tup, rn2_agg, rn2_osl, rn1_v, rn1_osl, rn1_agg, rn0_v, rn0_sl, rn0, pickObs, pur_v, pur_b, pur_s, pur_nil, pur_sl, deI, deIs_sl, htd, hb2, -List.all_eq_true]
    | true =>
      have ha' := all_stepC c.cls Cls.ok k h ha hok
      have hend : ∀ (hup : upP c.cls k = true), (List.range (k + 1)).all (upP c.cls) = true := fun hup => by rw [all_r, hu, hup]; rfl
      by_cases hk0 : k = 0
      · subst hk0
        have hu' := hend (by simp [upP])
        simp -implicitDefEqProofs [List.lookup_cons, and_assoc, pick_and, pick_or, if_and, if_or, h, cBx, F116, hok]
        refine ⟨fun hz => ?_, fun hz => ?_⟩
        · rw [if_pos hz] at hS
          refine ⟨1, by omega, by simpa using ha', by simpa using hu', by omega, ?_⟩
          rw [show topsU c.cls 1 = topsU c.cls 0 + 1 from hS]
          exact Wk.tlD (m := 1) rfl (by simp [hold, upd, tl_cons, hw2, show IntKind.i64.wrap (1 : Int) = 1 from by decide]) (by simp [okL_cons, okL_nil, ok1, ok0]) (okH_cBx _ _ _ (by simp [okH_nil]))
        · rw [if_neg hz, Int.add_zero] at hS
          refine ⟨1, by omega, by simpa using ha', by simpa using hu', by omega, ?_⟩
          rw [show topsU c.cls 1 = topsU c.cls 0 from hS]
          exact Wk.tlD (m := 1) rfl (by simp [hold, upd, tl_cons, show IntKind.i64.wrap (1 : Int) = 1 from by decide]) (by simp [okL_cons, okL_nil, ok1, ok0]) (okH_cBx _ _ _ (by simp [okH_nil]))
      · obtain ⟨j, hjk⟩ : ∃ j, k - 1 = j := ⟨_, rfl⟩
        have hj : j < c.cls.length := by omega
        have hw0 : IntKind.i64.wrap ((k : Int) - 1) = j := by rw [w64 (by omega) (by omega)]; omega
        have hp0 : 0 < k := by omega
        by_cases hlt : c.cls[j].id < c.cls[k].id
        · have hn : ¬ c.cls[k].id ≤ c.cls[j].id := by omega
          have hu' := hend (by simp [upP, hjk, atC_eq h, atC_eq hj, hlt])
          simp -implicitDefEqProofs [List.lookup_cons, and_assoc, pick_and, pick_or, if_and, if_or, h, hj, cBx, F116, hok, hw0, hp0, hn]
          refine ⟨fun hz => ?_, fun hz => ?_⟩
          · rw [if_pos hz] at hS
            refine ⟨k + 1, by omega, by simpa using ha', by simpa using hu', by omega, ?_⟩
            rw [hS]
            exact Wk.tlD (m := 1) rfl (by simp [hold, upd, tl_cons, hw1, hw2]) (by simp [okL_cons, okL_nil, ok1, ok0]) (okH_cBx _ _ _ (by simp [okH_nil]))
          · rw [if_neg hz, Int.add_zero] at hS
            refine ⟨k + 1, by omega, by simpa using ha', by simpa using hu', by omega, ?_⟩
            rw [hS]
            exact Wk.tlD (m := 1) rfl (by simp [hold, upd, tl_cons, hw1]) (by simp [okL_cons, okL_nil, ok1, ok0]) (okH_cBx _ _ _ (by simp [okH_nil]))
        · have hn : c.cls[k].id ≤ c.cls[j].id := by omega
          have hb2 : (List.range c.cls.length).all (upP c.cls) = false := all_rb _ _ k h (by simp [upP, hk0, hjk, atC_eq h, atC_eq hj, hlt])
          simp -implicitDefEqProofs [List.lookup_cons, and_assoc, pick_and, pick_or, if_and, if_or, h, hj, cBx, F116, hok, hw0, hp0, hn]
          refine fin_pure (by simp) ?_
          simp -implicitDefEqProofs [pur2_i, pur2_b, pur2_s, pur2_nil, pur2_sl, pur2_tup, rn2_tup, rn2_agg, rn2_osl, rn1_v, rn1_osl, rn1_agg, rn0_v, rn0_sl, rn0, pickObs, pur_v, pur_b, pur_s, pur_nil, pur_sl, deI, deIs_sl, htd, hb2, -List.all_eq_true]
  have e : k = c.cls.length := by omega
  subst e
  rw [List.take_length] at ha
  have hts : topsU c.cls c.cls.length = (tops c.cls : Nat) := by simp [topsU, tops]
  by_cases h1 : topsU c.cls c.cls.length = 1
  case neg =>
    have h1' : ¬ tops c.cls = 1 := by omega
    simp -implicitDefEqProofs [List.lookup_cons, and_assoc, pick_and, pick_or, if_and, if_or, cBx, h1]
    refine fin_pure (by simp) ?_
    simp -implicitDefEqProofs [pur2_i, pur2_b, pur2_s, pur2_nil, pur2_sl, pur2_tup, rn2_tup, rn2_agg, rn2_osl, rn1_v, rn1_osl, rn1_agg, rn0_v, rn0_sl, rn0, pickObs, pur_v, pur_b, pur_s, pur_nil, pur_sl, deI, deIs_sl, htd, h1']
  have h1' : tops c.cls = 1 := by omega
  have hrt := rts_of_ok ha
  simp -implicitDefEqProofs [List.lookup_cons, and_assoc, pick_and, pick_or, if_and, if_or, cBx, h1]
  refine loopP_inv (fun k : Nat => ⟨99, tl [(1, .optr 0 0 0 0), (45, .sl (tR c.cls)), (46, I c.cls.length), (47, I k)], [cBx c]⟩) (fun k => k ≤ c.cls.length ∧ (List.range k).all (nodeOk c.cls) = true) (fun k => c.cls.length - k) 0 (by simp) (Wk.tl (by simp [hold, upd, tl_cons])) ?_
  rintro k ⟨hk, hn⟩
  by_cases h : k < c.cls.length
  · have hw1 := w64n (show k < 4611686018427387904 by omega)
    have hokI : okI c k := ⟨hp, by omega, by omega⟩
    have hcl := chain_len c.cls 9 k
    have hbad : nodeOk c.cls k = false → treeOk c.cls = false := fun hb => by rw [htd, all_rb _ _ k h hb, Bool.and_false]
    have hgood : nodeOk c.cls k = true → (List.range (k + 1)).all (nodeOk c.cls) = true := fun hb => by rw [all_r, hn, hb]; rfl
    obtain ⟨n, hn0, hn1, hlast, a, ha1, ha2⟩ := chain_at c.cls k h
    have hwo : wayOk c.cls k = (decide (n + 1 ≤ 8) && decide (c.cls[a].par = 0)) := by rw [wayOk, hlast, ha1, ← hn1, Int.toNat_natCast, atC_eq ha2]
    simp -implicitDefEqProofs [List.lookup_cons, and_assoc, pick_and, pick_or, if_and, if_or, h, cBx, iOb, F117, hokI]
    refine drawP_all _ (by decide) ?_
    generalize hr : chain c.cls 9 (k : Int) = w at hn0 hn1 hlast ha1 hwo hcl
    have hw0 : IntKind.i64.wrap ((w.length : Int) - 1) = n := by rw [← hn1]; rw [w64 (by omega) (by omega)]; omega
    by_cases h8 : (8 : Int) < (w.length : Int)
    · have hb := hbad (by rw [nodeOk, hwo]; simp; omega)
      have h8' : 8 < w.length := by omega
      simp -implicitDefEqProofs [List.lookup_cons, and_assoc, pick_and, pick_or, if_and, if_or, h, cBx, iOb, F118, h8, h8']
      refine fin_pure (by simp) ?_
      simp -implicitDefEqProofs [pur2_i, pur2_b, pur2_s, pur2_nil, pur2_sl, pur2_tup, rn2_tup, rn2_agg, rn2_osl, rn1_v, rn1_osl, rn1_agg, rn0_v, rn0_sl, rn0, pickObs, pur_v, pur_b, pur_s, pur_nil, pur_sl, deI, deIs_sl, hb]
    have h8' : ¬ 8 < w.length := by omega
    have h9 : n + 1 ≤ 8 := by omega
    by_cases hz : c.cls[a].par = 0
    case neg =>
      have hb := hbad (by rw [nodeOk, hwo]; simp [hz])
      simp -implicitDefEqProofs [List.lookup_cons, and_assoc, pick_and, pick_or, if_and, if_or, h, cBx, iOb, F118, h8, h8', hw0, hn0, ha1, ha2, hz]
      refine fin_pure (by simp) ?_
      simp -implicitDefEqProofs [pur2_i, pur2_b, pur2_s, pur2_nil, pur2_sl, pur2_tup, rn2_tup, rn2_agg, rn2_osl, rn1_v, rn1_osl, rn1_agg, rn0_v, rn0_sl, rn0, pickObs, pur_v, pur_b, pur_s, pur_nil, pur_sl, deI, deIs_sl, hb]
    have hsp : spareOk c.cls k = decide (0 ≤ c.cls[k].rate - rateSum c.cls (kids c.cls k c.cls.length)) := by rw [spareOk, atC_eq h]
    by_cases hs : c.cls[k].rate - rateSum c.cls (kids c.cls k c.cls.length) < 0
    · have hs' : ¬ 0 ≤ c.cls[k].rate - rateSum c.cls (kids c.cls k c.cls.length) := by omega
      have hb := hbad (by rw [nodeOk, hsp]; simp; omega)
      simp -implicitDefEqProofs [List.lookup_cons, and_assoc, pick_and, pick_or, if_and, if_or, h, cBx, iOb, F118, h8, h8', hw0, hn0, ha1, ha2, hz, hokI, hrt, atC_eq h, hs]
      refine fin_pure (by simp) ?_
      simp -implicitDefEqProofs [pur2_i, pur2_b, pur2_s, pur2_nil, pur2_sl, pur2_tup, rn2_tup, rn2_agg, rn2_osl, rn1_v, rn1_osl, rn1_agg, rn0_v, rn0_sl, rn0, pickObs, pur_v, pur_b, pur_s, pur_nil, pur_sl, deI, deIs_sl, hb]
    have hs' : 0 ≤ c.cls[k].rate - rateSum c.cls (kids c.cls k c.cls.length) := by omega
    have hlm : nodeOk c.cls k = limOk c.cls k := by rw [nodeOk, hwo, hsp, decide_eq_true h9, decide_eq_true hz, decide_eq_true hs']; rfl
    cases hlf : leafB c.cls k with
    | true =>
      cases hlr : rng 1 60 c.cls[k].lim with
      | true =>
        have hg := hgood (by rw [hlm]; simp [limOk, hlf, atC_eq h, hlr])
        simp -implicitDefEqProofs [List.lookup_cons, and_assoc, pick_and, pick_or, if_and, if_or, h, cBx, iOb, F118, F135, F76, h8, h8', hw0, hn0, ha1, ha2, hz, hokI, hrt, atC_eq h, hs, hs', hlf, hlr]
        refine ⟨k + 1, by omega, by simpa using hg, by omega, ?_⟩
        exact Wk.tlD (m := 1) rfl (by simp [hold, upd, tl_cons, hw1]) (by simp [okL_cons, okL_nil, ok1, ok0]) (okH_cBx _ _ _ (by simp [okH_nil]))
      | false =>
        have hb := hbad (by rw [hlm]; simp [limOk, hlf, atC_eq h, hlr])
        simp -implicitDefEqProofs [List.lookup_cons, and_assoc, pick_and, pick_or, if_and, if_or, h, cBx, iOb, F118, F135, F76, h8, h8', hw0, hn0, ha1, ha2, hz, hokI, hrt, atC_eq h, hs, hs', hlf, hlr]
        refine fin_pure (by simp) ?_
        simp -implicitDefEqProofs [pur2_i, pur2_b, pur2_s, pur2_nil, pur2_sl, pur2_tup, rn2_tup, rn2_agg, rn2_osl, rn1_v, rn1_osl, rn1_agg, rn0_v, rn0_sl, rn0, pickObs, pur_v, pur_b, pur_s, pur_nil, pur_sl, deI, deIs_sl, hb]
    | false =>
      by_cases hl0 : c.cls[k].lim = 0
      · have hg := hgood (by rw [hlm]; simp [limOk, hlf, atC_eq h, hl0])
        simp -implicitDefEqProofs [List.lookup_cons, and_assoc, pick_and, pick_or, if_and, if_or, h, cBx, iOb, F118, F135, F76, h8, h8', hw0, hn0, ha1, ha2, hz, hokI, hrt, atC_eq h, hs, hs', hlf, hl0]
        refine ⟨k + 1, by omega, by simpa using hg, by omega, ?_⟩
        exact Wk.tlD (m := 1) rfl (by simp [hold, upd, tl_cons, hw1]) (by simp [okL_cons, okL_nil, ok1, ok0]) (okH_cBx _ _ _ (by simp [okH_nil]))
      · have hb := hbad (by rw [hlm]; simp [limOk, hlf, atC_eq h, hl0])
        simp -implicitDefEqProofs [List.lookup_cons, and_assoc, pick_and, pick_or, if_and, if_or, h, cBx, iOb, F118, F135, F76, h8, h8', hw0, hn0, ha1, ha2, hz, hokI, hrt, atC_eq h, hs, hs', hlf, hl0]
        refine fin_pure (by simp) ?_
        simp -implicitDefEqProofs [pur2_i, pur2_b, pur2_s, pur2_nil, pur2_sl, pur2_tup, rn2_tup, rn2_agg, rn2_osl, rn1_v, rn1_osl, rn1_agg, rn0_v, rn0_sl, rn0, pickObs, pur_v, pur_b, pur_s, pur_nil, pur_sl, deI, deIs_sl, hb]
  · have e : k = c.cls.length := by omega
    subst e
    have ht : treeOk c.cls = true := by rw [htd, ha, hu, hn, h1']; rfl
    simp -implicitDefEqProofs [List.lookup_cons, and_assoc, pick_and, pick_or, if_and, if_or, cBx]
    refine fin_pure (by simp) ?_
    simp -implicitDefEqProofs [pur2_i, pur2_b, pur2_s, pur2_nil, pur2_sl, pur2_tup, rn2_tup, rn2_agg, rn2_osl, rn1_v, rn1_osl, rn1_agg, rn0_v, rn0_sl, rn0, pickObs, pur_v, pur_b, pur_s, pur_nil, pur_sl, deI, deIs_sl, ht]
end Go.Proofs
