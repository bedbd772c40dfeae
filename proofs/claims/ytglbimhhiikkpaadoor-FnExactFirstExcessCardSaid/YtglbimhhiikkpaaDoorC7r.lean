/-
  What is proved here: contracts of the reference's functions by which a configuration is judged. Condition: none.
-/
import Derived.Test.YtglbimhhiikkpaaDoorC6r
namespace Go.Proofs
open Go.Abs
set_option linter.unusedSimpArgs false
set_option linter.unnecessarySimpa false
set_option linter.unusedVariables false
set_option maxHeartbeats 4000000
set_option maxRecDepth 20000

theorem all_stepC (l : List Cls) (p : Cls → Bool) (k : Nat) (h : k < l.length) (h1 : (l.take k).all p = true) (h2 : p l[k] = true) : (l.take (k + 1)).all p = true := by
  rw [takeS l k h, List.all_append, h1]; simp [h2]
theorem c41 : GenCA K Tryd.prog 41 F72 := by
  refine contractA Tryd.mix K [] [] (by simp) (by simp) Tryd.func41 rfl (by decide) ?_
  intro xs hxs
  obtain ⟨c, id, rfl, hp⟩ := F72_in hxs
  rw [F72_res]
  refine ⟨by rw [Tryd.ntmps41]; simp, ?_⟩
  have hl := hp.1
  simp -implicitDefEqProofs [Tryd.f41, List.lookup_cons, and_assoc, pick_and, pick_or, if_and, if_or]
  refine loopP_inv (fun k : Nat => ⟨21, tl [(1, I id), (2, .optr 0 0 0 0), (8, .sl (tR c.cls)), (9, I c.cls.length), (10, I k)], [cBx c]⟩) (fun k => k ≤ c.cls.length ∧ (c.cls.take k).all (fun x => !decide (x.id = id)) = true) (fun k => c.cls.length - k) 0 (by simp) (Wk.tl (by simp [hold, upd, tl_cons])) ?_
  rintro k ⟨hk, ha⟩
  by_cases h : k < c.cls.length
  · have hw1 := w64n (show k < 4611686018427387904 by omega)
    by_cases hq : c.cls[k].id = id
    · have hf := fidx_found c.cls id k h ha hq
      simp -implicitDefEqProofs [List.lookup_cons, and_assoc, pick_and, pick_or, if_and, if_or, h, hq, cBx]
      refine fin_pure (by simp) ?_
      simp -implicitDefEqProofs [pur2_i, pur2_b, pur2_s, pur2_nil, pur2_sl, pur2_tup, rn2_tup, rn2_agg, rn2_osl, rn1_v, rn1_osl, rn1_agg, rn0_v, rn0_sl, rn0, pickObs, pur_v, pur_b, pur_s, pur_nil, pur_sl, deI, deIs_sl, hf]
    · have hg := all_stepC c.cls (fun x => !decide (x.id = id)) k h ha (by simp [hq])
      simp -implicitDefEqProofs [List.lookup_cons, and_assoc, pick_and, pick_or, if_and, if_or, h, hq, cBx]
      refine ⟨k + 1, by omega, by simpa using hg, by omega, ?_⟩
      exact Wk.tlD (m := 1) rfl (by simp [hold, upd, tl_cons, hw1]) (by simp [okL_cons, okL_nil, ok1, ok0]) (okH_cBx _ _ _ (by simp [okH_nil]))
  · have e : k = c.cls.length := by omega
    subst e
    rw [List.take_length] at ha
    have hf := fidx_none c.cls id ha
    simp -implicitDefEqProofs [List.lookup_cons, and_assoc, pick_and, pick_or, if_and, if_or, cBx]
    refine fin_pure (by simp) ?_
    simp -implicitDefEqProofs [pur2_i, pur2_b, pur2_s, pur2_nil, pur2_sl, pur2_tup, rn2_tup, rn2_agg, rn2_osl, rn1_v, rn1_osl, rn1_agg, rn0_v, rn0_sl, rn0, pickObs, pur_v, pur_b, pur_s, pur_nil, pur_sl, deI, deIs_sl, hf]
theorem c149 : GenCA K Tryd.prog 149 F162 := by
  refine contractA Tryd.mix K [] [] (by simp) (by simp) Tryd.func149 rfl (by decide) ?_
  intro xs hxs
  obtain ⟨c, i, rfl, hp⟩ := F162_in hxs
  rw [F162_res]
  refine ⟨by rw [Tryd.ntmps149]; simp, ?_⟩
  obtain ⟨i, rfl⟩ := Int.eq_ofNat_of_zero_le hp.2.1
  have hi : i < c.cls.length := by have := hp.2.2; omega
  have hl := hp.1.1
  simp -implicitDefEqProofs [Tryd.f149, List.lookup_cons, and_assoc, pick_and, pick_or, if_and, if_or]
  refine loopP_inv (fun k : Nat => ⟨31, tl [(1, I i), (2, .optr 0 0 0 0), (5, .osl 1 0), (9, .sl (tR c.cls)), (10, I c.cls.length), (11, I k)], [cBx c, iOb (nI (kids c.cls i k))]⟩) (fun k => k ≤ c.cls.length) (fun k => c.cls.length - k) 0 (Nat.zero_le _) (Wk.tlN (h := [cBx c]) 3 1 5 (by simp [upd]) (by simp [hold, upd, tl_cons])) ?_
  intro k hk
  by_cases h : k < c.cls.length
  · have hw1 := w64n (show k < 4611686018427387904 by omega)
    have hS := kids_succ c.cls i k h
    have hln := kids_len c.cls i k
    rw [atC_eq hi] at hS
    simp -implicitDefEqProofs [List.lookup_cons, and_assoc, pick_and, pick_or, if_and, if_or, h, cBx, iOb, eAppend, eBuildSlice, srcRows, srcOk, chunk]
    refine drawP_all _ (by decide) ?_
    by_cases he : c.cls[k].par = c.cls[i].id
    · rw [if_pos he] at hS
      simp -implicitDefEqProofs [List.lookup_cons, and_assoc, pick_and, pick_or, if_and, if_or, h, hi, he, cBx, iOb, eAppend, eBuildSlice, srcRows, srcOk, chunk]
      have hln2 := nI_len (kids c.cls i k)
      refine ⟨by omega, by omega, k + 1, by omega, by omega, ?_⟩
      have hN : iR (nI (kids c.cls i k)) ++ [[I (k : Int)]] = iR (nI (kids c.cls i (k + 1))) := by rw [hS]; simp [nI, ← iR_append, iR_cons, iR_nil]
      rw [hN]
      refine Wk.tlP [0, 1] (by simp [pickOk, -List.all_eq_true, iR_ok, ok0]) ?_ ?_
      · simp [pickObs]
      · simp [hold, upd, tl_cons, rn1, rn0, hw1]
        exact ⟨rfl, rfl⟩
    · rw [if_neg he, List.append_nil] at hS
      simp -implicitDefEqProofs [List.lookup_cons, and_assoc, pick_and, pick_or, if_and, if_or, h, hi, he, cBx, iOb, eAppend, eBuildSlice, srcRows, srcOk, chunk]
      refine ⟨k + 1, by omega, by omega, ?_⟩
      rw [hS]
      exact Wk.tlD (m := 2) rfl (by simp [hold, upd, tl_cons, hw1]) (by simp [okL_cons, okL_nil, ok1, ok0]) (okH_cBx _ _ _ (okH_iR _ _ _ _ _ _ _ _ _ (by simp [okH_nil])))
  · have e : k = c.cls.length := by omega
    subst e
    simp -implicitDefEqProofs [List.lookup_cons, and_assoc, pick_and, pick_or, if_and, if_or, iOb, cBx]
    refine fin_own [1] (by simp [pickOk, -List.all_eq_true, iR_ok]) ?_
    simp -implicitDefEqProofs [pur2_i, pur2_b, pur2_s, pur2_nil, pur2_sl, pur2_tup, rn2_tup, rn2_agg, rn2_osl, rn1_v, rn1_osl, rn1_agg, rn0_v, rn0_sl, rn0, pickObs, pur_v, pur_b, pur_s, pur_nil, pur_sl, deI, deIs_sl, iOb]
theorem kids_leaf (l : List Cls) (i : Nat) : decide ((kids l i l.length).length = 0) = leafB l i := by
  rw [Bool.eq_iff_iff, decide_eq_true_eq, List.length_eq_zero_iff, kids, List.filter_eq_nil_iff, leafB]
  have h := @all_atC l (fun x => !decide (x.par = (atC l i).id))
  have e : (l.all fun x => !decide (x.par = (atC l i).id)) = !l.any fun x => decide (x.par = (atC l i).id) := by rw [List.not_any_eq_all_not]
  rw [← e, h]
  simp
theorem c109 : GenCA K Tryd.prog 109 F135 := by
  refine contractA Tryd.mix K [(149, F162)] [] (by simp [c149]) (by simp) Tryd.func109 rfl (by decide) ?_
  intro xs hxs
  obtain ⟨c, i, rfl, hp⟩ := F135_in hxs
  rw [F135_res]
  refine ⟨by rw [Tryd.ntmps109]; simp, ?_⟩
  obtain ⟨i, rfl⟩ := Int.eq_ofNat_of_zero_le hp.2.1
  have hk := kids_leaf c.cls i
  simp -implicitDefEqProofs [Tryd.f109, F162, List.lookup_cons, and_assoc, pick_and, pick_or, if_and, if_or, hp, iOb, nI_len]
  refine fin_pure (by simp) ?_
  simp -implicitDefEqProofs [pur2_i, pur2_b, pur2_s, pur2_nil, pur2_sl, pur2_tup, rn2_tup, rn2_agg, rn2_osl, rn1_v, rn1_osl, rn1_agg, rn0_v, rn0_sl, rn0, pickObs, pur_v, pur_b, pur_s, pur_nil, pur_sl, deI, deIs_sl, ← hk]
  rw [Bool.eq_iff_iff]
  simp
theorem chain_step (l : List Cls) (out : List Int) (j : Int) (h0 : 0 ≤ j) (hm : out.length ≤ 8) : out ++ chain l (9 - out.length) j = (out ++ [j]) ++ chain l (9 - (out ++ [j]).length) (nxt l j) := by
  obtain ⟨m, hm'⟩ : ∃ m, 9 - out.length = m + 1 := ⟨8 - out.length, by omega⟩
  have e2 : 9 - (out ++ [j]).length = m := by simp; omega
  rw [hm', e2, chain, if_neg (by omega)]
  simp
def F117 : Fun := ⟨fun xs => xs = [.agg (cX (deC (xs.getD 0 .top) : Cfg)), I (deI (xs.getD 1 .top) : Int)] ∧ (fun (c : Cfg) (i : Int) => (okI c i)) (deC (xs.getD 0 .top) : Cfg) (deI (xs.getD 1 .top) : Int), fun xs => (fun (c : Cfg) (i : Int) => ((.osl 0 0, [iOb (chain c.cls 9 i)]) : X × List Ob)) (deC (xs.getD 0 .top) : Cfg) (deI (xs.getD 1 .top) : Int)⟩
theorem F117_in {xs : List X} (h : F117.pre xs) : ∃ (c : Cfg) (i : Int), xs = [.agg (cX c), I i] ∧ (okI c i) := ⟨_, _, h.1, h.2⟩
theorem F117_res (c : Cfg) (i : Int) : F117.res [.agg (cX c), I i] = (.osl 0 0, [iOb (chain c.cls 9 i)]) := by simp [F117]
theorem F117_mk (c : Cfg) (i : Int) (h : okI c i) : F117.pre [.agg (cX c), I i] := by simpa [F117] using h
theorem c117 : GenCA K Tryd.prog 117 F117 := by
  refine contractA Tryd.mix K [(41, F72)] [] (by simp [c41]) (by simp) Tryd.func117 rfl (by decide) ?_
  intro xs hxs
  obtain ⟨c, i, rfl, hp⟩ := F117_in hxs
  rw [F117_res]
  refine ⟨by rw [Tryd.ntmps117]; simp, ?_⟩
  have hl := hp.1.1
  simp -implicitDefEqProofs [Tryd.f117, F72, List.lookup_cons, and_assoc, pick_and, pick_or, if_and, if_or]
  refine loopP_inv (fun a : List Int × Int => ⟨26, tl [(1, I a.2), (2, .optr 0 0 0 0), (5, .osl 1 0)], [cBx c, iOb a.1]⟩) (fun a => a.1 ++ chain c.cls (9 - a.1.length) a.2 = chain c.cls 9 i ∧ a.2 < c.cls.length ∧ a.1.length ≤ 9) (fun a => 9 - a.1.length) ([], i) ⟨rfl, hp.2.2, by simp⟩ (Wk.tlN (h := [cBx c]) 3 1 5 (by simp [upd]) (by simp [hold, upd, tl_cons])) ?_
  rintro ⟨out, j⟩ ⟨hR, hj, hf⟩
  simp only at hR hj hf
  by_cases h0 : 0 ≤ j
  · by_cases h8 : (out.length : Int) ≤ 8
    · have h8' : out.length ≤ 8 := by omega
      have hst := chain_step c.cls out j h0 h8'
      obtain ⟨j, rfl⟩ := Int.eq_ofNat_of_zero_le h0
      have hj' : j < c.cls.length := by omega
      have hnx : fidx c.cls c.cls[j].par = nxt c.cls (j : Int) := by simp [nxt, atC_eq hj']
      have hnr : nxt c.cls (j : Int) < c.cls.length := (fidx_rng c.cls _).2
      simp -implicitDefEqProofs [List.lookup_cons, and_assoc, pick_and, pick_or, if_and, if_or, cBx, iOb, h8, h8', eAppend, eBuildSlice, srcRows, srcOk, chunk]
      refine ⟨by omega, by omega, drawP_all _ (by decide) ?_⟩
      simp -implicitDefEqProofs [List.lookup_cons, and_assoc, pick_and, pick_or, if_and, if_or, cBx, iOb, hj', hp.1, F72, hnx]
      refine ⟨out ++ [(j : Int)], nxt c.cls j, by rw [← hst, hR], hnr, by simp; omega, by simp; omega, ?_⟩
      rw [show iR out ++ [[I (j : Int)]] = iR (out ++ [(j : Int)]) by simp [← iR_append, iR_cons, iR_nil]]
      refine Wk.tlP [0, 1] (by simp [pickOk, -List.all_eq_true, iR_ok, ok0]) ?_ ?_
      · simp [pickObs]
      · simp [hold, upd, tl_cons, rn1, rn0]
        exact ⟨rfl, rfl⟩
    · have h8' : ¬ out.length ≤ 8 := by omega
      have e9 : out.length = 9 := by omega
      have e : chain c.cls 9 i = out := by rw [← hR, e9]; simp [chain]
      simp -implicitDefEqProofs [List.lookup_cons, and_assoc, pick_and, pick_or, if_and, if_or, cBx, iOb, h0, h8, h8']
      refine fin_own [1] (by simp [pickOk, -List.all_eq_true, iR_ok]) ?_
      simp -implicitDefEqProofs [pur2_i, pur2_b, pur2_s, pur2_nil, pur2_sl, pur2_tup, rn2_tup, rn2_agg, rn2_osl, rn1_v, rn1_osl, rn1_agg, rn0_v, rn0_sl, rn0, pickObs, pur_v, pur_b, pur_s, pur_nil, pur_sl, deI, deIs_sl, iOb, e]
  · have e : chain c.cls 9 i = out := by
      rw [← hR]
      cases 9 - out.length with
      | zero => simp [chain]
      | succ n => rw [chain, if_pos (by omega)]; simp
    simp -implicitDefEqProofs [List.lookup_cons, and_assoc, pick_and, pick_or, if_and, if_or, cBx, iOb, h0]
    refine fin_own [1] (by simp [pickOk, -List.all_eq_true, iR_ok]) ?_
    simp -implicitDefEqProofs [pur2_i, pur2_b, pur2_s, pur2_nil, pur2_sl, pur2_tup, rn2_tup, rn2_agg, rn2_osl, rn1_v, rn1_osl, rn1_agg, rn0_v, rn0_sl, rn0, pickObs, pur_v, pur_b, pur_s, pur_nil, pur_sl, deI, deIs_sl, iOb, e]
theorem c79 : GenCA K Tryd.prog 79 F89 := by
  refine contractA Tryd.mix K [(41, F72), (109, F135)] [] (by simp [c41, c109]) (by simp) Tryd.func79 rfl (by decide) ?_
  intro xs hxs
  obtain ⟨c, id, rfl, hp⟩ := F89_in hxs
  rw [F89_res]
  refine ⟨by rw [Tryd.ntmps79]; simp, ?_⟩
  have hf := fidx_rng c.cls id
  by_cases h : 0 ≤ fidx c.cls id
  · have hokI : okI c (fidx c.cls id) := ⟨hp, h, hf.2⟩
    simp -implicitDefEqProofs [Tryd.f79, F72, F135, List.lookup_cons, and_assoc, pick_and, pick_or, if_and, if_or, hp, h, hokI]
    refine fin_pure (by simp) ?_
    simp -implicitDefEqProofs [pur2_i, pur2_b, pur2_s, pur2_nil, pur2_sl, pur2_tup, rn2_tup, rn2_agg, rn2_osl, rn1_v, rn1_osl, rn1_agg, rn0_v, rn0_sl, rn0, pickObs, pur_v, pur_b, pur_s, pur_nil, pur_sl, deI, deIs_sl, targetOk, h]
  · have h' : fidx c.cls id < 0 := by omega
    simp -implicitDefEqProofs [Tryd.f79, F72, F135, List.lookup_cons, and_assoc, pick_and, pick_or, if_and, if_or, hp, h, h']
    refine fin_pure (by simp) ?_
    simp -implicitDefEqProofs [pur2_i, pur2_b, pur2_s, pur2_nil, pur2_sl, pur2_tup, rn2_tup, rn2_agg, rn2_osl, rn1_v, rn1_osl, rn1_agg, rn0_v, rn0_sl, rn0, pickObs, pur_v, pur_b, pur_s, pur_nil, pur_sl, deI, deIs_sl, targetOk, h]
def F118 : Fun := ⟨fun xs => xs = [.agg (cX (deC (xs.getD 0 .top) : Cfg)), I (deI (xs.getD 1 .top) : Int)] ∧ (fun (c : Cfg) (i : Int) => (okI c i ∧ rtsOk c.cls = true)) (deC (xs.getD 0 .top) : Cfg) (deI (xs.getD 1 .top) : Int), fun xs => (fun (c : Cfg) (i : Int) => ((I ((atC c.cls i.toNat).rate - rateSum c.cls (kids c.cls i.toNat c.cls.length)), []) : X × List Ob)) (deC (xs.getD 0 .top) : Cfg) (deI (xs.getD 1 .top) : Int)⟩
theorem F118_in {xs : List X} (h : F118.pre xs) : ∃ (c : Cfg) (i : Int), xs = [.agg (cX c), I i] ∧ (okI c i ∧ rtsOk c.cls = true) := ⟨_, _, h.1, h.2⟩
theorem F118_res (c : Cfg) (i : Int) : F118.res [.agg (cX c), I i] = (I ((atC c.cls i.toNat).rate - rateSum c.cls (kids c.cls i.toNat c.cls.length)), []) := by simp [F118]
theorem F118_mk (c : Cfg) (i : Int) (h : okI c i ∧ rtsOk c.cls = true) : F118.pre [.agg (cX c), I i] := by simpa [F118] using h
theorem c118 : GenCA K Tryd.prog 118 F118 := by
  refine contractA Tryd.mix K [(149, F162)] [] (by simp [c149]) (by simp) Tryd.func118 rfl (by decide) ?_
  intro xs hxs
  obtain ⟨c, i, rfl, hp⟩ := F118_in hxs
  rw [F118_res]
  refine ⟨by rw [Tryd.ntmps118]; simp, ?_⟩
  obtain ⟨hI, hr⟩ := hp
  obtain ⟨i, rfl⟩ := Int.eq_ofNat_of_zero_le hI.2.1
  have hi : i < c.cls.length := by have := hI.2.2; omega
  have hl := hI.1.1
  have hlt := kids_lt c.cls i c.cls.length
  have hkl := kids_len c.cls i c.cls.length
  have hb0 := rt_bd hr i
  rw [Int.toNat_natCast, atC_eq hi] 
  rw [atC_eq hi] at hb0
  simp -implicitDefEqProofs [Tryd.f118, F162, List.lookup_cons, and_assoc, pick_and, pick_or, if_and, if_or, hI, hi, iOb]
  generalize hK : kids c.cls i c.cls.length = ks at hlt hkl
  have hnl := nI_len ks
  refine loopP_inv (fun k : Nat => ⟨32, tl [(2, .optr 0 0 0 0), (5, I (c.cls[i].rate - rateSum c.cls (ks.take k))), (16, .osl 1 0), (17, I ks.length), (18, I k)], [cBx c, iOb (nI ks)]⟩) (fun k => k ≤ ks.length) (fun k => ks.length - k) 0 (Nat.zero_le _) (Wk.tl (by simp [hold, upd, tl_cons, rateSum, hnl])) ?_
  intro k hk
  by_cases h : k < ks.length
  · have hw1 := w64n (show k < 4611686018427387904 by omega)
    have hkc : ks[k] < c.cls.length := hlt _ (List.getElem_mem h)
    have hb1 := rateSum_bd hr (ks.take k)
    have hb2 := rt_bd hr ks[k]
    rw [atC_eq hkc] at hb2
    have hb3 : (ks.take k).length ≤ 1048576 := by simp; omega
    have hT : rateSum c.cls (ks.take (k + 1)) = rateSum c.cls (ks.take k) + c.cls[ks[k]].rate := by rw [takeS ks k h, rateSum_app, atC_eq hkc]
    have hw2 : IntKind.i64.wrap (c.cls[i].rate - rateSum c.cls (ks.take k) - c.cls[ks[k]].rate) = c.cls[i].rate - rateSum c.cls (ks.take (k + 1)) := by rw [hT, w64 (by omega) (by omega)]; omega
    simp -implicitDefEqProofs [List.lookup_cons, and_assoc, pick_and, pick_or, if_and, if_or, h, cBx, iOb, hnl, nI_get, hkc, hw2]
    refine ⟨k + 1, by omega, by omega, ?_⟩
    exact Wk.tl (by simp [hold, upd, tl_cons, hw1])
  · have e : k = ks.length := by omega
    subst e
    rw [List.take_length]
    simp -implicitDefEqProofs [List.lookup_cons, and_assoc, pick_and, pick_or, if_and, if_or, cBx, iOb]
    refine fin_pure (by simp) ?_
    simp -implicitDefEqProofs [pur2_i, pur2_b, pur2_s, pur2_nil, pur2_sl, pur2_tup, rn2_tup, rn2_agg, rn2_osl, rn1_v, rn1_osl, rn1_agg, rn0_v, rn0_sl, rn0, pickObs, pur_v, pur_b, pur_s, pur_nil, pur_sl, deI, deIs_sl]
end Go.Proofs
