/-
  What is proved here: contracts of the two MostInWindow. Condition: none.
-/
import Derived.Test.YtoefkakkcoinkaaM2p
namespace Go.Proofs
open Go.Abs
set_option linter.unusedSimpArgs false
set_option linter.unnecessarySimpa false
set_option linter.unusedVariables false
set_option maxHeartbeats 8000000
set_option maxRecDepth 20000

theorem evs_facts {l : List Evt} (h : evsOk l = true) : l.length ≤ 80 ∧ (∀ e ∈ l, 0 ≤ e.tick ∧ e.tick ≤ 1000000 ∧ 0 ≤ e.size ∧ e.size ≤ 1500) ∧ sortedT l := by
  obtain ⟨h1, h2⟩ := evsOk_all h
  refine ⟨h1, fun e he => ?_, ?_⟩
  · have := h2 e he
    rw [Evt.ok_iff] at this
    omega
  · simp only [evsOk, Bool.and_eq_true, decide_eq_true_eq] at h
    have step : ∀ j, (hj : j + 1 < l.length) → l[j].tick ≤ l[j + 1].tick := by
      intro j hj
      have := okUp_at h.2 hj hj
      simp only [stepOk, Bool.and_eq_true] at this
      have h3 := this.1.2
      have hg : (l.take (j + 1)).getLast? = some l[j] := by simp [List.getLast?_take, show j < l.length by omega]
      rw [hg] at h3
      simpa using h3
    have far : ∀ d i, (h : i + d < l.length) → l[i].tick ≤ l[i + d].tick := by
      intro d
      induction d with
      | zero => intro i h; exact Int.le_refl _
      | succ d ih => intro i h; exact Int.le_trans (ih i (by omega)) (step (i + d) h)
    refine List.pairwise_iff_getElem.2 fun i j hi hj hij => ?_
    have := far (j - i) i (by omega)
    simpa [show i + (j - i) = j by omega] using this
theorem winS_bd (cs : List Int) (t0 t : Int) : ∀ (l : List Evt), (∀ e ∈ l, 0 ≤ e.size ∧ e.size ≤ 1500) → 0 ≤ winS cs t0 t l ∧ winS cs t0 t l ≤ 1500 * l.length
  | [], _ => by simp [winS]
  | e :: l, h => by
    have ih := winS_bd cs t0 t l fun x hx => h x (List.mem_cons_of_mem _ hx)
    have he := h e List.mem_cons_self
    unfold winS at ih ⊢
    rw [List.filter_cons]
    simp only [List.length_cons]
    split
    · simp only [List.map_cons, List.sum_cons]; omega
    · omega
/-- behind an event that is too late all are -/
theorem winS_late (cs : List Int) (t0 t : Int) (L : List Evt) (k : Nat) (hs : sortedT L) (hk : k < L.length) (h : ¬ L[k].tick - t0 ≤ t) : winS cs t0 t L = winS cs t0 t (L.take k) := by
  unfold winS
  conv => lhs; rw [← List.take_append_drop k L]
  rw [List.filter_append, List.map_append, List.sum_append]
  have : (L.drop k).filter (fun e => decide (e.tick - t0 ≤ t) && outP cs e) = [] := by
    rw [List.filter_eq_nil_iff]
    intro e he
    obtain ⟨j, hj, rfl⟩ := List.getElem_of_mem he
    have hj' : k + j < L.length := by simp at hj; omega
    have := sortedT_at hs k (k + j) (by omega) hj'
    rw [atE_eq hk, atE_eq hj'] at this
    rw [List.getElem_drop]
    simp
    intro h1
    omega
  rw [this]
  simp
def mOk (l : List Evt) (cs : List Int) (t : Int) : Bool := evsOk l && decide (cs.length ≤ 24) && cs.all (rng 1 999) && rng 0 1000000 t
def mAns (l : List Evt) (cs : List Int) (t : Int) : X := if mOk l cs t = true then .tup [I (mUp cs t l l.length), B true] else .tup [I 0, B false]
theorem mUp_bd (cs : List Int) (t : Int) (l : List Evt) (k : Nat) (h80 : l.length ≤ 80) (hz : ∀ e ∈ l, 0 ≤ e.size ∧ e.size ≤ 1500) : 0 ≤ mUp cs t l k ∧ mUp cs t l k ≤ 120000 := by
  refine ⟨mx_nn _, mx_le (by omega) fun x hx => ?_⟩
  obtain ⟨i, _, rfl⟩ := List.mem_map.1 hx
  have := winS_bd cs (atE l i).tick t (l.drop i) fun e he => hz e (List.mem_of_mem_drop he)
  have h2 : ((l.drop i).length : Int) ≤ 80 := by simp; omega
  omega

def F25 : Fun := ⟨fun xs => xs = [.sl (tR (deT (xs.getD 0 .top) : List Evt)), .sl (iR (deIs (xs.getD 1 .top) : List Int)), I (deI (xs.getD 2 .top) : Int)] ∧ (fun (l : List Evt) (cs : List Int) (t : Int) => (l.length ≤ 1048576 ∧ cs.length ≤ 1048576)) (deT (xs.getD 0 .top) : List Evt) (deIs (xs.getD 1 .top) : List Int) (deI (xs.getD 2 .top) : Int), fun xs => (fun (l : List Evt) (cs : List Int) (t : Int) => ((mAns l cs t, []) : X × List Ob)) (deT (xs.getD 0 .top) : List Evt) (deIs (xs.getD 1 .top) : List Int) (deI (xs.getD 2 .top) : Int)⟩
theorem F25_in {xs : List X} (h : F25.pre xs) : ∃ (l : List Evt) (cs : List Int) (t : Int), xs = [.sl (tR l), .sl (iR cs), I t] ∧ (l.length ≤ 1048576 ∧ cs.length ≤ 1048576) := ⟨_, _, _, h.1, h.2⟩
theorem F25_res (l : List Evt) (cs : List Int) (t : Int) : F25.res [.sl (tR l), .sl (iR cs), I t] = (mAns l cs t, []) := by simp [F25]
theorem F25_mk (l : List Evt) (cs : List Int) (t : Int) (h : l.length ≤ 1048576 ∧ cs.length ≤ 1048576) : F25.pre [.sl (tR l), .sl (iR cs), I t] := by simpa [F25] using h
theorem c25 : GenCA K Try.prog 25 F25 := by
  refine contractA Try.mix K [(40, F40), (48, F48), (41, F41), (49, F49)] [] (by simp [c40, c48, c41, c49]) (by simp) Try.func25 rfl (by decide) ?_
  intro xs hxs
  obtain ⟨l, cs, t, rfl, hp⟩ := F25_in hxs
  rw [F25_res]
  refine ⟨by rw [Try.ntmps25]; simp, ?_⟩
  obtain ⟨hl, hcs⟩ := hp
  cases hg : evsOk l with
  | false =>
    simp -implicitDefEqProofs [Try.f25, F40, F48, F41, F49, List.lookup_cons, and_assoc, pick_and, pick_or, if_and, if_or, hl, hg]
    refine fin_pure (by simp) ?_
    simp -implicitDefEqProofs [pur2_i, pur2_b, pur2_s, pur2_nil, pur2_sl, pur2_tup, rn2_tup, rn2_agg, rn2_osl, rn1_v, rn1_osl, rn1_agg, rn0_v, rn0_sl, rn0, pickObs, pur_v, pur_b, pur_s, pur_nil, pur_sl, deI, deIs_sl, mAns, mOk, hg]
  | true =>
  obtain ⟨h80, hev, hso⟩ := evs_facts hg
  by_cases h24 : (24 : Int) < (cs.length : Int)
  · have h24' : ¬ cs.length ≤ 24 := by omega
    simp -implicitDefEqProofs [Try.f25, F40, F48, F41, F49, List.lookup_cons, and_assoc, pick_and, pick_or, if_and, if_or, hl, hg, h24]
    refine fin_pure (by simp) ?_
    simp -implicitDefEqProofs [pur2_i, pur2_b, pur2_s, pur2_nil, pur2_sl, pur2_tup, rn2_tup, rn2_agg, rn2_osl, rn1_v, rn1_osl, rn1_agg, rn0_v, rn0_sl, rn0, pickObs, pur_v, pur_b, pur_s, pur_nil, pur_sl, deI, deIs_sl, mAns, mOk, hg, h24']
  have h24' : cs.length ≤ 24 := by omega
  cases ht : rng 0 1000000 t with
  | false =>
    simp -implicitDefEqProofs [Try.f25, F40, F48, F41, F49, List.lookup_cons, and_assoc, pick_and, pick_or, if_and, if_or, hl, hg, h24, ht]
    refine fin_pure (by simp) ?_
    simp -implicitDefEqProofs [pur2_i, pur2_b, pur2_s, pur2_nil, pur2_sl, pur2_tup, rn2_tup, rn2_agg, rn2_osl, rn1_v, rn1_osl, rn1_agg, rn0_v, rn0_sl, rn0, pickObs, pur_v, pur_b, pur_s, pur_nil, pur_sl, deI, deIs_sl, mAns, mOk, hg, ht]
  | true =>
  simp -implicitDefEqProofs [Try.f25, List.lookup_cons, and_assoc, pick_and, pick_or, if_and, if_or, F40, F48, hl, hg, h24, ht]
  refine loopP_inv (fun k : Nat => ⟨82, tl [(0, .sl (tR l)), (1, .sl (iR cs)), (2, I t), (28, .sl (iR cs)), (29, I cs.length), (30, I k)], []⟩) (fun k => k ≤ cs.length ∧ (cs.take k).all (rng 1 999) = true) (fun k => cs.length - k) 0 (by simp) (Wk.tl (by simp [hold, upd, tl_cons])) ?_
  rintro k ⟨hk, ha⟩
  by_cases h : k < cs.length
  · have hw1 := w64n (show k < 4611686018427387904 by omega)
    cases hr : rng 1 999 cs[k] with
    | true =>
      simp -implicitDefEqProofs [List.lookup_cons, and_assoc, pick_and, pick_or, if_and, if_or, h, F41, hr]
      exact ⟨k + 1, by omega, by simpa using all_stepI cs _ k h ha hr, by omega, Wk.tl (by simp [hold, upd, tl_cons, hw1])⟩
    | false =>
      have hb := all_badI cs _ k h hr
      simp -implicitDefEqProofs [List.lookup_cons, and_assoc, pick_and, pick_or, if_and, if_or, h, F41, hr]
      refine fin_pure (by simp) ?_
      simp -implicitDefEqProofs [pur2_i, pur2_b, pur2_s, pur2_nil, pur2_sl, pur2_tup, rn2_tup, rn2_agg, rn2_osl, rn1_v, rn1_osl, rn1_agg, rn0_v, rn0_sl, rn0, pickObs, pur_v, pur_b, pur_s, pur_nil, pur_sl, deI, deIs_sl, mAns, mOk, hb]
  have e : k = cs.length := by omega
  subst e
  rw [List.take_length] at ha
  have hmo : mOk l cs t = true := by simp [mOk, hg, h24', ha, ht]
  simp -implicitDefEqProofs [List.lookup_cons, and_assoc, pick_and, pick_or, if_and, if_or]
  refine loopP_inv (fun i : Nat => ⟨82, tl [(0, .sl (tR l)), (1, .sl (iR cs)), (2, I t), (10, I (mUp cs t l i)), (39, I l.length), (40, I i)], []⟩) (fun i => i ≤ l.length) (fun i => l.length - i) 0 (Nat.zero_le _) (Wk.tl (by simp [hold, upd, tl_cons, mUp, mx])) ?_
  intro i hi
  by_cases h2 : i < l.length
  · have hw2 := w64n (show i < 4611686018427387904 by omega)
    have hsl : ((tR l).drop i).take (l.length - i) = tR (l.drop i) := by
      rw [tR_drop, List.take_of_length_le (by simp)]
    have hln : ((l.length - i : Nat) : Int) = (l.length : Int) - i := by omega
    simp -implicitDefEqProofs [List.lookup_cons, and_assoc, pick_and, pick_or, if_and, if_or, h2, eSlice, bnd, hsl]
    have hz : ∀ e ∈ l, 0 ≤ e.size ∧ e.size ≤ 1500 := fun e he => (hev e he).2.2
    refine ⟨fun r hr => by obtain ⟨e, _, rfl⟩ := List.mem_map.1 (hr : r ∈ l.map rX); rfl, by omega, ?_⟩
    refine loopP_inv (fun j : Nat => ⟨82, tl [(0, .sl (tR l)), (1, .sl (iR cs)), (2, I t), (10, I (mUp cs t l i)), (11, I i), (12, I (winS cs l[i].tick t ((l.drop i).take j))), (39, I l.length), (40, I i), (45, .sl (tR (l.drop i))), (46, I ((l.drop i).length)), (47, I j)], []⟩) (fun j => j ≤ (l.drop i).length) (fun j => (l.drop i).length - j) 0 (Nat.zero_le _) (Wk.tl (by simp [hold, upd, tl_cons, winS])) ?_
    intro j hj
    by_cases h3 : j < (l.drop i).length
    · have h3' : j < l.length - i := by simpa using h3
      have hij : i + j < l.length := by omega
      have hT := takeS (l.drop i) j h3
      rw [List.getElem_drop] at hT
      have hw3 := w64n (show j < 4611686018427387904 by omega)
      have b1 := hev l[i] (List.getElem_mem h2)
      have b2 := hev l[i + j] (List.getElem_mem hij)
      have hwt : IntKind.i64.wrap (l[i + j].tick - l[i].tick) = l[i + j].tick - l[i].tick := w64 (by omega) (by omega)
      have hbd := winS_bd cs l[i].tick t ((l.drop i).take j) fun e he => hz e (List.mem_of_mem_drop (List.mem_of_mem_take he))
      have hl2 : (((l.drop i).take j).length : Int) ≤ 80 := by simp; omega
      have hws : IntKind.i64.wrap (winS cs l[i].tick t ((l.drop i).take j) + l[i + j].size) = winS cs l[i].tick t ((l.drop i).take j) + l[i + j].size := w64 (by omega) (by omega)
      simp -implicitDefEqProofs [List.lookup_cons, and_assoc, pick_and, pick_or, if_and, if_or, h2, hij, h3']
      refine drawP_all _ (by decide) ?_
      by_cases c1 : l[i + j].tick - l[i].tick ≤ t
      · by_cases c2 : l[i + j].kind = 4
        · cases c3 : cs.contains l[i + j].cls with
          | true =>
            have c3' : l[i + j].cls ∈ cs := List.contains_iff_mem.1 c3
            simp -implicitDefEqProofs [List.lookup_cons, and_assoc, pick_and, pick_or, if_and, if_or, h2, hij, h3', hwt, c1, c2, c3', hcs, F49, hws]
            refine ⟨j + 1, by omega, by omega, ?_⟩
            rw [hT, winS_app, if_pos ⟨c1, by simp [outP, c2, c3']⟩]
            exact Wk.tlD (m := 0) rfl (by simp [hold, upd, tl_cons, hw3]) (by simp [okL_cons, okL_nil, ok1, ok0]) (by simp [okH_nil])
          | false =>
            have c3' : l[i + j].cls ∉ cs := fun e => by rw [List.contains_iff_mem.2 e] at c3; cases c3
            simp -implicitDefEqProofs [List.lookup_cons, and_assoc, pick_and, pick_or, if_and, if_or, h2, hij, h3', hwt, c1, c2, c3', hcs, F49]
            refine ⟨j + 1, by omega, by omega, ?_⟩
            rw [hT, winS_app, if_neg (fun e => by simp [outP, c2, c3'] at e), Int.add_zero]
            exact Wk.tlD (m := 0) rfl (by simp [hold, upd, tl_cons, hw3]) (by simp [okL_cons, okL_nil, ok1, ok0]) (by simp [okH_nil])
        · simp -implicitDefEqProofs [List.lookup_cons, and_assoc, pick_and, pick_or, if_and, if_or, h2, hij, h3', hwt, c1, c2, F49]
          refine ⟨j + 1, by omega, by omega, ?_⟩
          rw [hT, winS_app, if_neg (fun e => by simp [outP, c2] at e), Int.add_zero]
          exact Wk.tlD (m := 0) rfl (by simp [hold, upd, tl_cons, hw3]) (by simp [okL_cons, okL_nil, ok1, ok0]) (by simp [okH_nil])
      · simp -implicitDefEqProofs [List.lookup_cons, and_assoc, pick_and, pick_or, if_and, if_or, h2, hij, h3', hwt, c1, F49]
        refine ⟨j + 1, by omega, by omega, ?_⟩
        rw [hT, winS_app, if_neg (fun e => c1 e.1), Int.add_zero]
        exact Wk.tlD (m := 0) rfl (by simp [hold, upd, tl_cons, hw3]) (by simp [okL_cons, okL_nil, ok1, ok0]) (by simp [okH_nil])
    · have e : j = (l.drop i).length := by omega
      subst e
      rw [List.take_length]
      have hM := mUp_succ cs t l i
      rw [atE_eq h2] at hM
      have hmx : ∀ a b : Int, (if a < b then b else a) = max a b := fun a b => by split <;> omega
      simp -implicitDefEqProofs [List.lookup_cons, and_assoc, pick_and, pick_or, if_and, if_or, hmx]
      refine ⟨i + 1, by omega, by omega, ?_⟩
      rw [hM]
      exact Wk.tl (by simp [hold, upd, tl_cons, hw2])
  · have e : i = l.length := by omega
    subst e
    simp -implicitDefEqProofs [List.lookup_cons, and_assoc, pick_and, pick_or, if_and, if_or]
    refine fin_pure (by simp) ?_
    simp -implicitDefEqProofs [pur2_i, pur2_b, pur2_s, pur2_nil, pur2_sl, pur2_tup, rn2_tup, rn2_agg, rn2_osl, rn1_v, rn1_osl, rn1_agg, rn0_v, rn0_sl, rn0, pickObs, pur_v, pur_b, pur_s, pur_nil, pur_sl, deI, deIs_sl, mAns, hmo]

theorem oiI_get (cs : List Int) (l : List Evt) (n : Nat) (h : n < (oiI cs l l.length).length) : ∃ a : Nat, (oiI cs l l.length)[n] = (a : Int) ∧ ∃ ha : a < l.length, ∃ hn : n < (l.filter (outP cs)).length, l[a] = (l.filter (outP cs))[n] := by
  have h1 : n < (oi cs l l.length).length := by simpa [oiI] using h
  have hm := oi_map cs l l.length (Nat.le_refl _)
  rw [List.take_length] at hm
  have hn : n < (l.filter (outP cs)).length := by rw [← hm]; simpa using h1
  have ha : (oi cs l l.length)[n] < l.length := oi_lt cs l l.length _ (List.getElem_mem h1)
  refine ⟨(oi cs l l.length)[n], by simp [oiI], ha, hn, ?_⟩
  have : ((oi cs l l.length).map (atE l))[n]'(by simpa using h1) = (l.filter (outP cs))[n] := by simp [hm]
  rw [← this]
  simp [atE_eq ha]
theorem oiI_lenF (cs : List Int) (l : List Evt) : (oiI cs l l.length).length = (l.filter (outP cs)).length := by
  have hm := oi_map cs l l.length (Nat.le_refl _)
  rw [List.take_length] at hm
  rw [← hm]; simp [oiI]
theorem c23 : GenCA K Try.prog 23 F25 := by
  refine contractA Try.mix K [(36, F36), (44, F44), (45, F45), (47, F47), (46, F46.pu)] [] (by simp [c36, c44, c45, c47, c46.pu]) (by simp) Try.func23 rfl (by decide) ?_
  intro xs hxs
  obtain ⟨l, cs, t, rfl, hl, hcs⟩ := F25_in hxs
  rw [F25_res]
  refine ⟨by rw [Try.ntmps23]; simp, ?_⟩
  cases hg : evsOk l with
  | false =>
    simp -implicitDefEqProofs [Try.f23, List.lookup_cons, and_assoc, pick_and, pick_or, if_and, if_or, F36, F44, F45, hl, hcs, hg]
    refine fin_pure (by simp) ?_
    simp -implicitDefEqProofs [pur2_i, pur2_b, pur2_s, pur2_nil, pur2_sl, pur2_tup, rn2_tup, rn2_agg, rn2_osl, rn1_v, rn1_osl, rn1_agg, rn0_v, rn0_sl, rn0, pickObs, pur_v, pur_b, pur_s, pur_nil, pur_sl, deI, deIs_sl, mAns, mOk, hg]
  | true =>
  obtain ⟨h80, hev, hso⟩ := evs_facts hg
  have hz : ∀ e ∈ l, 0 ≤ e.size ∧ e.size ≤ 1500 := fun e he => (hev e he).2.2
  by_cases h24 : (24 : Int) < (cs.length : Int)
  · have h24' : ¬ cs.length ≤ 24 := by omega
    simp -implicitDefEqProofs [Try.f23, List.lookup_cons, and_assoc, pick_and, pick_or, if_and, if_or, F36, F44, F45, hl, hcs, hg, h24]
    refine fin_pure (by simp) ?_
    simp -implicitDefEqProofs [pur2_i, pur2_b, pur2_s, pur2_nil, pur2_sl, pur2_tup, rn2_tup, rn2_agg, rn2_osl, rn1_v, rn1_osl, rn1_agg, rn0_v, rn0_sl, rn0, pickObs, pur_v, pur_b, pur_s, pur_nil, pur_sl, deI, deIs_sl, mAns, mOk, hg, h24']
  have h24' : cs.length ≤ 24 := by omega
  cases hal : cs.all (rng 1 999) with
  | false =>
    simp -implicitDefEqProofs [Try.f23, List.lookup_cons, and_assoc, pick_and, pick_or, if_and, if_or, F36, F44, F45, hl, hcs, hg, h24, hal]
    refine fin_pure (by simp) ?_
    simp -implicitDefEqProofs [pur2_i, pur2_b, pur2_s, pur2_nil, pur2_sl, pur2_tup, rn2_tup, rn2_agg, rn2_osl, rn1_v, rn1_osl, rn1_agg, rn0_v, rn0_sl, rn0, pickObs, pur_v, pur_b, pur_s, pur_nil, pur_sl, deI, deIs_sl, mAns, mOk, hal]
  | true =>
  cases ht : rng 0 1000000 t with
  | false =>
    simp -implicitDefEqProofs [Try.f23, List.lookup_cons, and_assoc, pick_and, pick_or, if_and, if_or, F36, F44, F45, hl, hcs, hg, h24, hal, ht]
    refine fin_pure (by simp) ?_
    simp -implicitDefEqProofs [pur2_i, pur2_b, pur2_s, pur2_nil, pur2_sl, pur2_tup, rn2_tup, rn2_agg, rn2_osl, rn1_v, rn1_osl, rn1_agg, rn0_v, rn0_sl, rn0, pickObs, pur_v, pur_b, pur_s, pur_nil, pur_sl, deI, deIs_sl, mAns, mOk, ht]
  | true =>
  have hmo : mOk l cs t = true := by simp only [mOk, hg, hal, ht, h24', decide_true, Bool.and_self]
  have hLz : ∀ e ∈ l.filter (outP cs), 0 ≤ e.size ∧ e.size ≤ 1500 := fun e he => hz e (List.mem_filter.1 he).1
  have hLs : sortedT (l.filter (outP cs)) := List.Pairwise.filter _ hso
  have hL80 : (l.filter (outP cs)).length ≤ 80 := Nat.le_trans (List.length_filter_le _ _) h80
  have hoL := oiI_lenF cs l
  simp -implicitDefEqProofs [Try.f23, List.lookup_cons, and_assoc, pick_and, pick_or, if_and, if_or, F36, F44, F45, F46, hl, hcs, hg, h24, hal, ht, iOb]
  refine loopP_inv (fun n : Nat => ⟨77, tl [(0, .sl (tR l)), (2, I t), (8, I (mUp cs t (l.filter (outP cs)) n)), (9, .sl (iR (oiI cs l l.length))), (36, I (oiI cs l l.length).length), (37, I n)], []⟩) (fun n => n ≤ (oiI cs l l.length).length) (fun n => (oiI cs l l.length).length - n) 0 (Nat.zero_le _) (Wk.tl (by simp [hold, upd, tl_cons, mUp, mx])) ?_
  intro n hn
  by_cases h2 : n < (oiI cs l l.length).length
  · obtain ⟨a, a1, a2, a3, a4⟩ := oiI_get cs l n h2
    have hw2 := w64n (show n < 4611686018427387904 by omega)
    have hsl : ((iR (oiI cs l l.length)).drop n).take ((oiI cs l l.length).length - n) = iR ((oiI cs l l.length).drop n) := by
      rw [iR_drop, List.take_of_length_le (by simp)]
    have b1 := hev l[a] (List.getElem_mem a2)
    simp -implicitDefEqProofs [List.lookup_cons, and_assoc, pick_and, pick_or, if_and, if_or, h2, eSlice, bnd, hsl]
    refine ⟨fun r hr => iR_row hr, by omega, ?_⟩
    refine loopP_inv (fun k : Nat => ⟨77, tl [(0, .sl (tR l)), (2, I t), (8, I (mUp cs t (l.filter (outP cs)) n)), (9, .sl (iR (oiI cs l l.length))), (10, I n), (11, I (winS cs l[a].tick t (((l.filter (outP cs)).drop n).take k))), (36, I (oiI cs l l.length).length), (37, I n), (42, .sl (iR ((oiI cs l l.length).drop n))), (43, I ((oiI cs l l.length).drop n).length), (44, I k)], []⟩) (fun k => k ≤ ((oiI cs l l.length).drop n).length) (fun k => ((oiI cs l l.length).drop n).length - k) 0 (Nat.zero_le _) (Wk.tl (by simp [hold, upd, tl_cons, winS])) ?_
    intro k hk
    have hM := mUp_succ cs t (l.filter (outP cs)) n
    rw [atE_eq a3, ← a4] at hM
    have hrest : ∀ S : Int, S = winS cs l[a].tick t ((l.filter (outP cs)).drop n) → max (mUp cs t (l.filter (outP cs)) n) S = mUp cs t (l.filter (outP cs)) (n + 1) := fun S e => by rw [e, hM]
    by_cases h3 : k < ((oiI cs l l.length).drop n).length
    · have h3' : k < (oiI cs l l.length).length - n := by simpa using h3
      have hnk : n + k < (oiI cs l l.length).length := by omega
      obtain ⟨b, d1, d2, d3, d4⟩ := oiI_get cs l (n + k) hnk
      have hkL : k < ((l.filter (outP cs)).drop n).length := by simp; omega
      have hT := takeS ((l.filter (outP cs)).drop n) k hkL
      rw [List.getElem_drop, ← d4] at hT
      have hob : outP cs l[b] = true := by
        have := List.getElem_mem d3
        rw [← d4] at this
        exact (List.mem_filter.1 this).2
      have hw3 := w64n (show k < 4611686018427387904 by omega)
      have b2 := hev l[b] (List.getElem_mem d2)
      have hwt : IntKind.i64.wrap (l[b].tick - l[a].tick) = l[b].tick - l[a].tick := w64 (by omega) (by omega)
      have hbd := winS_bd cs l[a].tick t (((l.filter (outP cs)).drop n).take k) fun e he => hLz e (List.mem_of_mem_drop (List.mem_of_mem_take he))
      have hl2 : ((((l.filter (outP cs)).drop n).take k).length : Int) ≤ 80 := by simp; omega
      have hws : IntKind.i64.wrap (winS cs l[a].tick t (((l.filter (outP cs)).drop n).take k) + l[b].size) = winS cs l[a].tick t (((l.filter (outP cs)).drop n).take k) + l[b].size := w64 (by omega) (by omega)
      simp -implicitDefEqProofs [List.lookup_cons, and_assoc, pick_and, pick_or, if_and, if_or, h2, h3', hnk, d1]
      refine drawP_all _ (by decide) ?_
      by_cases c1 : t < l[b].tick - l[a].tick
      · have hlate := winS_late cs l[a].tick t ((l.filter (outP cs)).drop n) k (List.Pairwise.sublist (List.drop_sublist _ _) hLs) hkL (by rw [List.getElem_drop, ← d4]; omega)
        simp -implicitDefEqProofs [List.lookup_cons, and_assoc, pick_and, pick_or, if_and, if_or, h2, hnk, a1, a2, d2, hwt, c1, F47]
        refine ⟨n + 1, by omega, by omega, ?_⟩
        rw [← hrest _ hlate.symm]
        exact Wk.tl (by simp [hold, upd, tl_cons, hw2])
      · simp -implicitDefEqProofs [List.lookup_cons, and_assoc, pick_and, pick_or, if_and, if_or, h2, hnk, a1, a2, d2, hwt, c1, hws]
        refine ⟨k + 1, by omega, by omega, ?_⟩
        rw [hT, winS_app, if_pos ⟨by omega, hob⟩]
        exact Wk.tl (by simp [hold, upd, tl_cons, hw3])
    · have e : k = ((oiI cs l l.length).drop n).length := by omega
      subst e
      have hfull : ((l.filter (outP cs)).drop n).take ((oiI cs l l.length).drop n).length = (l.filter (outP cs)).drop n := List.take_of_length_le (by simp; omega)
      rw [hfull]
      simp -implicitDefEqProofs [List.lookup_cons, and_assoc, pick_and, pick_or, if_and, if_or, F47]
      refine ⟨n + 1, by omega, by omega, ?_⟩
      rw [← hrest _ rfl]
      exact Wk.tl (by simp [hold, upd, tl_cons, hw2])
  · have e : n = (oiI cs l l.length).length := by omega
    subst e
    have hE := mUp_eq cs t l hso fun e he => (hz e he).1
    rw [← hoL] at hE
    simp -implicitDefEqProofs [List.lookup_cons, and_assoc, pick_and, pick_or, if_and, if_or]
    refine fin_pure (by simp) ?_
    simp -implicitDefEqProofs [pur2_i, pur2_b, pur2_s, pur2_nil, pur2_sl, pur2_tup, rn2_tup, rn2_agg, rn2_osl, rn1_v, rn1_osl, rn1_agg, rn0_v, rn0_sl, rn0, pickObs, pur_v, pur_b, pur_s, pur_nil, pur_sl, deI, deIs_sl, mAns, hmo, hE]

def F5 : Fun := ⟨fun xs => xs = [.sl (tR (deT (xs.getD 0 .top) : List Evt)), .sl (iR (deIs (xs.getD 1 .top) : List Int)), I (deI (xs.getD 2 .top) : Int)] ∧ (fun (l : List Evt) (cs : List Int) (t : Int) => (l.length ≤ 9223372036854775807 ∧ cs.length ≤ 9223372036854775807)) (deT (xs.getD 0 .top) : List Evt) (deIs (xs.getD 1 .top) : List Int) (deI (xs.getD 2 .top) : Int), fun xs => (fun (l : List Evt) (cs : List Int) (t : Int) => ((B true, []) : X × List Ob)) (deT (xs.getD 0 .top) : List Evt) (deIs (xs.getD 1 .top) : List Int) (deI (xs.getD 2 .top) : Int)⟩
theorem F5_in {xs : List X} (h : F5.pre xs) : ∃ (l : List Evt) (cs : List Int) (t : Int), xs = [.sl (tR l), .sl (iR cs), I t] ∧ (l.length ≤ 9223372036854775807 ∧ cs.length ≤ 9223372036854775807) := ⟨_, _, _, h.1, h.2⟩
theorem F5_res (l : List Evt) (cs : List Int) (t : Int) : F5.res [.sl (tR l), .sl (iR cs), I t] = (B true, []) := by simp [F5]
theorem F5_mk (l : List Evt) (cs : List Int) (t : Int) (h : l.length ≤ 9223372036854775807 ∧ cs.length ≤ 9223372036854775807) : F5.pre [.sl (tR l), .sl (iR cs), I t] := by simpa [F5] using h
theorem c5 : GenCA K Try.prog 5 F5 := by
  refine contractA Try.mix K [(14, F14), (23, F25), (16, F16), (24, F24), (25, F25), (18, F18), (19, F19)] [] (by simp [c14, c23, c16, c24, c25, c18, c19]) (by simp) Try.func5 rfl (by decide) ?_
  intro xs hxs
  obtain ⟨l, cs, t, rfl, hp⟩ := F5_in hxs
  rw [F5_res]
  refine ⟨by rw [Try.ntmps5]; simp, ?_⟩
  obtain ⟨hl, hcs⟩ := hp
  by_cases h0 : (1048576 : Int) < cs.length
  · simp -implicitDefEqProofs [Try.f5, F14, F25, F16, F24, F25, F18, F19, List.lookup_cons, and_assoc, pick_and, pick_or, if_and, if_or, rbR_iR, rbR_nil, rbOb_mk, iR_mf, pickOk, -List.all_eq_true, iR_ok, ok0, iR_eq_nil, deIs_nil, hl, h0]
    refine fin_pure (by simp) ?_
    simp -implicitDefEqProofs [pur2_i, pur2_b, pur2_s, pur2_nil, pur2_sl, pur2_tup, rn2_tup, rn2_agg, rn2_osl, rn1_v, rn1_osl, rn1_agg, rn0_v, rn0_sl, rn0, pickObs, pur_v, pur_b, pur_s, pur_nil, pur_sl, deI, deIs_sl]
  by_cases hbig : (1048576 : Int) < l.length
  · simp -implicitDefEqProofs [Try.f5, F14, F25, F16, F24, F25, F18, F19, List.lookup_cons, and_assoc, pick_and, pick_or, if_and, if_or, rbR_iR, rbR_nil, rbOb_mk, iR_mf, pickOk, -List.all_eq_true, iR_ok, ok0, iR_eq_nil, deIs_nil, hl, h0, hbig]
    refine fin_pure (by simp) ?_
    simp -implicitDefEqProofs [pur2_i, pur2_b, pur2_s, pur2_nil, pur2_sl, pur2_tup, rn2_tup, rn2_agg, rn2_osl, rn1_v, rn1_osl, rn1_agg, rn0_v, rn0_sl, rn0, pickObs, pur_v, pur_b, pur_s, pur_nil, pur_sl, deI, deIs_sl]
  have hl1 : l.length ≤ 1048576 := by omega
  have hc1 : cs.length ≤ 1048576 := by omega
  have hneg : ¬ (1048576 : Int) - l.length < 0 := by omega
  by_cases hm : mOk l cs t = true
  · have hA : mAns l cs t = .tup [I (mUp cs t l l.length), B true] := by rw [mAns, if_pos hm]
    simp -implicitDefEqProofs [Try.f5, F14, F25, F16, F24, F25, F18, F19, List.lookup_cons, and_assoc, pick_and, pick_or, if_and, if_or, rbR_iR, rbR_nil, rbOb_mk, iR_mf, pickOk, -List.all_eq_true, iR_ok, ok0, iR_eq_nil, deIs_nil, hl, h0, hbig, hl1, hc1, hneg, hA, iOb, tOb, ints]
    refine fin_pure (by simp) ?_
    simp -implicitDefEqProofs [pur2_i, pur2_b, pur2_s, pur2_nil, pur2_sl, pur2_tup, rn2_tup, rn2_agg, rn2_osl, rn1_v, rn1_osl, rn1_agg, rn0_v, rn0_sl, rn0, pickObs, pur_v, pur_b, pur_s, pur_nil, pur_sl, deI, deIs_sl]
  · have hA : mAns l cs t = .tup [I 0, B false] := by rw [mAns, if_neg hm]
    simp -implicitDefEqProofs [Try.f5, F14, F25, F16, F24, F25, F18, F19, List.lookup_cons, and_assoc, pick_and, pick_or, if_and, if_or, rbR_iR, rbR_nil, rbOb_mk, iR_mf, pickOk, -List.all_eq_true, iR_ok, ok0, iR_eq_nil, deIs_nil, hl, h0, hbig, hl1, hc1, hneg, hA, iOb, tOb, ints]
    refine fin_pure (by simp) ?_
    simp -implicitDefEqProofs [pur2_i, pur2_b, pur2_s, pur2_nil, pur2_sl, pur2_tup, rn2_tup, rn2_agg, rn2_osl, rn1_v, rn1_osl, rn1_agg, rn0_v, rn0_sl, rn0, pickObs, pur_v, pur_b, pur_s, pur_nil, pur_sl, deI, deIs_sl]
end Go.Proofs
