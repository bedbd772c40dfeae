/-
  What is proved here: contracts of the ways up, the leaves, and the leaves below a class, on both sides. Condition: none.
-/
import Derived.Test.YtglbimhhiikkpaaDoorW1r
namespace Go.Proofs
open Go.Abs
set_option linter.unusedSimpArgs false
set_option linter.unnecessarySimpa false
set_option linter.unusedVariables false
set_option maxHeartbeats 8000000
set_option maxRecDepth 20000

theorem chain_nth {l : List Cls} : ∀ (n : Nat) (i : Int) (k : Nat) (h : k + 1 < (chain l n i).length), (chain l n i)[k + 1] = nxt l (chain l n i)[k]
  | 0, i, k, h => by simp [chain] at h
  | n + 1, i, k, h => by
    by_cases hi : i < 0
    · simp [chain, hi] at h
    · have e : chain l (n + 1) i = i :: chain l n (nxt l i) := by simp [chain, hi]
      simp only [e, List.length_cons] at h
      simp only [e, List.getElem_cons_succ]
      cases k with
      | zero =>
        simp only [List.getElem_cons_zero]
        cases n with
        | zero => simp [chain] at h
        | succ n =>
          by_cases hj : nxt l i < 0
          · simp [chain, hj] at h
          · simp [chain, hj]
      | succ k =>
        simp only [List.getElem_cons_succ]
        exact chain_nth n _ k (by omega)
theorem cfg_id {c : Cfg} (h : isCfg c = true) (i : Nat) (hi : i < c.cls.length) : 1 ≤ c.cls[i].id := by
  rw [isCfg_eq] at h
  simp only [cfgOk, treeOk_def, Bool.and_eq_true] at h
  have h1 := List.all_eq_true.1 h.1.1.2.1.1.1 _ (List.getElem_mem hi)
  simp only [Cls.ok, rng, Bool.and_eq_true, decide_eq_true_eq] at h1
  exact h1.1.1.1
theorem cfg_last {c : Cfg} (h : isCfg c = true) (i : Nat) (hi : i < c.cls.length) : (atC c.cls ((chain c.cls 9 (i : Int)).getLast?.getD 0).toNat).par = 0 := by
  rw [isCfg_eq] at h
  simp only [cfgOk, treeOk_def, Bool.and_eq_true] at h
  have := all_range.1 h.1.1.2.2 i hi
  simp only [nodeOk, wayOk, Bool.and_eq_true, decide_eq_true_eq] at this
  exact this.1.1.2
theorem cfg_lim {c : Cfg} (h : isCfg c = true) : c.cls.length ≤ 24 := by
  simp only [isCfg, Bool.and_eq_true, decide_eq_true_eq] at h
  exact h.1.1
def F114 : Fun := ⟨fun xs => xs = [.agg (cX (deC (xs.getD 0 .top) : Cfg)), I (deI (xs.getD 1 .top) : Int)] ∧ (fun (c : Cfg) (i : Int) => (okI c i ∧ isCfg c = true)) (deC (xs.getD 0 .top) : Cfg) (deI (xs.getD 1 .top) : Int), fun xs => (fun (c : Cfg) (i : Int) => ((.osl 0 0, [iOb (chain c.cls 9 i)]) : X × List Ob)) (deC (xs.getD 0 .top) : Cfg) (deI (xs.getD 1 .top) : Int)⟩
theorem F114_in {xs : List X} (h : F114.pre xs) : ∃ (c : Cfg) (i : Int), xs = [.agg (cX c), I i] ∧ (okI c i ∧ isCfg c = true) := ⟨_, _, h.1, h.2⟩
theorem F114_res (c : Cfg) (i : Int) : F114.res [.agg (cX c), I i] = (.osl 0 0, [iOb (chain c.cls 9 i)]) := by simp [F114]
theorem F114_mk (c : Cfg) (i : Int) (h : okI c i ∧ isCfg c = true) : F114.pre [.agg (cX c), I i] := by simpa [F114] using h
theorem c114 : GenCA K Tryd.prog 114 F114 := by
  refine contractA Tryd.mix K [(72, F72)] [] (by simp [c72]) (by simp) Tryd.func114 rfl (by decide) ?_
  intro xs hxs
  obtain ⟨c, i, rfl, hp⟩ := F114_in hxs
  rw [F114_res]
  refine ⟨by rw [Tryd.ntmps114]; simp, ?_⟩
  obtain ⟨hI, hg⟩ := hp
  obtain ⟨i, rfl⟩ := Int.eq_ofNat_of_zero_le hI.2.1
  have hi : i < c.cls.length := by have := hI.2.2; omega
  have hok := hI.1
  have hl := hI.1.1
  have T := tree_of (c := c) (by rw [← isCfg_eq]; exact hg)
  have hlast := cfg_last hg i hi
  have hway := T.way i hi
  have h0 : 0 < (chain c.cls 9 (i : Int)).length := dp_pos (l := c.cls) i
  have hmem : ∀ k : Nat, k < (chain c.cls 9 (i : Int)).length → 0 ≤ (chain c.cls 9 (i : Int)).getD k 0 ∧ ((chain c.cls 9 (i : Int)).getD k 0).toNat < c.cls.length := fun k hk => by
    have := chain_lt hi (List.getElem_mem hk)
    simpa [hk] using this
  have hnth : ∀ k : Nat, k + 1 < (chain c.cls 9 (i : Int)).length → (chain c.cls 9 (i : Int)).getD (k + 1) 0 = nxt c.cls ((chain c.cls 9 (i : Int)).getD k 0) := fun k h => by
    have := chain_nth 9 (i : Int) k h
    have h' : k < (chain c.cls 9 (i : Int)).length := by omega
    simpa [h, h'] using this
  have hz : (chain c.cls 9 (i : Int)).getD 0 0 = (i : Int) := by simp [chain_cons]
  generalize chain c.cls 9 (i : Int) = W at hlast hway h0 hmem hnth hz
  have hW1 : iR (W.take 1) = [[I (i : Int)]] := by
    cases W with
    | nil => simp at h0
    | cons x W => simp at hz; subst hz; simp [iR_cons, iR_nil]
  simp -implicitDefEqProofs [Tryd.f114, F72, List.lookup_cons, and_assoc, pick_and, pick_or, if_and, if_or, eBuildSlice, srcRows, srcOk, chunk]
  refine loopP_inv (fun k : Nat => ⟨28, tl [(1, I (W.getD k 0)), (2, .optr 0 0 0 0), (5, .osl 1 0)], [cBx c, iOb (W.take (k + 1))]⟩) (fun k => k < W.length) (fun k => W.length - k) 0 h0 ?_ ?_
  · rw [hz, show iOb (W.take (0 + 1)) = ⟨3, 1, 0, [[I (i : Int)]], false, true, none⟩ by simp only [iOb, Nat.zero_add, hW1]]
    exact Wk.tl (by simp [hold, upd, tl_cons, iOb, hW1])
  intro k hk
  obtain ⟨m0, m1⟩ := hmem k hk
  obtain ⟨j, hj⟩ := Int.eq_ofNat_of_zero_le m0
  have hjl : j < c.cls.length := by rw [hj] at m1; simpa using m1
  have hjW : W[k]?.getD 0 = (j : Int) := by rw [← List.getD_eq_getElem?_getD]; exact hj
  by_cases hpar : c.cls[j].par = 0
  · have e : k + 1 = W.length := by
      rcases Nat.lt_or_ge (k + 1) W.length with h | h
      · exfalso
        have h1 := hnth k h
        obtain ⟨n0, n1⟩ := hmem (k + 1) h
        obtain ⟨p, hp⟩ := Int.eq_ofNat_of_zero_le n0
        rw [hp] at h1 n1
        rw [hj] at h1
        simp only [nxt, Int.toNat_natCast, atC_eq hjl] at h1
        obtain ⟨hpl, hid⟩ := fidx_id h1.symm
        have := cfg_id hg p hpl
        omega
      · omega
    simp -implicitDefEqProofs [List.lookup_cons, and_assoc, pick_and, pick_or, if_and, if_or, cBx, iOb, hjW, hjl, hpar]
    refine fin_own [1] (by simp [pickOk, -List.all_eq_true, iR_ok]) ?_
    simp -implicitDefEqProofs [pur2_i, pur2_b, pur2_s, pur2_nil, pur2_sl, pur2_tup, rn2_tup, rn2_agg, rn2_osl, rn1_v, rn1_osl, rn1_agg, rn0_v, rn0_sl, rn0, pickObs, pur_v, pur_b, pur_s, pur_nil, pur_sl, deI, deIs_sl, iOb, e]
  · have h : k + 1 < W.length := by
      rcases Nat.lt_or_ge (k + 1) W.length with h | h
      · exact h
      · exfalso
        apply hpar
        have e : W.getLast?.getD 0 = (j : Int) := by
          rw [List.getLast?_eq_getElem?, show W.length - 1 = k by omega, ← List.getD_eq_getElem?_getD, hj]
        rw [e] at hlast
        simpa [atC_eq hjl] using hlast
    have h1 := hnth k h
    rw [hj] at h1
    simp only [nxt, Int.toNat_natCast, atC_eq hjl] at h1
    obtain ⟨n0, n1⟩ := hmem (k + 1) h
    have hT : W.take (k + 1 + 1) = W.take (k + 1) ++ [fidx c.cls c.cls[j].par] := by rw [takeS W (k + 1) h, ← h1]; simp [h]
    have hD : W[k + 1]?.getD 0 = fidx c.cls c.cls[j].par := by rw [← List.getD_eq_getElem?_getD]; exact h1
    simp -implicitDefEqProofs [List.lookup_cons, and_assoc, pick_and, pick_or, if_and, if_or, cBx, iOb, hjW, hjl, hpar]
    refine drawP_all _ (by decide) ?_
    simp -implicitDefEqProofs [List.lookup_cons, and_assoc, pick_and, pick_or, if_and, if_or, cBx, iOb, hjW, hjl, hpar, hok, F72, eAppend, eBuildSlice, srcRows, srcOk, chunk]
    refine ⟨by omega, by omega, k + 1, by omega, by omega, ?_⟩
    rw [show iR (W.take (k + 1)) ++ [[I (fidx c.cls c.cls[j].par)]] = iR (W.take (k + 1 + 1)) by rw [hT]; simp [← iR_append, iR_cons, iR_nil]]
    refine Wk.tlP [0, 1] (by simp [pickOk, -List.all_eq_true, iR_ok, ok0]) ?_ ?_
    · simp [pickObs]
    · rw [hD]
      simp [hold, upd, tl_cons, rn1, rn0]
      exact ⟨rfl, rfl⟩
/-! ### leaves -/
def leafL (l : List Cls) (n : Nat) : List Nat := (List.range n).filter (leafB l)
theorem leafL_succ (l : List Cls) (n : Nat) : leafL l (n + 1) = leafL l n ++ (if leafB l n = true then [n] else []) := by
  unfold leafL
  rw [List.range_succ, List.filter_append]
  cases h : leafB l n <;> simp [h]
theorem leafL_len (l : List Cls) (n : Nat) : (leafL l n).length ≤ n := by
  unfold leafL
  exact Nat.le_trans (List.length_filter_le _ _) (by simp)
theorem leafL_lt (l : List Cls) (n : Nat) : ∀ k ∈ leafL l n, k < n := by
  intro k hk
  unfold leafL at hk
  simpa using (List.mem_filter.1 hk).1
def F112 : Fun := ⟨fun xs => xs = [.agg (cX (deC (xs.getD 0 .top) : Cfg))] ∧ (fun (c : Cfg) => (okC c)) (deC (xs.getD 0 .top) : Cfg), fun xs => (fun (c : Cfg) => ((.osl 0 0, [iOb (nI (leafL c.cls c.cls.length))]) : X × List Ob)) (deC (xs.getD 0 .top) : Cfg)⟩
theorem F112_in {xs : List X} (h : F112.pre xs) : ∃ (c : Cfg), xs = [.agg (cX c)] ∧ (okC c) := ⟨_, h.1, h.2⟩
theorem F112_res (c : Cfg) : F112.res [.agg (cX c)] = (.osl 0 0, [iOb (nI (leafL c.cls c.cls.length))]) := by simp [F112]
theorem F112_mk (c : Cfg) (h : okC c) : F112.pre [.agg (cX c)] := by simpa [F112] using h
theorem c112 : GenCA K Tryd.prog 112 F112 := by
  refine contractA Tryd.mix K [(135, F135)] [] (by simp [c135]) (by simp) Tryd.func112 rfl (by decide) ?_
  intro xs hxs
  obtain ⟨c, rfl, hp⟩ := F112_in hxs
  rw [F112_res]
  refine ⟨by rw [Tryd.ntmps112]; simp, ?_⟩
  have hl := hp.1
  simp -implicitDefEqProofs [Tryd.f112, List.lookup_cons, and_assoc, pick_and, pick_or, if_and, if_or, eBuildSlice, srcRows, srcOk, chunk]
  refine loopP_inv (fun k : Nat => ⟨21, tl [(1, .optr 0 0 0 0), (3, .osl 1 0), (7, .sl (tR c.cls)), (8, I c.cls.length), (9, I k)], [cBx c, iOb (nI (leafL c.cls k))]⟩) (fun k => k ≤ c.cls.length) (fun k => c.cls.length - k) 0 (Nat.zero_le _) (Wk.tl (by simp [hold, upd, tl_cons])) ?_
  intro k hk
  by_cases h : k < c.cls.length
  · have hw1 := w64n (show k < 4611686018427387904 by omega)
    have hS := leafL_succ c.cls k
    have hln := leafL_len c.cls k
    have hln2 := nI_len (leafL c.cls k)
    have hok2 : okI c (k : Int) := ⟨hp, by omega, by omega⟩
    cases hq : leafB c.cls k with
    | true =>
      rw [if_pos hq] at hS
      simp -implicitDefEqProofs [List.lookup_cons, and_assoc, pick_and, pick_or, if_and, if_or, h, cBx, iOb, F135, hok2, hq, eAppend, eBuildSlice, srcRows, srcOk, chunk]
      refine ⟨by omega, by omega, k + 1, by omega, by omega, ?_⟩
      rw [show iR (nI (leafL c.cls k)) ++ [[I (k : Int)]] = iR (nI (leafL c.cls (k + 1))) by rw [hS]; simp [nI, ← iR_append, iR_cons, iR_nil]]
      refine Wk.tlP [0, 1] (by simp [pickOk, -List.all_eq_true, iR_ok, ok0]) ?_ ?_
      · simp [pickObs]
      · simp [hold, upd, tl_cons, rn1, rn0, hw1]
        exact ⟨rfl, rfl⟩
    | false =>
      rw [hq, if_neg (by simp), List.append_nil] at hS
      simp -implicitDefEqProofs [List.lookup_cons, and_assoc, pick_and, pick_or, if_and, if_or, h, cBx, iOb, F135, hok2, hq, eAppend, eBuildSlice, srcRows, srcOk, chunk]
      refine ⟨k + 1, by omega, by omega, ?_⟩
      rw [hS]
      exact Wk.tlD (m := 2) rfl (by simp [hold, upd, tl_cons, hw1]) (by simp [okL_cons, okL_nil, ok1, ok0]) (okH_cBx _ _ _ (okH_iR _ _ _ _ _ _ _ _ _ (by simp [okH_nil])))
  · have e : k = c.cls.length := by omega
    subst e
    simp -implicitDefEqProofs [List.lookup_cons, and_assoc, pick_and, pick_or, if_and, if_or, iOb, cBx]
    refine fin_own [1] (by simp [pickOk, -List.all_eq_true, iR_ok]) ?_
    simp -implicitDefEqProofs [pur2_i, pur2_b, pur2_s, pur2_nil, pur2_sl, pur2_tup, rn2_tup, rn2_agg, rn2_osl, rn1_v, rn1_osl, rn1_agg, rn0_v, rn0_sl, rn0, pickObs, pur_v, pur_b, pur_s, pur_nil, pur_sl, deI, deIs_sl, iOb]
/-! ### the leaves below a class, in two orders -/
def belI (l : List Cls) (i : Nat) (js : List Nat) : List Int := (js.filter fun j : Nat => (chain l 9 (j : Int)).contains (i : Int)).map fun j : Nat => (atC l j).id
def belS (l : List Cls) (js : List Nat) : List Int := (js.filter (leafB l)).map fun j : Nat => (atC l j).id
theorem fmS {α : Type} (p : α → Bool) (g : α → Int) (l : List α) (k : Nat) (h : k < l.length) : ((l.take (k + 1)).filter p).map g = ((l.take k).filter p).map g ++ (if p l[k] = true then [g l[k]] else []) := by
  rw [takeS l k h, List.filter_append, List.map_append]
  cases hq : p l[k] <;> simp [hq, List.filter_cons]
theorem fmS_len {α : Type} (p : α → Bool) (g : α → Int) (l : List α) (k : Nat) : (((l.take k).filter p).map g).length ≤ k := by
  rw [List.length_map]
  exact Nat.le_trans (List.length_filter_le _ _) (by simp; omega)
def F73 : Fun := ⟨fun xs => xs = [.agg (cX (deC (xs.getD 0 .top) : Cfg)), I (deI (xs.getD 1 .top) : Int)] ∧ (fun (c : Cfg) (i : Int) => (okI c i ∧ isCfg c = true)) (deC (xs.getD 0 .top) : Cfg) (deI (xs.getD 1 .top) : Int), fun xs => (fun (c : Cfg) (i : Int) => ((.osl 0 0, [iOb (belI c.cls i.toNat (leafL c.cls c.cls.length))]) : X × List Ob)) (deC (xs.getD 0 .top) : Cfg) (deI (xs.getD 1 .top) : Int)⟩
theorem F73_in {xs : List X} (h : F73.pre xs) : ∃ (c : Cfg) (i : Int), xs = [.agg (cX c), I i] ∧ (okI c i ∧ isCfg c = true) := ⟨_, _, h.1, h.2⟩
theorem F73_res (c : Cfg) (i : Int) : F73.res [.agg (cX c), I i] = (.osl 0 0, [iOb (belI c.cls i.toNat (leafL c.cls c.cls.length))]) := by simp [F73]
theorem F73_mk (c : Cfg) (i : Int) (h : okI c i ∧ isCfg c = true) : F73.pre [.agg (cX c), I i] := by simpa [F73] using h
theorem c73 : GenCA K Tryd.prog 73 F73 := by
  refine contractA Tryd.mix K [(112, F112), (114, F114), (113, F113)] [] (by simp [c112, c114, c113]) (by simp) Tryd.func73 rfl (by decide) ?_
  intro xs hxs
  obtain ⟨c, i, rfl, hp⟩ := F73_in hxs
  rw [F73_res]
  refine ⟨by rw [Tryd.ntmps73]; simp, ?_⟩
  obtain ⟨hI, hg⟩ := hp
  obtain ⟨i, rfl⟩ := Int.eq_ofNat_of_zero_le hI.2.1
  have hi : i < c.cls.length := by have := hI.2.2; omega
  have hok := hI.1
  have hsm := cfg_lim hg
  have T := tree_of (c := c) (by rw [← isCfg_eq]; exact hg)
  have hlt := leafL_lt c.cls c.cls.length
  have hkl := leafL_len c.cls c.cls.length
  simp -implicitDefEqProofs [Tryd.f73, List.lookup_cons, and_assoc, pick_and, pick_or, if_and, if_or, F112, hok, iOb, eBuildSlice, srcRows, srcOk, chunk]
  generalize hK : leafL c.cls c.cls.length = ks at hlt hkl
  have hnl := nI_len ks
  refine loopP_inv (fun k : Nat => ⟨32, tl [(1, I i), (2, .optr 0 0 0 0), (5, .osl 1 0), (10, .osl 2 0), (11, I ks.length), (12, I k)], [cBx c, iOb (belI c.cls i (ks.take k)), iOb (nI ks)]⟩) (fun k => k ≤ ks.length) (fun k => ks.length - k) 0 (Nat.zero_le _) (Wk.tl (by simp [hold, upd, tl_cons, hnl])) ?_
  intro k hk
  by_cases h : k < ks.length
  · have hw1 := w64n (show k < 4611686018427387904 by omega)
    have hkc : ks[k] < c.cls.length := hlt _ (List.getElem_mem h)
    have hok2 : okI c ((ks[k] : Nat) : Int) := ⟨hok, by omega, by omega⟩
    have hS : belI c.cls i (ks.take (k + 1)) = belI c.cls i (ks.take k) ++ _ := fmS _ _ ks k h
    have hln : (belI c.cls i (ks.take k)).length ≤ k := fmS_len _ _ ks k
    have hcl : (chain c.cls 9 ((ks[k] : Nat) : Int)).length ≤ 1048576 := by have := T.way _ hkc; omega
    rw [atC_eq hkc] at hS
    cases hq : (chain c.cls 9 ((ks[k] : Nat) : Int)).contains (i : Int) with
    | true =>
      rw [if_pos hq] at hS
      simp -implicitDefEqProofs [List.lookup_cons, and_assoc, pick_and, pick_or, if_and, if_or, h, cBx, iOb, hnl, nI_get, hkc, F114, F113, hok2, hg, hcl, hq, -List.contains_eq_mem, eAppend, eBuildSlice, srcRows, srcOk, chunk]
      refine ⟨by omega, by omega, k + 1, by omega, by omega, ?_⟩
      rw [show iR (belI c.cls i (ks.take k)) ++ [[I c.cls[ks[k]].id]] = iR (belI c.cls i (ks.take (k + 1))) by rw [hS]; simp [← iR_append, iR_cons, iR_nil]]
      refine Wk.tlP [0, 1, 2] (by simp [pickOk, -List.all_eq_true, iR_ok, ok0]) ?_ ?_
      · simp [pickObs]
      · simp [hold, upd, tl_cons, rn1, rn0, hw1]
        exact ⟨rfl, rfl, rfl⟩
    | false =>
      rw [hq, if_neg (by simp), List.append_nil] at hS
      simp -implicitDefEqProofs [List.lookup_cons, and_assoc, pick_and, pick_or, if_and, if_or, h, cBx, iOb, hnl, nI_get, hkc, F114, F113, hok2, hg, hcl, hq, -List.contains_eq_mem, eAppend, eBuildSlice, srcRows, srcOk, chunk]
      refine ⟨k + 1, by omega, by omega, ?_⟩
      rw [hS]
      exact Wk.tlD (m := 3) rfl (by simp [hold, upd, tl_cons, hw1]) (by simp [okL_cons, okL_nil, ok1, ok0]) (okH_cBx _ _ _ (okH_iR _ _ _ _ _ _ _ _ _ (okH_iR _ _ _ _ _ _ _ _ _ (by simp [okH_nil]))))
  · have e : k = ks.length := by omega
    subst e
    rw [List.take_length]
    simp -implicitDefEqProofs [List.lookup_cons, and_assoc, pick_and, pick_or, if_and, if_or, iOb, cBx]
    refine fin_own [1] (by simp [pickOk, -List.all_eq_true, iR_ok]) ?_
    simp -implicitDefEqProofs [pur2_i, pur2_b, pur2_s, pur2_nil, pur2_sl, pur2_tup, rn2_tup, rn2_agg, rn2_osl, rn1_v, rn1_osl, rn1_agg, rn0_v, rn0_sl, rn0, pickObs, pur_v, pur_b, pur_s, pur_nil, pur_sl, deI, deIs_sl, iOb]
def F70 : Fun := ⟨fun xs => xs = [.agg (cX (deC (xs.getD 0 .top) : Cfg)), I (deI (xs.getD 1 .top) : Int)] ∧ (fun (c : Cfg) (i : Int) => (okI c i ∧ isCfg c = true)) (deC (xs.getD 0 .top) : Cfg) (deI (xs.getD 1 .top) : Int), fun xs => (fun (c : Cfg) (i : Int) => ((.osl 0 0, [iOb (belS c.cls (walk c.cls i.toNat))]) : X × List Ob)) (deC (xs.getD 0 .top) : Cfg) (deI (xs.getD 1 .top) : Int)⟩
theorem F70_in {xs : List X} (h : F70.pre xs) : ∃ (c : Cfg) (i : Int), xs = [.agg (cX c), I i] ∧ (okI c i ∧ isCfg c = true) := ⟨_, _, h.1, h.2⟩
theorem F70_res (c : Cfg) (i : Int) : F70.res [.agg (cX c), I i] = (.osl 0 0, [iOb (belS c.cls (walk c.cls i.toNat))]) := by simp [F70]
theorem F70_mk (c : Cfg) (i : Int) (h : okI c i ∧ isCfg c = true) : F70.pre [.agg (cX c), I i] := by simpa [F70] using h
theorem c70 : GenCA K Tryd.prog 70 F70 := by
  refine contractA Tryd.mix K [(108, F108), (109, F135)] [] (by simp [c108, c109]) (by simp) Tryd.func70 rfl (by decide) ?_
  intro xs hxs
  obtain ⟨c, i, rfl, hp⟩ := F70_in hxs
  rw [F70_res]
  refine ⟨by rw [Tryd.ntmps70]; simp, ?_⟩
  obtain ⟨hI, hg⟩ := hp
  obtain ⟨i, rfl⟩ := Int.eq_ofNat_of_zero_le hI.2.1
  have hi : i < c.cls.length := by have := hI.2.2; omega
  have hok := hI.1
  have hsm := cfg_lim hg
  have T := tree_of (c := c) (by rw [← isCfg_eq]; exact hg)
  have hlt : ∀ k ∈ walk c.cls i, k < c.cls.length := fun k hk => walk_lt T hi hk
  have hkl := walk_len T hi
  simp -implicitDefEqProofs [Tryd.f70, List.lookup_cons, and_assoc, pick_and, pick_or, if_and, if_or, F108, hI, hg, iOb, eBuildSlice, srcRows, srcOk, chunk]
  generalize hK : walk c.cls i = ks at hlt hkl
  have hnl := nI_len ks
  refine loopP_inv (fun k : Nat => ⟨30, tl [(2, .optr 0 0 0 0), (5, .osl 2 0), (10, .osl 1 0), (11, I ks.length), (12, I k)], [cBx c, iOb (nI ks), iOb (belS c.cls (ks.take k))]⟩) (fun k => k ≤ ks.length) (fun k => ks.length - k) 0 (Nat.zero_le _) (Wk.tlN (h := [cBx c, iOb (nI ks)]) 3 1 5 (by simp [upd]) (by simp [hold, upd, tl_cons, hnl])) ?_
  intro k hk
  by_cases h : k < ks.length
  · have hw1 := w64n (show k < 4611686018427387904 by omega)
    have hkc : ks[k] < c.cls.length := hlt _ (List.getElem_mem h)
    have hok2 : okI c ((ks[k] : Nat) : Int) := ⟨hok, by omega, by omega⟩
    have hS : belS c.cls (ks.take (k + 1)) = belS c.cls (ks.take k) ++ _ := fmS _ _ ks k h
    have hln : (belS c.cls (ks.take k)).length ≤ k := fmS_len _ _ ks k
    rw [atC_eq hkc] at hS
    cases hq : leafB c.cls ks[k] with
    | true =>
      rw [if_pos hq] at hS
      simp -implicitDefEqProofs [List.lookup_cons, and_assoc, pick_and, pick_or, if_and, if_or, h, cBx, iOb, hnl, nI_get, hkc, F135, hok2, hq, eAppend, eBuildSlice, srcRows, srcOk, chunk]
      refine ⟨by omega, by omega, k + 1, by omega, by omega, ?_⟩
      rw [show iR (belS c.cls (ks.take k)) ++ [[I c.cls[ks[k]].id]] = iR (belS c.cls (ks.take (k + 1))) by rw [hS]; simp [← iR_append, iR_cons, iR_nil]]
      refine Wk.tlP [0, 1, 2] (by simp [pickOk, -List.all_eq_true, iR_ok, ok0]) ?_ ?_
      · simp [pickObs]
      · simp [hold, upd, tl_cons, rn1, rn0, hw1]
        exact ⟨rfl, rfl, rfl⟩
    | false =>
      rw [hq, if_neg (by simp), List.append_nil] at hS
      simp -implicitDefEqProofs [List.lookup_cons, and_assoc, pick_and, pick_or, if_and, if_or, h, cBx, iOb, hnl, nI_get, hkc, F135, hok2, hq, eAppend, eBuildSlice, srcRows, srcOk, chunk]
      refine ⟨k + 1, by omega, by omega, ?_⟩
      rw [hS]
      exact Wk.tlD (m := 3) rfl (by simp [hold, upd, tl_cons, hw1]) (by simp [okL_cons, okL_nil, ok1, ok0]) (okH_cBx _ _ _ (okH_iR _ _ _ _ _ _ _ _ _ (okH_iR _ _ _ _ _ _ _ _ _ (by simp [okH_nil]))))
  · have e : k = ks.length := by omega
    subst e
    rw [List.take_length]
    simp -implicitDefEqProofs [List.lookup_cons, and_assoc, pick_and, pick_or, if_and, if_or, iOb, cBx]
    refine fin_own [2] (by simp [pickOk, -List.all_eq_true, iR_ok]) ?_
    simp -implicitDefEqProofs [pur2_i, pur2_b, pur2_s, pur2_nil, pur2_sl, pur2_tup, rn2_tup, rn2_agg, rn2_osl, rn1_v, rn1_osl, rn1_agg, rn0_v, rn0_sl, rn0, pickObs, pur_v, pur_b, pur_s, pur_nil, pur_sl, deI, deIs_sl, iOb]
/-- both orders hold the same -/
theorem below_perm {l : List Cls} (T : Tree l) {i : Nat} (hi : i < l.length) : (belI l i (leafL l l.length)).Perm (belS l (walk l i)) := by
  unfold belI belS
  refine List.Perm.map _ ?_
  have h := (walk_perm T hi).filter (leafB l)
  refine List.Perm.trans ?_ h.symm
  unfold leafL
  rw [List.filter_filter, List.filter_filter]
  rw [show (fun a : Nat => ((chain l 9 (a : Int)).contains (i : Int) && leafB l a)) = fun a : Nat => (leafB l a && (chain l 9 (a : Int)).contains (i : Int)) from funext fun a => Bool.and_comm _ _]
end Go.Proofs
