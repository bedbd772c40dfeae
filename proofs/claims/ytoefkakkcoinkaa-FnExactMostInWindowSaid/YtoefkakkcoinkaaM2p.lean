/-
  What is proved here: contracts of the two MostInWindow and of their law. Condition: none.
-/
import Derived.Test.YtoefkakkcoinkaaM1p
import Derived.Test.YtoefkakkcoinkaaE3p
import Derived.Test.YtoefkakkcoinkaaE5p
import Derived.Test.YtoefkakkcoinkaaE6p
namespace Go.Proofs
open Go.Abs
set_option linter.unusedSimpArgs false
set_option linter.unnecessarySimpa false
set_option linter.unusedVariables false
set_option maxHeartbeats 8000000
set_option maxRecDepth 20000

theorem all_stepI (l : List Int) (p : Int → Bool) (k : Nat) (h : k < l.length) (h1 : (l.take k).all p = true) (h2 : p l[k] = true) : (l.take (k + 1)).all p = true := by
  rw [takeS l k h, List.all_append, h1]; simp [h2]
theorem all_badI (l : List Int) (p : Int → Bool) (k : Nat) (h : k < l.length) (h2 : p l[k] = false) : l.all p = false := not_true fun h3 => by
  rw [List.all_eq_true] at h3
  rw [h3 _ (List.getElem_mem h)] at h2; cases h2
def F44 : Fun := ⟨fun xs => xs = [.sl (iR (deIs (xs.getD 0 .top) : List Int)), I (deI (xs.getD 1 .top) : Int), I (deI (xs.getD 2 .top) : Int)] ∧ (fun (l : List Int) (lo : Int) (hi : Int) => (l.length ≤ 1048576)) (deIs (xs.getD 0 .top) : List Int) (deI (xs.getD 1 .top) : Int) (deI (xs.getD 2 .top) : Int), fun xs => (fun (l : List Int) (lo : Int) (hi : Int) => ((B (l.all (rng lo hi)), []) : X × List Ob)) (deIs (xs.getD 0 .top) : List Int) (deI (xs.getD 1 .top) : Int) (deI (xs.getD 2 .top) : Int)⟩
theorem F44_in {xs : List X} (h : F44.pre xs) : ∃ (l : List Int) (lo : Int) (hi : Int), xs = [.sl (iR l), I lo, I hi] ∧ (l.length ≤ 1048576) := ⟨_, _, _, h.1, h.2⟩
theorem F44_res (l : List Int) (lo : Int) (hi : Int) : F44.res [.sl (iR l), I lo, I hi] = (B (l.all (rng lo hi)), []) := by simp [F44]
theorem F44_mk (l : List Int) (lo : Int) (hi : Int) (h : l.length ≤ 1048576) : F44.pre [.sl (iR l), I lo, I hi] := by simpa [F44] using h
theorem c44 : GenCA K Try.prog 44 F44 := by
  refine contractA Try.mix K [(45, F45)] [] (by simp [c45]) (by simp) Try.func44 rfl (by decide) ?_
  intro xs hxs
  obtain ⟨l, lo, hi, rfl, hp⟩ := F44_in hxs
  rw [F44_res]
  refine ⟨by rw [Try.ntmps44]; simp, ?_⟩
  simp -implicitDefEqProofs [Try.f44, List.lookup_cons, and_assoc, pick_and, pick_or, if_and, if_or]
  refine loopP_inv (fun k : Nat => ⟨21, tl [(1, I lo), (2, I hi), (9, .sl (iR l)), (10, I l.length), (11, I k)], []⟩) (fun k => k ≤ l.length ∧ (l.take k).all (rng lo hi) = true) (fun k => l.length - k) 0 (by simp) (Wk.tl (by simp [hold, upd, tl_cons])) ?_
  rintro k ⟨hk, ha⟩
  by_cases h : k < l.length
  · have hw1 := w64n (show k < 4611686018427387904 by omega)
    cases hr : rng lo hi l[k] with
    | true =>
      simp -implicitDefEqProofs [List.lookup_cons, and_assoc, pick_and, pick_or, if_and, if_or, h, F45, hr]
      exact ⟨k + 1, by omega, by simpa using all_stepI l _ k h ha hr, by omega, Wk.tl (by simp [hold, upd, tl_cons, hw1])⟩
    | false =>
      have hb := all_badI l _ k h hr
      simp -implicitDefEqProofs [List.lookup_cons, and_assoc, pick_and, pick_or, if_and, if_or, h, F45, hr]
      refine fin_pure (by simp) ?_
      simp -implicitDefEqProofs [pur2_i, pur2_b, pur2_s, pur2_nil, pur2_sl, pur2_tup, rn2_tup, rn2_agg, rn2_osl, rn1_v, rn1_osl, rn1_agg, rn0_v, rn0_sl, rn0, pickObs, pur_v, pur_b, pur_s, pur_nil, pur_sl, deI, deIs_sl, hb]
  · have e : k = l.length := by omega
    subst e
    rw [List.take_length] at ha
    simp -implicitDefEqProofs [List.lookup_cons, and_assoc, pick_and, pick_or, if_and, if_or]
    refine fin_pure (by simp) ?_
    simp -implicitDefEqProofs [pur2_i, pur2_b, pur2_s, pur2_nil, pur2_sl, pur2_tup, rn2_tup, rn2_agg, rn2_osl, rn1_v, rn1_osl, rn1_agg, rn0_v, rn0_sl, rn0, pickObs, pur_v, pur_b, pur_s, pur_nil, pur_sl, deI, deIs_sl, ha]
def F47 : Fun := ⟨fun xs => xs = [I (deI (xs.getD 0 .top) : Int), I (deI (xs.getD 1 .top) : Int)] ∧ (fun (a : Int) (b : Int) => (True)) (deI (xs.getD 0 .top) : Int) (deI (xs.getD 1 .top) : Int), fun xs => (fun (a : Int) (b : Int) => ((I (max a b), []) : X × List Ob)) (deI (xs.getD 0 .top) : Int) (deI (xs.getD 1 .top) : Int)⟩
theorem F47_in {xs : List X} (h : F47.pre xs) : ∃ (a : Int) (b : Int), xs = [I a, I b] ∧ (True) := ⟨_, _, h.1, h.2⟩
theorem F47_res (a : Int) (b : Int) : F47.res [I a, I b] = (I (max a b), []) := by simp [F47]
theorem F47_mk (a : Int) (b : Int) (h : True) : F47.pre [I a, I b] := by simpa [F47] using h
theorem c47 : GenCA K Try.prog 47 F47 := by
  refine contractA Try.mix K [] [] (by simp) (by simp) Try.func47 rfl (by decide) ?_
  intro xs hxs
  obtain ⟨a, b, rfl, hp⟩ := F47_in hxs
  rw [F47_res]
  refine ⟨by rw [Try.ntmps47]; simp, ?_⟩
  by_cases h : b < a
  · have e : max a b = a := by omega
    simp -implicitDefEqProofs [Try.f47, List.lookup_cons, and_assoc, pick_and, pick_or, if_and, if_or, h]
    refine fin_pure (by simp) ?_
    simp -implicitDefEqProofs [pur2_i, pur2_b, pur2_s, pur2_nil, pur2_sl, pur2_tup, rn2_tup, rn2_agg, rn2_osl, rn1_v, rn1_osl, rn1_agg, rn0_v, rn0_sl, rn0, pickObs, pur_v, pur_b, pur_s, pur_nil, pur_sl, deI, deIs_sl, e]
  · have e : max a b = b := by omega
    simp -implicitDefEqProofs [Try.f47, List.lookup_cons, and_assoc, pick_and, pick_or, if_and, if_or, h]
    refine fin_pure (by simp) ?_
    simp -implicitDefEqProofs [pur2_i, pur2_b, pur2_s, pur2_nil, pur2_sl, pur2_tup, rn2_tup, rn2_agg, rn2_osl, rn1_v, rn1_osl, rn1_agg, rn0_v, rn0_sl, rn0, pickObs, pur_v, pur_b, pur_s, pur_nil, pur_sl, deI, deIs_sl, e]
def idxI (l : List Int) (q : Int) : Int := match l.findIdx? (fun x => decide (q = x)) with | some i => (i : Int) | none => -1
theorem idxI_found (l : List Int) (q : Int) (k : Nat) (h : k < l.length) (h1 : (l.take k).all (fun x => !decide (q = x)) = true) (h2 : q = l[k]) : idxI l q = (k : Int) := by
  have : l.findIdx? (fun x => decide (q = x)) = some k := by
    rw [List.findIdx?_eq_some_iff_getElem]
    refine ⟨h, by simpa using h2, fun j hj => ?_⟩
    rw [List.all_eq_true] at h1
    have := h1 l[j] (List.mem_take_iff_getElem.2 ⟨j, by omega, rfl⟩)
    simpa using this
  simp [idxI, this]
theorem idxI_none (l : List Int) (q : Int) (h1 : l.all (fun x => !decide (q = x)) = true) : idxI l q = -1 := by
  have : l.findIdx? (fun x => decide (q = x)) = none := by
    rw [List.findIdx?_eq_none_iff]
    intro x hx
    rw [List.all_eq_true] at h1
    simpa using h1 x hx
  simp [idxI, this]
theorem idxI_has (l : List Int) (q : Int) : decide (0 ≤ idxI l q) = l.contains q := by
  rw [Bool.eq_iff_iff, List.contains_iff_mem, decide_eq_true_eq]
  unfold idxI
  cases h : l.findIdx? (fun x => decide (q = x)) with
  | none =>
    rw [List.findIdx?_eq_none_iff] at h
    simp
    intro hm
    have := h q hm
    simp at this
  | some i =>
    obtain ⟨hi, hp, _⟩ := List.findIdx?_eq_some_iff_getElem.1 h
    simp at hp
    simp
    rw [hp]; exact List.getElem_mem hi
def F67 : Fun := ⟨fun xs => xs = [.sl (iR (deIs (xs.getD 0 .top) : List Int)), I (deI (xs.getD 1 .top) : Int)] ∧ (fun (l : List Int) (q : Int) => (l.length ≤ 1048576)) (deIs (xs.getD 0 .top) : List Int) (deI (xs.getD 1 .top) : Int), fun xs => (fun (l : List Int) (q : Int) => ((I (idxI l q), []) : X × List Ob)) (deIs (xs.getD 0 .top) : List Int) (deI (xs.getD 1 .top) : Int)⟩
theorem F67_in {xs : List X} (h : F67.pre xs) : ∃ (l : List Int) (q : Int), xs = [.sl (iR l), I q] ∧ (l.length ≤ 1048576) := ⟨_, _, h.1, h.2⟩
theorem F67_res (l : List Int) (q : Int) : F67.res [.sl (iR l), I q] = (I (idxI l q), []) := by simp [F67]
theorem F67_mk (l : List Int) (q : Int) (h : l.length ≤ 1048576) : F67.pre [.sl (iR l), I q] := by simpa [F67] using h
theorem c67 : GenCA K Try.prog 67 F67 := by
  refine contractA Try.mix K [] [] (by simp) (by simp) Try.func67 rfl (by decide) ?_
  intro xs hxs
  obtain ⟨l, q, rfl, hp⟩ := F67_in hxs
  rw [F67_res]
  refine ⟨by rw [Try.ntmps67]; simp, ?_⟩
  simp -implicitDefEqProofs [Try.f67, List.lookup_cons, and_assoc, pick_and, pick_or, if_and, if_or]
  refine loopP_inv (fun k : Nat => ⟨19, tl [(0, .sl (iR l)), (1, I q), (7, I l.length), (8, I k)], []⟩) (fun k => k ≤ l.length ∧ (l.take k).all (fun x => !decide (q = x)) = true) (fun k => l.length - k) 0 (by simp) (Wk.tl (by simp [hold, upd, tl_cons])) ?_
  rintro k ⟨hk, ha⟩
  by_cases h : k < l.length
  · have hw1 := w64n (show k < 4611686018427387904 by omega)
    by_cases hq : q = l[k]
    · have hf := idxI_found l q k h ha hq
      simp -implicitDefEqProofs [List.lookup_cons, and_assoc, pick_and, pick_or, if_and, if_or, h, hq]
      refine fin_pure (by simp) ?_
      rw [← hq]
      simp -implicitDefEqProofs [pur2_i, pur2_b, pur2_s, pur2_nil, pur2_sl, pur2_tup, rn2_tup, rn2_agg, rn2_osl, rn1_v, rn1_osl, rn1_agg, rn0_v, rn0_sl, rn0, pickObs, pur_v, pur_b, pur_s, pur_nil, pur_sl, deI, deIs_sl, hf]
    · simp -implicitDefEqProofs [List.lookup_cons, and_assoc, pick_and, pick_or, if_and, if_or, h, hq]
      exact ⟨k + 1, by omega, by simpa using all_stepI l _ k h ha (by simp [hq]), by omega, Wk.tl (by simp [hold, upd, tl_cons, hw1])⟩
  · have e : k = l.length := by omega
    subst e
    rw [List.take_length] at ha
    simp -implicitDefEqProofs [List.lookup_cons, and_assoc, pick_and, pick_or, if_and, if_or]
    refine fin_pure (by simp) ?_
    simp -implicitDefEqProofs [pur2_i, pur2_b, pur2_s, pur2_nil, pur2_sl, pur2_tup, rn2_tup, rn2_agg, rn2_osl, rn1_v, rn1_osl, rn1_agg, rn0_v, rn0_sl, rn0, pickObs, pur_v, pur_b, pur_s, pur_nil, pur_sl, deI, deIs_sl, idxI_none l q ha]
def F49 : Fun := ⟨fun xs => xs = [.sl (iR (deIs (xs.getD 0 .top) : List Int)), I (deI (xs.getD 1 .top) : Int)] ∧ (fun (l : List Int) (q : Int) => (l.length ≤ 1048576)) (deIs (xs.getD 0 .top) : List Int) (deI (xs.getD 1 .top) : Int), fun xs => (fun (l : List Int) (q : Int) => ((B (l.contains q), []) : X × List Ob)) (deIs (xs.getD 0 .top) : List Int) (deI (xs.getD 1 .top) : Int)⟩
theorem F49_in {xs : List X} (h : F49.pre xs) : ∃ (l : List Int) (q : Int), xs = [.sl (iR l), I q] ∧ (l.length ≤ 1048576) := ⟨_, _, h.1, h.2⟩
theorem F49_res (l : List Int) (q : Int) : F49.res [.sl (iR l), I q] = (B (l.contains q), []) := by simp [F49]
theorem F49_mk (l : List Int) (q : Int) (h : l.length ≤ 1048576) : F49.pre [.sl (iR l), I q] := by simpa [F49] using h
theorem c49 : GenCA K Try.prog 49 F49 := by
  refine contractA Try.mix K [(67, F67)] [] (by simp [c67]) (by simp) Try.func49 rfl (by decide) ?_
  intro xs hxs
  obtain ⟨l, q, rfl, hp⟩ := F49_in hxs
  rw [F49_res]
  refine ⟨by rw [Try.ntmps49]; simp, ?_⟩
  have hh := idxI_has l q
  simp -implicitDefEqProofs [Try.f49, F67, List.lookup_cons, and_assoc, pick_and, pick_or, if_and, if_or, hp, hh]
  refine fin_pure (by simp) ?_
  simp -implicitDefEqProofs [pur2_i, pur2_b, pur2_s, pur2_nil, pur2_sl, pur2_tup, rn2_tup, rn2_agg, rn2_osl, rn1_v, rn1_osl, rn1_agg, rn0_v, rn0_sl, rn0, pickObs, pur_v, pur_b, pur_s, pur_nil, pur_sl, deI, deIs_sl]

def oiI (cs : List Int) (l : List Evt) (k : Nat) : List Int := (oi cs l k).map fun i : Nat => (i : Int)
theorem oiI_succ (cs : List Int) (l : List Evt) (k : Nat) (h : k < l.length) : oiI cs l (k + 1) = oiI cs l k ++ (if outP cs l[k] = true then [(k : Int)] else []) := by
  unfold oiI
  rw [oi_succ, atE_eq h]
  cases outP cs l[k] <;> simp
theorem oiI_len (cs : List Int) (l : List Evt) (k : Nat) : (oiI cs l k).length ≤ k := by unfold oiI; rw [List.length_map]; exact oi_len cs l k
def F46 : Fun := ⟨fun xs => xs = [.sl (tR (deT (xs.getD 0 .top) : List Evt)), .sl (iR (deIs (xs.getD 1 .top) : List Int))] ∧ (fun (l : List Evt) (cs : List Int) => (l.length ≤ 1048576 ∧ cs.length ≤ 1048576)) (deT (xs.getD 0 .top) : List Evt) (deIs (xs.getD 1 .top) : List Int), fun xs => (fun (l : List Evt) (cs : List Int) => ((.osl 0 0, [iOb (oiI cs l l.length)]) : X × List Ob)) (deT (xs.getD 0 .top) : List Evt) (deIs (xs.getD 1 .top) : List Int)⟩
theorem F46_in {xs : List X} (h : F46.pre xs) : ∃ (l : List Evt) (cs : List Int), xs = [.sl (tR l), .sl (iR cs)] ∧ (l.length ≤ 1048576 ∧ cs.length ≤ 1048576) := ⟨_, _, h.1, h.2⟩
theorem F46_res (l : List Evt) (cs : List Int) : F46.res [.sl (tR l), .sl (iR cs)] = (.osl 0 0, [iOb (oiI cs l l.length)]) := by simp [F46]
theorem F46_mk (l : List Evt) (cs : List Int) (h : l.length ≤ 1048576 ∧ cs.length ≤ 1048576) : F46.pre [.sl (tR l), .sl (iR cs)] := by simpa [F46] using h
theorem c46 : GenCA K Try.prog 46 F46 := by
  refine contractA Try.mix K [(65, F65)] [] (by simp [c65]) (by simp) Try.func46 rfl (by decide) ?_
  intro xs hxs
  obtain ⟨l, cs, rfl, hp⟩ := F46_in hxs
  rw [F46_res]
  refine ⟨by rw [Try.ntmps46]; simp, ?_⟩
  obtain ⟨hl, hcs⟩ := hp
  simp -implicitDefEqProofs [Try.f46, List.lookup_cons, and_assoc, pick_and, pick_or, if_and, if_or]
  refine loopP_inv (fun k : Nat => ⟨30, tl [(1, .sl (iR cs)), (5, .osl 0 0), (8, .sl (tR l)), (9, I l.length), (10, I k)], [iOb (oiI cs l k)]⟩) (fun k => k ≤ l.length) (fun k => l.length - k) 0 (Nat.zero_le _) (Wk.tlN (h := []) 3 1 5 (by simp [upd]) (by simp [hold, upd, tl_cons])) ?_
  intro k hk
  by_cases h : k < l.length
  · have hw1 := w64n (show k < 4611686018427387904 by omega)
    have hS := oiI_succ cs l k h
    have hln := oiI_len cs l k
    by_cases h4 : l[k].kind = 4
    · cases hc : cs.contains l[k].cls with
      | true =>
        have hc' : l[k].cls ∈ cs := List.contains_iff_mem.1 hc
        have ho : outP cs l[k] = true := by simp [outP, h4, hc']
        simp -implicitDefEqProofs [List.lookup_cons, and_assoc, pick_and, pick_or, if_and, if_or, h, F65, h4, hcs, hc', iOb, eAppend, eBuildSlice, srcRows, srcOk, chunk]
        refine ⟨by omega, by omega, k + 1, by omega, by omega, ?_⟩
        rw [hS, if_pos ho]
        refine Wk.tlP [0] (by simp [pickOk, -List.all_eq_true, iR_ok, ok0]) ?_ ?_
        · simp [pickObs, ← iR_append, iR_cons, iR_nil]
        · simp [hold, upd, tl_cons, rn1, rn0, hw1]
      | false =>
        have hc' : l[k].cls ∉ cs := fun e => by rw [List.contains_iff_mem.2 e] at hc; cases hc
        have ho : ¬ outP cs l[k] = true := by simp [outP, h4, hc']
        simp -implicitDefEqProofs [List.lookup_cons, and_assoc, pick_and, pick_or, if_and, if_or, h, F65, h4, hcs, hc', iOb]
        refine ⟨k + 1, by omega, by omega, ?_⟩
        rw [hS, if_neg ho, List.append_nil]
        exact Wk.tlD (m := 1) rfl (by simp [hold, upd, tl_cons, hw1]) (by simp [okL_cons, okL_nil, ok1, ok0]) (okH_iR _ _ _ _ _ _ _ _ _ (by simp [okH_nil]))
    · have ho : ¬ outP cs l[k] = true := by simp [outP, h4]
      simp -implicitDefEqProofs [List.lookup_cons, and_assoc, pick_and, pick_or, if_and, if_or, h, F65, h4, iOb]
      refine ⟨k + 1, by omega, by omega, ?_⟩
      rw [hS, if_neg ho, List.append_nil]
      exact Wk.tlD (m := 1) rfl (by simp [hold, upd, tl_cons, hw1]) (by simp [okL_cons, okL_nil, ok1, ok0]) (okH_iR _ _ _ _ _ _ _ _ _ (by simp [okH_nil]))
  · have e : k = l.length := by omega
    subst e
    simp -implicitDefEqProofs [List.lookup_cons, and_assoc, pick_and, pick_or, if_and, if_or, iOb]
    refine fin_own [0] (by simp [pickOk, -List.all_eq_true, iR_ok]) ?_
    simp -implicitDefEqProofs [pur2_i, pur2_b, pur2_s, pur2_nil, pur2_sl, pur2_tup, rn2_tup, rn2_agg, rn2_osl, rn1_v, rn1_osl, rn1_agg, rn0_v, rn0_sl, rn0, pickObs, pur_v, pur_b, pur_s, pur_nil, pur_sl, deI, deIs_sl, iOb]
end Go.Proofs
