/-
  What is proved here: contracts of both FlatClass and of the law. Condition: none.
-/
import Derived.Test.YtlkohlnkhpknhaaDoorT8t
namespace Go.Proofs
open Go.Abs
set_option linter.unusedSimpArgs false
set_option linter.unnecessarySimpa false
set_option linter.unusedVariables false
set_option maxHeartbeats 8000000
set_option maxRecDepth 20000


def F8 : Fun := ⟨fun xs => xs = [.agg (rX (deA (xs.getD 0 .top) : Cls))] ∧ (fun (e : Cls) => (True)) (deA (xs.getD 0 .top) : Cls), fun xs => (fun (e : Cls) => ((.agg (rX e), []) : X × List Ob)) (deA (xs.getD 0 .top) : Cls)⟩
theorem F8_in {xs : List X} (h : F8.pre xs) : ∃ (e : Cls), xs = [.agg (rX e)] ∧ (True) := ⟨_, h.1, h.2⟩
theorem F8_res (e : Cls) : F8.res [.agg (rX e)] = (.agg (rX e), []) := by simp [F8]
theorem F8_mk (e : Cls) (h : True) : F8.pre [.agg (rX e)] := by simpa [F8] using h
theorem c8 : GenCA K Tryd.prog 8 F8 := by
  refine contractA Tryd.mix K [] [] (by simp) (by simp) Tryd.func8 rfl (by decide) ?_
  intro xs hxs
  obtain ⟨e, rfl, hp⟩ := F8_in hxs
  rw [F8_res]
  refine ⟨by rw [Tryd.ntmps8]; simp, ?_⟩
  simp -implicitDefEqProofs [Tryd.f8, List.lookup_cons, and_assoc, pick_and, pick_or, if_and, if_or]
  refine fin_pure (by simp) ?_
  simp -implicitDefEqProofs [pur2_i, pur2_b, pur2_s, pur2_nil, pur2_sl, pur2_tup, rn2_tup, rn2_agg, rn2_osl, rn1_v, rn1_osl, rn1_agg, rn0_v, rn0_sl, rn0, pickObs, pur_v, pur_b, pur_s, pur_nil, pur_sl, deI, deIs_sl]

def txts (x : Cls) : List ByteArray := (nums x).map fun n => numB n.toNat
def okN (x : Cls) : Bool := (nums x).all (rng 0 1000000000)
theorem okN_all {x : Cls} (h : okN x = true) : ∀ n ∈ nums x, 0 ≤ n ∧ n ≤ 1000000000 := by
  intro n hn
  have := List.all_eq_true.1 h n hn
  simpa [rng] using this
theorem txts_size {x : Cls} (h : okN x = true) : ∀ t ∈ txts x, t.size ≤ 64 := by
  intro t ht
  obtain ⟨n, hn, rfl⟩ := List.mem_map.1 ht
  obtain ⟨h0, h1⟩ := okN_all h n hn
  have := numB_size n.toNat (by omega)
  omega
def lineC (x : Cls) : ByteArray := lgL cWs (txts x) classB
theorem txts_len (x : Cls) : (txts x).length = 8 := rfl
def F27 : Fun := ⟨fun xs => xs = [.agg (rX (deA (xs.getD 0 .top) : Cls))] ∧ (fun (x : Cls) => (okN x = true)) (deA (xs.getD 0 .top) : Cls), fun xs => (fun (x : Cls) => ((.v (.string (lineC x)), []) : X × List Ob)) (deA (xs.getD 0 .top) : Cls)⟩
theorem F27_in {xs : List X} (h : F27.pre xs) : ∃ (x : Cls), xs = [.agg (rX x)] ∧ (okN x = true) := ⟨_, h.1, h.2⟩
theorem F27_res (x : Cls) : F27.res [.agg (rX x)] = (.v (.string (lineC x)), []) := by simp [F27]
theorem F27_mk (x : Cls) (h : okN x = true) : F27.pre [.agg (rX x)] := by simpa [F27] using h
theorem c27 : GenCA K Tryd.prog 27 F27 := by
  refine contractA Tryd.mix K [(48, F48.pu), (26, F26.pu), (49, F49.pu), (47, F47)] [] (by simp [c48.pu, c26.pu, c49.pu, c47]) (by simp) Tryd.func27 rfl (by decide) ?_
  intro xs hxs
  obtain ⟨x, rfl, hp⟩ := F27_in hxs
  rw [F27_res]
  refine ⟨by rw [Tryd.ntmps27]; simp, ?_⟩
  have h1 := okN_all hp
  have h2 := flat_size (txts x) rfl (txts_size hp)
  have h3 : joinB (classB :: prtL cWords (txts x) 8) spB = lineC x := flat_eq (txts x) rfl
  have h4 : (nums x).length = 8 := rfl
  have h5 : cWords.length = 8 := rfl
  have h6 : (joinB (classB :: prtL cWords (txts x) 8) spB).size ≤ 140737488355328 := by omega
  unfold classB txts at h3 h6
  simp -implicitDefEqProofs [Tryd.f27, List.lookup_cons, and_assoc, pick_and, pick_or, if_and, if_or]
  refine drawP_all _ (by decide) ?_
  simp -implicitDefEqProofs [List.lookup_cons, and_assoc, pick_and, pick_or, if_and, if_or, F48, F26, F49, F47, Fun.pu, strOb, iOb, h4, h5, h3, h6]
  refine ⟨h1, by rw [← h3]; exact h6, ?_⟩
  refine fin_pure (by simp) ?_
  simp -implicitDefEqProofs [pur2_i, pur2_b, pur2_s, pur2_nil, pur2_sl, pur2_tup, rn2_tup, rn2_agg, rn2_osl, rn1_v, rn1_osl, rn1_agg, rn0_v, rn0_sl, rn0, pickObs, pur_v, pur_b, pur_s, pur_nil, pur_sl, deI, deIs_sl]
theorem c24 : GenCA K Tryd.prog 24 F27 := by
  refine contractA Tryd.mix K [(23, F26), (44, F44), (45, F45)] [] (by simp [c23, c44, c45]) (by simp) Tryd.func24 rfl (by decide) ?_
  intro xs hxs
  obtain ⟨x, rfl, hp⟩ := F27_in hxs
  rw [F27_res]
  refine ⟨by rw [Tryd.ntmps24]; simp, ?_⟩
  have h1 := okN_all hp
  have h4 : (nums x).length = 8 := rfl
  have hlg : lgOk classB (txts x) := ⟨.inl ⟨rfl, rfl⟩, txts_size hp⟩
  have hlw : lgW classB = cWs := by unfold lgW; rw [if_pos rfl]
  simp -implicitDefEqProofs [Tryd.f24, List.lookup_cons, and_assoc, pick_and, pick_or, if_and, if_or, F26, iOb]
  refine loopP_inv (fun k : Nat => ⟨21, tl [(3, .osl 2 0), (7, .osl 1 0), (8, I (nums x).length), (9, I k)], [⟨26, 8, 0, [rX x], true, true, none⟩, iOb (nums x), strOb ((txts x).take k)]⟩) (fun k => k ≤ (nums x).length) (fun k => (nums x).length - k) 0 (Nat.zero_le _) (Wk.tlN (h := [⟨26, 8, 0, [rX x], true, true, none⟩, iOb (nums x)]) 9 1 3 (by simp [upd]) (by simp [hold, upd, tl_cons])) ?_
  intro k hk
  by_cases h : k < (nums x).length
  · have hw1 := w64n (show k < 4611686018427387904 by omega)
    have hrk := h1 (nums x)[k] (List.getElem_mem h)
    have hT : (txts x).take (k + 1) = (txts x).take k ++ [numB (nums x)[k].toNat] := by
      unfold txts
      rw [takeS _ k (by simpa using h)]; simp
    have hln : ((txts x).take k).length ≤ 8 := by simp [txts_len]; omega
    simp -implicitDefEqProofs [List.lookup_cons, and_assoc, pick_and, pick_or, if_and, if_or, h, iOb, strOb, F44, hrk, eAppend, eBuildSlice, srcRows, srcOk, chunk]
    refine ⟨by omega, by omega, k + 1, by omega, by omega, ?_⟩
    rw [sR_snoc, ← hT]
    refine Wk.tlP [0, 1, 2] (by simp [pickOk, -List.all_eq_true, sR_ok, iR_ok, ok0]) ?_ ?_
    · simp [pickObs]
    · simp [hold, upd, tl_cons, rn1, rn0, hw1]
      exact ⟨rfl, rfl⟩
  · have e : k = (nums x).length := by omega
    subst e
    rw [show (txts x).take (nums x).length = txts x from List.take_of_length_le (by simp [txts])]
    unfold classB at hlg hlw
    simp -implicitDefEqProofs [List.lookup_cons, and_assoc, pick_and, pick_or, if_and, if_or, strOb, iOb, F45, hlg, hlw]
    refine fin_pure (by simp) ?_
    simp -implicitDefEqProofs [pur2_i, pur2_b, pur2_s, pur2_nil, pur2_sl, pur2_tup, rn2_tup, rn2_agg, rn2_osl, rn1_v, rn1_osl, rn1_agg, rn0_v, rn0_sl, rn0, pickObs, pur_v, pur_b, pur_s, pur_nil, pur_sl, deI, deIs_sl, lineC, classB]
def fcR (x : Cls) : X := if okN x = true then .tup [.v (.string (lineC x)), B true] else .tup [.v (.string emB), B false]
def F9 : Fun := ⟨fun xs => xs = [.agg (rX (deA (xs.getD 0 .top) : Cls))] ∧ (fun (x : Cls) => (True)) (deA (xs.getD 0 .top) : Cls), fun xs => (fun (x : Cls) => ((fcR x, []) : X × List Ob)) (deA (xs.getD 0 .top) : Cls)⟩
theorem F9_in {xs : List X} (h : F9.pre xs) : ∃ (x : Cls), xs = [.agg (rX x)] ∧ (True) := ⟨_, h.1, h.2⟩
theorem F9_res (x : Cls) : F9.res [.agg (rX x)] = (fcR x, []) := by simp [F9]
theorem F9_mk (x : Cls) (h : True) : F9.pre [.agg (rX x)] := by simpa [F9] using h
theorem c9 : GenCA K Tryd.prog 9 F9 := by
  refine contractA Tryd.mix K [(26, F26), (25, F25), (27, F27)] [] (by simp [c26, c25, c27]) (by simp) Tryd.func9 rfl (by decide) ?_
  intro xs hxs
  obtain ⟨x, rfl, hp⟩ := F9_in hxs
  rw [F9_res]
  refine ⟨by rw [Tryd.ntmps9]; simp, ?_⟩
  have h4 : (nums x).length = 8 := rfl
  cases ho : okN x with
  | false =>
    have ho' : ((nums x).all (rng 0 1000000000)) = false := ho
    simp -implicitDefEqProofs [Tryd.f9, F26, F25, F27, List.lookup_cons, and_assoc, pick_and, pick_or, if_and, if_or, iOb, h4, ho', -List.all_eq_false, -List.all_eq_true]
    refine fin_pure (by simp) ?_
    simp -implicitDefEqProofs [pur2_i, pur2_b, pur2_s, pur2_nil, pur2_sl, pur2_tup, rn2_tup, rn2_agg, rn2_osl, rn1_v, rn1_osl, rn1_agg, rn0_v, rn0_sl, rn0, pickObs, pur_v, pur_b, pur_s, pur_nil, pur_sl, deI, deIs_sl, fcR, ho, emB]
  | true =>
    have ho' : ((nums x).all (rng 0 1000000000)) = true := ho
    simp -implicitDefEqProofs [Tryd.f9, F26, F25, F27, List.lookup_cons, and_assoc, pick_and, pick_or, if_and, if_or, iOb, h4, ho', ho, -List.all_eq_false, -List.all_eq_true]
    refine fin_pure (by simp) ?_
    simp -implicitDefEqProofs [pur2_i, pur2_b, pur2_s, pur2_nil, pur2_sl, pur2_tup, rn2_tup, rn2_agg, rn2_osl, rn1_v, rn1_osl, rn1_agg, rn0_v, rn0_sl, rn0, pickObs, pur_v, pur_b, pur_s, pur_nil, pur_sl, deI, deIs_sl, fcR, ho]
theorem c7 : GenCA K Tryd.prog 7 F9 := by
  refine contractA Tryd.mix K [(23, F26), (22, F22), (24, F27)] [] (by simp [c23, c22, c24]) (by simp) Tryd.func7 rfl (by decide) ?_
  intro xs hxs
  obtain ⟨x, rfl, hp⟩ := F9_in hxs
  rw [F9_res]
  refine ⟨by rw [Tryd.ntmps7]; simp, ?_⟩
  have h4 : (nums x).length = 8 := rfl
  cases ho : okN x with
  | false =>
    have ho' : ((nums x).all (rng 0 1000000000)) = false := ho
    simp -implicitDefEqProofs [Tryd.f7, F26, F22, F27, List.lookup_cons, and_assoc, pick_and, pick_or, if_and, if_or, iOb, h4, ho', -List.all_eq_false, -List.all_eq_true]
    refine fin_pure (by simp) ?_
    simp -implicitDefEqProofs [pur2_i, pur2_b, pur2_s, pur2_nil, pur2_sl, pur2_tup, rn2_tup, rn2_agg, rn2_osl, rn1_v, rn1_osl, rn1_agg, rn0_v, rn0_sl, rn0, pickObs, pur_v, pur_b, pur_s, pur_nil, pur_sl, deI, deIs_sl, fcR, ho, emB]
  | true =>
    have ho' : ((nums x).all (rng 0 1000000000)) = true := ho
    simp -implicitDefEqProofs [Tryd.f7, F26, F22, F27, List.lookup_cons, and_assoc, pick_and, pick_or, if_and, if_or, iOb, h4, ho', ho, -List.all_eq_false, -List.all_eq_true]
    refine fin_pure (by simp) ?_
    simp -implicitDefEqProofs [pur2_i, pur2_b, pur2_s, pur2_nil, pur2_sl, pur2_tup, rn2_tup, rn2_agg, rn2_osl, rn1_v, rn1_osl, rn1_agg, rn0_v, rn0_sl, rn0, pickObs, pur_v, pur_b, pur_s, pur_nil, pur_sl, deI, deIs_sl, fcR, ho]
def F3 : Fun := ⟨fun xs => xs = [.agg (rX (deA (xs.getD 0 .top) : Cls))] ∧ (fun (x : Cls) => (True)) (deA (xs.getD 0 .top) : Cls), fun xs => (fun (x : Cls) => ((B true, []) : X × List Ob)) (deA (xs.getD 0 .top) : Cls)⟩
theorem F3_in {xs : List X} (h : F3.pre xs) : ∃ (x : Cls), xs = [.agg (rX x)] ∧ (True) := ⟨_, h.1, h.2⟩
theorem F3_res (x : Cls) : F3.res [.agg (rX x)] = (B true, []) := by simp [F3]
theorem F3_mk (x : Cls) (h : True) : F3.pre [.agg (rX x)] := by simpa [F3] using h
theorem c3 : GenCA K Tryd.prog 3 F3 := by
  refine contractA Tryd.mix K [(8, F8), (7, F9), (9, F9)] [] (by simp [c8, c7, c9]) (by simp) Tryd.func3 rfl (by decide) ?_
  intro xs hxs
  obtain ⟨x, rfl, hp⟩ := F3_in hxs
  rw [F3_res]
  refine ⟨by rw [Tryd.ntmps3]; simp, ?_⟩
  cases ho : okN x with
  | false =>
    have hR : fcR x = .tup [.v (.string emB), B false] := by unfold fcR; rw [ho]; rfl
    simp -implicitDefEqProofs [Tryd.f3, F8, F9, F9, List.lookup_cons, and_assoc, pick_and, pick_or, if_and, if_or, hR]
    refine fin_pure (by simp) ?_
    simp -implicitDefEqProofs [pur2_i, pur2_b, pur2_s, pur2_nil, pur2_sl, pur2_tup, rn2_tup, rn2_agg, rn2_osl, rn1_v, rn1_osl, rn1_agg, rn0_v, rn0_sl, rn0, pickObs, pur_v, pur_b, pur_s, pur_nil, pur_sl, deI, deIs_sl]
  | true =>
    have hR : fcR x = .tup [.v (.string (lineC x)), B true] := by unfold fcR; rw [ho]; rfl
    simp -implicitDefEqProofs [Tryd.f3, F8, F9, F9, List.lookup_cons, and_assoc, pick_and, pick_or, if_and, if_or, hR]
    refine fin_pure (by simp) ?_
    simp -implicitDefEqProofs [pur2_i, pur2_b, pur2_s, pur2_nil, pur2_sl, pur2_tup, rn2_tup, rn2_agg, rn2_osl, rn1_v, rn1_osl, rn1_agg, rn0_v, rn0_sl, rn0, pickObs, pur_v, pur_b, pur_s, pur_nil, pur_sl, deI, deIs_sl]
end Go.Proofs
