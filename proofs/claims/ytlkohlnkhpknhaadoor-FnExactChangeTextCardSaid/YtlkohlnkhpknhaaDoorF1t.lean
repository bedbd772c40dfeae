/-
  What is proved here: contracts of both FlatFilter and of the law. Condition: none.
-/
import Derived.Test.YtlkohlnkhpknhaaDoorH1t
namespace Go.Proofs
open Go.Abs
set_option linter.unusedSimpArgs false
set_option linter.unnecessarySimpa false
set_option linter.unusedVariables false
set_option maxHeartbeats 8000000
set_option maxRecDepth 20000


def F11 : Fun := ⟨fun xs => xs = [.agg (rX (deA (xs.getD 0 .top) : Fil))] ∧ (fun (e : Fil) => (True)) (deA (xs.getD 0 .top) : Fil), fun xs => (fun (e : Fil) => ((.agg (rX e), []) : X × List Ob)) (deA (xs.getD 0 .top) : Fil)⟩
theorem F11_in {xs : List X} (h : F11.pre xs) : ∃ (e : Fil), xs = [.agg (rX e)] ∧ (True) := ⟨_, h.1, h.2⟩
theorem F11_res (e : Fil) : F11.res [.agg (rX e)] = (.agg (rX e), []) := by simp [F11]
theorem F11_mk (e : Fil) (h : True) : F11.pre [.agg (rX e)] := by simpa [F11] using h
theorem c11 : GenCA K Tryd.prog 11 F11 := by
  refine contractA Tryd.mix K [] [] (by simp) (by simp) Tryd.func11 rfl (by decide) ?_
  intro xs hxs
  obtain ⟨e, rfl, hp⟩ := F11_in hxs
  rw [F11_res]
  refine ⟨by rw [Tryd.ntmps11]; simp, ?_⟩
  simp -implicitDefEqProofs [Tryd.f11, List.lookup_cons, and_assoc, pick_and, pick_or, if_and, if_or]
  refine fin_pure (by simp) ?_
  simp -implicitDefEqProofs [pur2_i, pur2_b, pur2_s, pur2_nil, pur2_sl, pur2_tup, rn2_tup, rn2_agg, rn2_osl, rn1_v, rn1_osl, rn1_agg, rn0_v, rn0_sl, rn0, pickObs, pur_v, pur_b, pur_s, pur_nil, pur_sl, deI, deIs_sl]

def fWords : List ByteArray := [⟨#[]⟩, ⟨#[102, 105, 101, 108, 100]⟩, ⟨#[109, 97, 115, 107]⟩, ⟨#[118, 97, 108, 117, 101]⟩, ⟨#[116, 111]⟩]
theorem flat_eqF (ts : List ByteArray) (h : ts.length = 5) : joinB (filterB :: prtL fWords ts 5) spB = lgL fWs ts filterB := by
  match ts, h with
  | [a, b, c, d, e], _ =>
    have e1 : prtL fWords [a, b, c, d, e] 5 = [a, ⟨#[102, 105, 101, 108, 100]⟩, b, ⟨#[109, 97, 115, 107]⟩, c, ⟨#[118, 97, 108, 117, 101]⟩, d, ⟨#[116, 111]⟩, e] := rfl
    have e2 : lgL fWs [a, b, c, d, e] filterB = filterB ++ (spB ++ a) ++ (spB ++ ⟨#[102, 105, 101, 108, 100]⟩) ++ (spB ++ b) ++ (spB ++ ⟨#[109, 97, 115, 107]⟩) ++ (spB ++ c) ++ (spB ++ ⟨#[118, 97, 108, 117, 101]⟩) ++ (spB ++ d) ++ (spB ++ ⟨#[116, 111]⟩) ++ (spB ++ e) := rfl
    rw [e1, e2]
    simp only [join_sp, join_one', ba_assoc]
theorem flat_sizeF (ts : List ByteArray) (h : ts.length = 5) (ht : ∀ t ∈ ts, t.size ≤ 70000) : (joinB (filterB :: prtL fWords ts 5) spB).size ≤ 1000000 := by
  rw [flat_eqF ts h]
  match ts, h, ht with
  | [a, b, c, d, e], _, ht =>
    have e2 : lgL fWs [a, b, c, d, e] filterB = filterB ++ (spB ++ a) ++ (spB ++ ⟨#[102, 105, 101, 108, 100]⟩) ++ (spB ++ b) ++ (spB ++ ⟨#[109, 97, 115, 107]⟩) ++ (spB ++ c) ++ (spB ++ ⟨#[118, 97, 108, 117, 101]⟩) ++ (spB ++ d) ++ (spB ++ ⟨#[116, 111]⟩) ++ (spB ++ e) := rfl
    rw [e2]
    have q : ∀ n : Nat, (ByteArray.size ⟨#[102, 105, 101, 108, 100]⟩) = 5 ∧ (ByteArray.size ⟨#[109, 97, 115, 107]⟩) = 4 ∧ (ByteArray.size ⟨#[118, 97, 108, 117, 101]⟩) = 5 ∧ (ByteArray.size ⟨#[116, 111]⟩) = 2 ∧ spB.size = 1 ∧ filterB.size = 6 := fun _ => ⟨rfl, rfl, rfl, rfl, rfl, rfl⟩
    obtain ⟨q1, q2, q3, q4, q5, q6⟩ := q 0
    have h1 := ht a (by simp)
    have h2 := ht b (by simp)
    have h3 := ht c (by simp)
    have h4 := ht d (by simp)
    have h5 := ht e (by simp)
    simp only [ba_sz]
    omega
def numsF (x : Fil) : List Int := [x.prio, x.field, x.mask, x.value, x.target]
def F52 : Fun := ⟨fun xs => xs = [.agg (rX (deA (xs.getD 0 .top) : Fil))] ∧ (fun (x : Fil) => (True)) (deA (xs.getD 0 .top) : Fil), fun xs => (fun (x : Fil) => ((.osl 0 0, [iOb (numsF x)]) : X × List Ob)) (deA (xs.getD 0 .top) : Fil)⟩
theorem F52_in {xs : List X} (h : F52.pre xs) : ∃ (x : Fil), xs = [.agg (rX x)] ∧ (True) := ⟨_, h.1, h.2⟩
theorem F52_res (x : Fil) : F52.res [.agg (rX x)] = (.osl 0 0, [iOb (numsF x)]) := by simp [F52]
theorem F52_mk (x : Fil) (h : True) : F52.pre [.agg (rX x)] := by simpa [F52] using h
theorem c52 : GenCA K Tryd.prog 52 F52 := by
  refine contractA Tryd.mix K [] [] (by simp) (by simp) Tryd.func52 rfl (by decide) ?_
  intro xs hxs
  obtain ⟨x, rfl, hp⟩ := F52_in hxs
  rw [F52_res]
  refine ⟨by rw [Tryd.ntmps52]; simp, ?_⟩
  simp -implicitDefEqProofs [Tryd.f52, List.lookup_cons, and_assoc, pick_and, pick_or, if_and, if_or, eBuildSlice, srcRows, srcOk, chunk, show List.range 5 = [0, 1, 2, 3, 4] from rfl]
  refine fin_own [1] (by simp [pickOk, ok0]) ?_
  simp -implicitDefEqProofs [pur2_i, pur2_b, pur2_s, pur2_nil, pur2_sl, pur2_tup, rn2_tup, rn2_agg, rn2_osl, rn1_v, rn1_osl, rn1_agg, rn0_v, rn0_sl, rn0, pickObs, pur_v, pur_b, pur_s, pur_nil, pur_sl, deI, deIs_sl, iOb, numsF, iR_cons, iR_nil]
theorem c50 : GenCA K Tryd.prog 50 F52 := by
  refine contractA Tryd.mix K [] [] (by simp) (by simp) Tryd.func50 rfl (by decide) ?_
  intro xs hxs
  obtain ⟨x, rfl, hp⟩ := F52_in hxs
  rw [F52_res]
  refine ⟨by rw [Tryd.ntmps50]; simp, ?_⟩
  simp -implicitDefEqProofs [Tryd.f50, List.lookup_cons, and_assoc, pick_and, pick_or, if_and, if_or, eBuildSlice, srcRows, srcOk, chunk, show List.range 5 = [0, 1, 2, 3, 4] from rfl]
  refine fin_own [1] (by simp [pickOk, ok0]) ?_
  simp -implicitDefEqProofs [pur2_i, pur2_b, pur2_s, pur2_nil, pur2_sl, pur2_tup, rn2_tup, rn2_agg, rn2_osl, rn1_v, rn1_osl, rn1_agg, rn0_v, rn0_sl, rn0, pickObs, pur_v, pur_b, pur_s, pur_nil, pur_sl, deI, deIs_sl, iOb, numsF, iR_cons, iR_nil]
def F54 : Fun := ⟨fun xs => xs = [] ∧ ((True)), fun xs => (((.osl 0 0, [strOb fWords]) : X × List Ob))⟩
theorem F54_in {xs : List X} (h : F54.pre xs) : xs = [] ∧ (True) := h
theorem F54_res  : F54.res [] = (.osl 0 0, [strOb fWords]) := by simp [F54]
theorem F54_mk  (h : True) : F54.pre [] := by simpa [F54] using h
theorem c54 : GenCA K Tryd.prog 54 F54 := by
  refine contractA Tryd.mix K [] [] (by simp) (by simp) Tryd.func54 rfl (by decide) ?_
  intro xs hxs
  obtain ⟨rfl, hp⟩ := F54_in hxs
  rw [F54_res]
  refine ⟨by rw [Tryd.ntmps54]; simp, ?_⟩
  simp -implicitDefEqProofs [Tryd.f54, List.lookup_cons, and_assoc, pick_and, pick_or, if_and, if_or, eBuildSlice, srcRows, srcOk, chunk, show List.range 5 = [0, 1, 2, 3, 4] from rfl]
  refine fin_own [0] (by simp [pickOk, ok0]) ?_
  simp -implicitDefEqProofs [pur2_i, pur2_b, pur2_s, pur2_nil, pur2_sl, pur2_tup, rn2_tup, rn2_agg, rn2_osl, rn1_v, rn1_osl, rn1_agg, rn0_v, rn0_sl, rn0, pickObs, pur_v, pur_b, pur_s, pur_nil, pur_sl, deI, deIs_sl, strOb, sR, fWords]
def okF0 (x : Fil) : Bool := (numsF x).all (rng 0 1000000000)
def okF (x : Fil) : Bool := okF0 x && decide (x.mask ≤ 65535) && decide (x.value ≤ 65535)
def F30 : Fun := ⟨fun xs => xs = [.agg (rX (deA (xs.getD 0 .top) : Fil))] ∧ (fun (x : Fil) => (True)) (deA (xs.getD 0 .top) : Fil), fun xs => (fun (x : Fil) => ((B (okF x), []) : X × List Ob)) (deA (xs.getD 0 .top) : Fil)⟩
theorem F30_in {xs : List X} (h : F30.pre xs) : ∃ (x : Fil), xs = [.agg (rX x)] ∧ (True) := ⟨_, h.1, h.2⟩
theorem F30_res (x : Fil) : F30.res [.agg (rX x)] = (B (okF x), []) := by simp [F30]
theorem F30_mk (x : Fil) (h : True) : F30.pre [.agg (rX x)] := by simpa [F30] using h
theorem c30 : GenCA K Tryd.prog 30 F30 := by
  refine contractA Tryd.mix K [(52, F52), (25, F25)] [] (by simp [c52, c25]) (by simp) Tryd.func30 rfl (by decide) ?_
  intro xs hxs
  obtain ⟨x, rfl, hp⟩ := F30_in hxs
  rw [F30_res]
  refine ⟨by rw [Tryd.ntmps30]; simp, ?_⟩
  have h4 : (numsF x).length = 5 := rfl
  cases ho : okF0 x with
  | false =>
    have ho' : ((numsF x).all (rng 0 1000000000)) = false := ho
    simp -implicitDefEqProofs [Tryd.f30, F52, F25, List.lookup_cons, and_assoc, pick_and, pick_or, if_and, if_or, iOb, h4, ho', -List.all_eq_false, -List.all_eq_true]
    refine fin_pure (by simp) ?_
    simp -implicitDefEqProofs [pur2_i, pur2_b, pur2_s, pur2_nil, pur2_sl, pur2_tup, rn2_tup, rn2_agg, rn2_osl, rn1_v, rn1_osl, rn1_agg, rn0_v, rn0_sl, rn0, pickObs, pur_v, pur_b, pur_s, pur_nil, pur_sl, deI, deIs_sl, okF, ho]
  | true =>
    have ho' : ((numsF x).all (rng 0 1000000000)) = true := ho
    by_cases hm : x.mask ≤ 65535
    · simp -implicitDefEqProofs [Tryd.f30, F52, F25, List.lookup_cons, and_assoc, pick_and, pick_or, if_and, if_or, iOb, h4, ho', hm, -List.all_eq_false, -List.all_eq_true]
      refine fin_pure (by simp) ?_
      simp -implicitDefEqProofs [pur2_i, pur2_b, pur2_s, pur2_nil, pur2_sl, pur2_tup, rn2_tup, rn2_agg, rn2_osl, rn1_v, rn1_osl, rn1_agg, rn0_v, rn0_sl, rn0, pickObs, pur_v, pur_b, pur_s, pur_nil, pur_sl, deI, deIs_sl, okF, ho, hm]
    · simp -implicitDefEqProofs [Tryd.f30, F52, F25, List.lookup_cons, and_assoc, pick_and, pick_or, if_and, if_or, iOb, h4, ho', hm, -List.all_eq_false, -List.all_eq_true]
      refine fin_pure (by simp) ?_
      simp -implicitDefEqProofs [pur2_i, pur2_b, pur2_s, pur2_nil, pur2_sl, pur2_tup, rn2_tup, rn2_agg, rn2_osl, rn1_v, rn1_osl, rn1_agg, rn0_v, rn0_sl, rn0, pickObs, pur_v, pur_b, pur_s, pur_nil, pur_sl, deI, deIs_sl, okF, ho, hm]
theorem c28 : GenCA K Tryd.prog 28 F30 := by
  refine contractA Tryd.mix K [(50, F52), (22, F22)] [] (by simp [c50, c22]) (by simp) Tryd.func28 rfl (by decide) ?_
  intro xs hxs
  obtain ⟨x, rfl, hp⟩ := F30_in hxs
  rw [F30_res]
  refine ⟨by rw [Tryd.ntmps28]; simp, ?_⟩
  have h4 : (numsF x).length = 5 := rfl
  cases ho : okF0 x with
  | false =>
    have ho' : ((numsF x).all (rng 0 1000000000)) = false := ho
    simp -implicitDefEqProofs [Tryd.f28, F52, F22, List.lookup_cons, and_assoc, pick_and, pick_or, if_and, if_or, iOb, h4, ho', -List.all_eq_false, -List.all_eq_true]
    refine fin_pure (by simp) ?_
    simp -implicitDefEqProofs [pur2_i, pur2_b, pur2_s, pur2_nil, pur2_sl, pur2_tup, rn2_tup, rn2_agg, rn2_osl, rn1_v, rn1_osl, rn1_agg, rn0_v, rn0_sl, rn0, pickObs, pur_v, pur_b, pur_s, pur_nil, pur_sl, deI, deIs_sl, okF, ho]
  | true =>
    have ho' : ((numsF x).all (rng 0 1000000000)) = true := ho
    by_cases hm : x.mask ≤ 65535
    · simp -implicitDefEqProofs [Tryd.f28, F52, F22, List.lookup_cons, and_assoc, pick_and, pick_or, if_and, if_or, iOb, h4, ho', hm, -List.all_eq_false, -List.all_eq_true]
      refine fin_pure (by simp) ?_
      simp -implicitDefEqProofs [pur2_i, pur2_b, pur2_s, pur2_nil, pur2_sl, pur2_tup, rn2_tup, rn2_agg, rn2_osl, rn1_v, rn1_osl, rn1_agg, rn0_v, rn0_sl, rn0, pickObs, pur_v, pur_b, pur_s, pur_nil, pur_sl, deI, deIs_sl, okF, ho, hm]
    · simp -implicitDefEqProofs [Tryd.f28, F52, F22, List.lookup_cons, and_assoc, pick_and, pick_or, if_and, if_or, iOb, h4, ho', hm, -List.all_eq_false, -List.all_eq_true]
      refine fin_pure (by simp) ?_
      simp -implicitDefEqProofs [pur2_i, pur2_b, pur2_s, pur2_nil, pur2_sl, pur2_tup, rn2_tup, rn2_agg, rn2_osl, rn1_v, rn1_osl, rn1_agg, rn0_v, rn0_sl, rn0, pickObs, pur_v, pur_b, pur_s, pur_nil, pur_sl, deI, deIs_sl, okF, ho, hm]
def fTx (x : Fil) : List ByteArray := [numB x.prio.toNat, numB x.field.toNat, hexB x.mask.toNat, hexB x.value.toNat, numB x.target.toNat]
def okFs (x : Fil) : Prop := (0 ≤ x.prio ∧ x.prio ≤ 1000000000) ∧ (0 ≤ x.field ∧ x.field ≤ 1000000000) ∧ (0 ≤ x.mask ∧ x.mask ≤ 65535) ∧ (0 ≤ x.value ∧ x.value ≤ 65535) ∧ (0 ≤ x.target ∧ x.target ≤ 1000000000)
theorem okF_s {x : Fil} (h : okF x = true) : okFs x := by
  simp [okF, okF0, numsF, rng] at h
  unfold okFs
  omega
theorem hexL_dig : ∀ (k n : Nat) (o : ByteArray), n < 16 ^ (k + 1) → (hexL n o).size ≤ o.size + (k + 1)
  | 0, n, o, h => by
    rw [hexL_last o (by omega), ByteArray.size_append, hexD_size]
    omega
  | k + 1, n, o, h => by
    by_cases h0 : n / 16 = 0
    · rw [hexL_last o h0, ByteArray.size_append, hexD_size]; omega
    · rw [hexL_more o h0]
      have := hexL_dig k (n / 16) (hexD n ++ o) (by rw [Nat.pow_succ] at h; omega)
      rw [ByteArray.size_append, hexD_size] at this
      omega
theorem hexB_size (n : Nat) (h : n ≤ 65535) : (hexB n).size ≤ 64 := by
  unfold hexB
  rw [ByteArray.size_append, show (ByteArray.mk #[48, 120]).size = 2 from rfl]
  have := hexL_dig 3 n emB (by omega)
  have h0 : emB.size = 0 := rfl
  omega
theorem fTx_size {x : Fil} (h : okFs x) : ∀ t ∈ fTx x, t.size ≤ 64 := by
  obtain ⟨⟨a1, a2⟩, ⟨b1, b2⟩, ⟨c1, c2⟩, ⟨d1, d2⟩, ⟨e1, e2⟩⟩ := h
  have q1 := numB_size x.prio.toNat (by omega)
  have q2 := numB_size x.field.toNat (by omega)
  have q3 := hexB_size x.mask.toNat (by omega)
  have q4 := hexB_size x.value.toNat (by omega)
  have q5 := numB_size x.target.toNat (by omega)
  simp [fTx]
  omega
def lineF (x : Fil) : ByteArray := lgL fWs (fTx x) filterB
def F31 : Fun := ⟨fun xs => xs = [.agg (rX (deA (xs.getD 0 .top) : Fil))] ∧ (fun (x : Fil) => (okF x = true)) (deA (xs.getD 0 .top) : Fil), fun xs => (fun (x : Fil) => ((.v (.string (lineF x)), []) : X × List Ob)) (deA (xs.getD 0 .top) : Fil)⟩
theorem F31_in {xs : List X} (h : F31.pre xs) : ∃ (x : Fil), xs = [.agg (rX x)] ∧ (okF x = true) := ⟨_, h.1, h.2⟩
theorem F31_res (x : Fil) : F31.res [.agg (rX x)] = (.v (.string (lineF x)), []) := by simp [F31]
theorem F31_mk (x : Fil) (h : okF x = true) : F31.pre [.agg (rX x)] := by simpa [F31] using h
theorem c31 : GenCA K Tryd.prog 31 F31 := by
  refine contractA Tryd.mix K [(52, F52), (49, F49), (53, F53), (54, F54), (47, F47)] [] (by simp [c52, c49, c53, c54, c47]) (by simp) Tryd.func31 rfl (by decide) ?_
  intro xs hxs
  obtain ⟨x, rfl, hp⟩ := F31_in hxs
  rw [F31_res]
  refine ⟨by rw [Tryd.ntmps31]; simp, ?_⟩
  have hs := okF_s hp
  have h2 := flat_sizeF (fTx x) rfl (fun t ht => by have := fTx_size hs t ht; omega)
  have h3 : joinB (filterB :: prtL fWords (fTx x) 5) spB = lineF x := flat_eqF (fTx x) rfl
  have h6 : (joinB (filterB :: prtL fWords (fTx x) 5) spB).size ≤ 140737488355328 := by omega
  have h7 : (lineF x).size ≤ 140737488355328 := by rw [← h3]; exact h6
  obtain ⟨⟨a1, a2⟩, ⟨b1, b2⟩, ⟨c1, c2⟩, ⟨d1, d2⟩, ⟨e1, e2⟩⟩ := hs
  have c3 : x.mask ≤ 1000000000 := by omega
  have d3 : x.value ≤ 1000000000 := by omega
  simp -implicitDefEqProofs [Tryd.f31, List.lookup_cons, and_assoc, pick_and, pick_or, if_and, if_or, F52, F49, F53, F54, F47, iOb, strOb, numsF, a1, a2, b1, b2, c1, c2, c3, d1, d2, d3, e1, e2, sR_cons', sR_nil', fWords, h3, h6, h7]
  refine ⟨rfl, rfl, rfl, (by omega : 5 ≤ 16), h6, ?_⟩
  refine fin_pure (by simp) ?_
  show ((.v (.string (joinB (filterB :: prtL fWords (fTx x) 5) spB)), []) : X × List Ob) = _
  rw [h3]
theorem isVS (b : ByteArray) : isV (.v (.string b)) = true := rfl
theorem c29 : GenCA K Tryd.prog 29 F31 := by
  refine contractA Tryd.mix K [(44, F44), (51, F51), (45, F45)] [] (by simp [c44, c51, c45]) (by simp) Tryd.func29 rfl (by decide) ?_
  intro xs hxs
  obtain ⟨x, rfl, hp⟩ := F31_in hxs
  rw [F31_res]
  refine ⟨by rw [Tryd.ntmps29]; simp, ?_⟩
  have hs := okF_s hp
  have hlw : lgW filterB = fWs := by
    unfold lgW
    rw [if_neg fun e => absurd (congrArg ByteArray.size e) (by decide)]
  have hs2 := hs
  obtain ⟨⟨a1, a2⟩, ⟨b1, b2⟩, ⟨c1, c2⟩, ⟨d1, d2⟩, ⟨e1, e2⟩⟩ := hs
  simp -implicitDefEqProofs [Tryd.f29, List.lookup_cons, and_assoc, pick_and, pick_or, if_and, if_or]
  refine drawP_all _ (by decide) ?_
  simp -implicitDefEqProofs [List.lookup_cons, and_assoc, pick_and, pick_or, if_and, if_or, F44, F51, F45, a1, a2, b1, b2, c1, c2, d1, d2, e1, e2, eBSD, eBuildSlice, srcRows, srcOk, chunk, show List.range 5 = [0, 1, 2, 3, 4] from rfl, isVS]
  have hlg : lgOk filterB (fTx x) := ⟨.inr ⟨rfl, rfl⟩, fTx_size hs2⟩
  refine ⟨rfl, hlg, ?_⟩
  refine fin_pure (by simp) ?_
  show ((.v (.string (lgL (lgW filterB) (fTx x) filterB)), []) : X × List Ob) = _
  rw [hlw]
  rfl
def ffR (x : Fil) : X := if okF x = true then .tup [.v (.string (lineF x)), B true] else .tup [.v (.string emB), B false]
def F12 : Fun := ⟨fun xs => xs = [.agg (rX (deA (xs.getD 0 .top) : Fil))] ∧ (fun (x : Fil) => (True)) (deA (xs.getD 0 .top) : Fil), fun xs => (fun (x : Fil) => ((ffR x, []) : X × List Ob)) (deA (xs.getD 0 .top) : Fil)⟩
theorem F12_in {xs : List X} (h : F12.pre xs) : ∃ (x : Fil), xs = [.agg (rX x)] ∧ (True) := ⟨_, h.1, h.2⟩
theorem F12_res (x : Fil) : F12.res [.agg (rX x)] = (ffR x, []) := by simp [F12]
theorem F12_mk (x : Fil) (h : True) : F12.pre [.agg (rX x)] := by simpa [F12] using h
theorem c12 : GenCA K Tryd.prog 12 F12 := by
  refine contractA Tryd.mix K [(30, F30), (31, F31)] [] (by simp [c30, c31]) (by simp) Tryd.func12 rfl (by decide) ?_
  intro xs hxs
  obtain ⟨x, rfl, hp⟩ := F12_in hxs
  rw [F12_res]
  refine ⟨by rw [Tryd.ntmps12]; simp, ?_⟩
  cases ho : okF x with
  | false =>
    simp -implicitDefEqProofs [Tryd.f12, F30, F31, List.lookup_cons, and_assoc, pick_and, pick_or, if_and, if_or, ho]
    refine fin_pure (by simp) ?_
    simp -implicitDefEqProofs [pur2_i, pur2_b, pur2_s, pur2_nil, pur2_sl, pur2_tup, rn2_tup, rn2_agg, rn2_osl, rn1_v, rn1_osl, rn1_agg, rn0_v, rn0_sl, rn0, pickObs, pur_v, pur_b, pur_s, pur_nil, pur_sl, deI, deIs_sl, ffR, ho, emB]
  | true =>
    simp -implicitDefEqProofs [Tryd.f12, F30, F31, List.lookup_cons, and_assoc, pick_and, pick_or, if_and, if_or, ho]
    refine fin_pure (by simp) ?_
    simp -implicitDefEqProofs [pur2_i, pur2_b, pur2_s, pur2_nil, pur2_sl, pur2_tup, rn2_tup, rn2_agg, rn2_osl, rn1_v, rn1_osl, rn1_agg, rn0_v, rn0_sl, rn0, pickObs, pur_v, pur_b, pur_s, pur_nil, pur_sl, deI, deIs_sl, ffR, ho]
theorem c10 : GenCA K Tryd.prog 10 F12 := by
  refine contractA Tryd.mix K [(28, F30), (29, F31)] [] (by simp [c28, c29]) (by simp) Tryd.func10 rfl (by decide) ?_
  intro xs hxs
  obtain ⟨x, rfl, hp⟩ := F12_in hxs
  rw [F12_res]
  refine ⟨by rw [Tryd.ntmps10]; simp, ?_⟩
  cases ho : okF x with
  | false =>
    simp -implicitDefEqProofs [Tryd.f10, F30, F31, List.lookup_cons, and_assoc, pick_and, pick_or, if_and, if_or, ho]
    refine fin_pure (by simp) ?_
    simp -implicitDefEqProofs [pur2_i, pur2_b, pur2_s, pur2_nil, pur2_sl, pur2_tup, rn2_tup, rn2_agg, rn2_osl, rn1_v, rn1_osl, rn1_agg, rn0_v, rn0_sl, rn0, pickObs, pur_v, pur_b, pur_s, pur_nil, pur_sl, deI, deIs_sl, ffR, ho, emB]
  | true =>
    simp -implicitDefEqProofs [Tryd.f10, F30, F31, List.lookup_cons, and_assoc, pick_and, pick_or, if_and, if_or, ho]
    refine fin_pure (by simp) ?_
    simp -implicitDefEqProofs [pur2_i, pur2_b, pur2_s, pur2_nil, pur2_sl, pur2_tup, rn2_tup, rn2_agg, rn2_osl, rn1_v, rn1_osl, rn1_agg, rn0_v, rn0_sl, rn0, pickObs, pur_v, pur_b, pur_s, pur_nil, pur_sl, deI, deIs_sl, ffR, ho]
def F4 : Fun := ⟨fun xs => xs = [.agg (rX (deA (xs.getD 0 .top) : Fil))] ∧ (fun (x : Fil) => (True)) (deA (xs.getD 0 .top) : Fil), fun xs => (fun (x : Fil) => ((B true, []) : X × List Ob)) (deA (xs.getD 0 .top) : Fil)⟩
theorem F4_in {xs : List X} (h : F4.pre xs) : ∃ (x : Fil), xs = [.agg (rX x)] ∧ (True) := ⟨_, h.1, h.2⟩
theorem F4_res (x : Fil) : F4.res [.agg (rX x)] = (B true, []) := by simp [F4]
theorem F4_mk (x : Fil) (h : True) : F4.pre [.agg (rX x)] := by simpa [F4] using h
theorem c4 : GenCA K Tryd.prog 4 F4 := by
  refine contractA Tryd.mix K [(11, F11), (10, F12), (12, F12)] [] (by simp [c11, c10, c12]) (by simp) Tryd.func4 rfl (by decide) ?_
  intro xs hxs
  obtain ⟨x, rfl, hp⟩ := F4_in hxs
  rw [F4_res]
  refine ⟨by rw [Tryd.ntmps4]; simp, ?_⟩
  cases ho : okF x with
  | false =>
    have hR : ffR x = .tup [.v (.string emB), B false] := by unfold ffR; rw [ho]; rfl
    simp -implicitDefEqProofs [Tryd.f4, F11, F12, F12, List.lookup_cons, and_assoc, pick_and, pick_or, if_and, if_or, hR]
    refine fin_pure (by simp) ?_
    simp -implicitDefEqProofs [pur2_i, pur2_b, pur2_s, pur2_nil, pur2_sl, pur2_tup, rn2_tup, rn2_agg, rn2_osl, rn1_v, rn1_osl, rn1_agg, rn0_v, rn0_sl, rn0, pickObs, pur_v, pur_b, pur_s, pur_nil, pur_sl, deI, deIs_sl]
  | true =>
    have hR : ffR x = .tup [.v (.string (lineF x)), B true] := by unfold ffR; rw [ho]; rfl
    simp -implicitDefEqProofs [Tryd.f4, F11, F12, F12, List.lookup_cons, and_assoc, pick_and, pick_or, if_and, if_or, hR]
    refine fin_pure (by simp) ?_
    simp -implicitDefEqProofs [pur2_i, pur2_b, pur2_s, pur2_nil, pur2_sl, pur2_tup, rn2_tup, rn2_agg, rn2_osl, rn1_v, rn1_osl, rn1_agg, rn0_v, rn0_sl, rn0, pickObs, pur_v, pur_b, pur_s, pur_nil, pur_sl, deI, deIs_sl]
end Go.Proofs
