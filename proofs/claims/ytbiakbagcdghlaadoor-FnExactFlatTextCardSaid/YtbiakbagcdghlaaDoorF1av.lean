/-
  What is proved here: the texts of a filter's line, on both sides. Condition: none.
-/
import Derived.Test.YtbiakbagcdghlaaDoorH1v
namespace Go.Proofs
open Go.Abs
set_option linter.unusedSimpArgs false
set_option linter.unnecessarySimpa false
set_option linter.unusedVariables false
set_option maxHeartbeats 8000000
set_option maxRecDepth 20000


def fWords : List ByteArray := [⟨#[]⟩, ⟨#[102, 105, 101, 108, 100]⟩, ⟨#[109, 97, 115, 107]⟩, ⟨#[118, 97, 108, 117, 101]⟩, ⟨#[116, 111]⟩]
theorem flat_eqF (ts : List ByteArray) (h : ts.length = 5) : joinB (filterB :: prtL fWords ts 5) spB = lgL fWs ts filterB := by
  match ts, h with
  | [a, b, c, d, e], _ =>
    have e1 : prtL fWords [a, b, c, d, e] 5 = [a, ⟨#[102, 105, 101, 108, 100]⟩, b, ⟨#[109, 97, 115, 107]⟩, c, ⟨#[118, 97, 108, 117, 101]⟩, d, ⟨#[116, 111]⟩, e] := rfl
    have e2 : lgL fWs [a, b, c, d, e] filterB = filterB ++ (spB ++ a) ++ (spB ++ ⟨#[102, 105, 101, 108, 100]⟩) ++ (spB ++ b) ++ (spB ++ ⟨#[109, 97, 115, 107]⟩) ++ (spB ++ c) ++ (spB ++ ⟨#[118, 97, 108, 117, 101]⟩) ++ (spB ++ d) ++ (spB ++ ⟨#[116, 111]⟩) ++ (spB ++ e) := rfl
    rw [e1, e2]
    simp only [join_sp, join_one', ba_assoc]
theorem flat_sizeF (ts : List ByteArray) (h : ts.length = 5) (ht : ∀ t ∈ ts, t.size ≤ 70000) : (joinB (filterB :: prtL fWords ts 5) spB).size ≤ 1000000 := by
  rw [flat_eqF ts h]
  match ts, h, ht with
  | [a, b, c, d, e], _, ht =>
    have e2 : lgL fWs [a, b, c, d, e] filterB = filterB ++ (spB ++ a) ++ (spB ++ ⟨#[102, 105, 101, 108, 100]⟩) ++ (spB ++ b) ++ (spB ++ ⟨#[109, 97, 115, 107]⟩) ++ (spB ++ c) ++ (spB ++ ⟨#[118, 97, 108, 117, 101]⟩) ++ (spB ++ d) ++ (spB ++ ⟨#[116, 111]⟩) ++ (spB ++ e) := rfl
    rw [e2]
    have q : ∀ n : Nat, (ByteArray.size ⟨#[102, 105, 101, 108, 100]⟩) = 5 ∧ (ByteArray.size ⟨#[109, 97, 115, 107]⟩) = 4 ∧ (ByteArray.size ⟨#[118, 97, 108, 117, 101]⟩) = 5 ∧ (ByteArray.size ⟨#[116, 111]⟩) = 2 ∧ spB.size = 1 ∧ filterB.size = 6 := fun _ => ⟨rfl, rfl, rfl, rfl, rfl, rfl⟩
    obtain ⟨q1, q2, q3, q4, q5, q6⟩ := q 0
    have h1 := ht a (by simp)
    have h2 := ht b (by simp)
    have h3 := ht c (by simp)
    have h4 := ht d (by simp)
    have h5 := ht e (by simp)
    simp only [ba_sz]
    omega
def numsF (x : Fil) : List Int := [x.prio, x.field, x.mask, x.value, x.target]
def F33 : Fun := ⟨fun xs => xs = [.agg (rX (deA (xs.getD 0 .top) : Fil))] ∧ (fun (x : Fil) => (True)) (deA (xs.getD 0 .top) : Fil), fun xs => (fun (x : Fil) => ((.osl 0 0, [iOb (numsF x)]) : X × List Ob)) (deA (xs.getD 0 .top) : Fil)⟩
theorem F33_in {xs : List X} (h : F33.pre xs) : ∃ (x : Fil), xs = [.agg (rX x)] ∧ (True) := ⟨_, h.1, h.2⟩
theorem F33_res (x : Fil) : F33.res [.agg (rX x)] = (.osl 0 0, [iOb (numsF x)]) := by simp [F33]
theorem F33_mk (x : Fil) (h : True) : F33.pre [.agg (rX x)] := by simpa [F33] using h
theorem c33 : GenCA K Tryd.prog 33 F33 := by
  refine contractA Tryd.mix K [] [] (by simp) (by simp) Tryd.func33 rfl (by decide) ?_
  intro xs hxs
  obtain ⟨x, rfl, hp⟩ := F33_in hxs
  rw [F33_res]
  refine ⟨by rw [Tryd.ntmps33]; simp, ?_⟩
  simp -implicitDefEqProofs [Tryd.f33, List.lookup_cons, and_assoc, pick_and, pick_or, if_and, if_or, eBuildSlice, srcRows, srcOk, chunk, show List.range 5 = [0, 1, 2, 3, 4] from rfl]
  refine fin_own [1] (by simp [pickOk, ok0]) ?_
  simp -implicitDefEqProofs [pur2_i, pur2_b, pur2_s, pur2_nil, pur2_sl, pur2_tup, rn2_tup, rn2_agg, rn2_osl, rn1_v, rn1_osl, rn1_agg, rn0_v, rn0_sl, rn0, pickObs, pur_v, pur_b, pur_s, pur_nil, pur_sl, deI, deIs_sl, iOb, numsF, iR_cons, iR_nil]
theorem c43 : GenCA K Tryd.prog 43 F33 := by
  refine contractA Tryd.mix K [] [] (by simp) (by simp) Tryd.func43 rfl (by decide) ?_
  intro xs hxs
  obtain ⟨x, rfl, hp⟩ := F33_in hxs
  rw [F33_res]
  refine ⟨by rw [Tryd.ntmps43]; simp, ?_⟩
  simp -implicitDefEqProofs [Tryd.f43, List.lookup_cons, and_assoc, pick_and, pick_or, if_and, if_or, eBuildSlice, srcRows, srcOk, chunk, show List.range 5 = [0, 1, 2, 3, 4] from rfl]
  refine fin_own [1] (by simp [pickOk, ok0]) ?_
  simp -implicitDefEqProofs [pur2_i, pur2_b, pur2_s, pur2_nil, pur2_sl, pur2_tup, rn2_tup, rn2_agg, rn2_osl, rn1_v, rn1_osl, rn1_agg, rn0_v, rn0_sl, rn0, pickObs, pur_v, pur_b, pur_s, pur_nil, pur_sl, deI, deIs_sl, iOb, numsF, iR_cons, iR_nil]
def F39 : Fun := ⟨fun xs => xs = [] ∧ ((True)), fun xs => (((.osl 0 0, [strOb fWords]) : X × List Ob))⟩
theorem F39_in {xs : List X} (h : F39.pre xs) : xs = [] ∧ (True) := h
theorem F39_res  : F39.res [] = (.osl 0 0, [strOb fWords]) := by simp [F39]
theorem F39_mk  (h : True) : F39.pre [] := by simpa [F39] using h
theorem c39 : GenCA K Tryd.prog 39 F39 := by
  refine contractA Tryd.mix K [] [] (by simp) (by simp) Tryd.func39 rfl (by decide) ?_
  intro xs hxs
  obtain ⟨rfl, hp⟩ := F39_in hxs
  rw [F39_res]
  refine ⟨by rw [Tryd.ntmps39]; simp, ?_⟩
  simp -implicitDefEqProofs [Tryd.f39, List.lookup_cons, and_assoc, pick_and, pick_or, if_and, if_or, eBuildSlice, srcRows, srcOk, chunk, show List.range 5 = [0, 1, 2, 3, 4] from rfl]
  refine fin_own [0] (by simp [pickOk, ok0]) ?_
  simp -implicitDefEqProofs [pur2_i, pur2_b, pur2_s, pur2_nil, pur2_sl, pur2_tup, rn2_tup, rn2_agg, rn2_osl, rn1_v, rn1_osl, rn1_agg, rn0_v, rn0_sl, rn0, pickObs, pur_v, pur_b, pur_s, pur_nil, pur_sl, deI, deIs_sl, strOb, sR, fWords]
def okF0 (x : Fil) : Bool := (numsF x).all (rng 0 1000000000)
def okF (x : Fil) : Bool := okF0 x && decide (x.mask ≤ 65535) && decide (x.value ≤ 65535)
def F18 : Fun := ⟨fun xs => xs = [.agg (rX (deA (xs.getD 0 .top) : Fil))] ∧ (fun (x : Fil) => (True)) (deA (xs.getD 0 .top) : Fil), fun xs => (fun (x : Fil) => ((B (okF x), []) : X × List Ob)) (deA (xs.getD 0 .top) : Fil)⟩
theorem F18_in {xs : List X} (h : F18.pre xs) : ∃ (x : Fil), xs = [.agg (rX x)] ∧ (True) := ⟨_, h.1, h.2⟩
theorem F18_res (x : Fil) : F18.res [.agg (rX x)] = (B (okF x), []) := by simp [F18]
theorem F18_mk (x : Fil) (h : True) : F18.pre [.agg (rX x)] := by simpa [F18] using h
theorem c18 : GenCA K Tryd.prog 18 F18 := by
  refine contractA Tryd.mix K [(33, F33), (31, F31)] [] (by simp [c33, c31]) (by simp) Tryd.func18 rfl (by decide) ?_
  intro xs hxs
  obtain ⟨x, rfl, hp⟩ := F18_in hxs
  rw [F18_res]
  refine ⟨by rw [Tryd.ntmps18]; simp, ?_⟩
  have h4 : (numsF x).length = 5 := rfl
  cases ho : okF0 x with
  | false =>
    have ho' : ((numsF x).all (rng 0 1000000000)) = false := ho
    simp -implicitDefEqProofs [Tryd.f18, F33, F31, List.lookup_cons, and_assoc, pick_and, pick_or, if_and, if_or, iOb, h4, ho', -List.all_eq_false, -List.all_eq_true]
    refine fin_pure (by simp) ?_
    simp -implicitDefEqProofs [pur2_i, pur2_b, pur2_s, pur2_nil, pur2_sl, pur2_tup, rn2_tup, rn2_agg, rn2_osl, rn1_v, rn1_osl, rn1_agg, rn0_v, rn0_sl, rn0, pickObs, pur_v, pur_b, pur_s, pur_nil, pur_sl, deI, deIs_sl, okF, ho]
  | true =>
    have ho' : ((numsF x).all (rng 0 1000000000)) = true := ho
    by_cases hm : x.mask ≤ 65535
    · simp -implicitDefEqProofs [Tryd.f18, F33, F31, List.lookup_cons, and_assoc, pick_and, pick_or, if_and, if_or, iOb, h4, ho', hm, -List.all_eq_false, -List.all_eq_true]
      refine fin_pure (by simp) ?_
      simp -implicitDefEqProofs [pur2_i, pur2_b, pur2_s, pur2_nil, pur2_sl, pur2_tup, rn2_tup, rn2_agg, rn2_osl, rn1_v, rn1_osl, rn1_agg, rn0_v, rn0_sl, rn0, pickObs, pur_v, pur_b, pur_s, pur_nil, pur_sl, deI, deIs_sl, okF, ho, hm]
    · simp -implicitDefEqProofs [Tryd.f18, F33, F31, List.lookup_cons, and_assoc, pick_and, pick_or, if_and, if_or, iOb, h4, ho', hm, -List.all_eq_false, -List.all_eq_true]
      refine fin_pure (by simp) ?_
      simp -implicitDefEqProofs [pur2_i, pur2_b, pur2_s, pur2_nil, pur2_sl, pur2_tup, rn2_tup, rn2_agg, rn2_osl, rn1_v, rn1_osl, rn1_agg, rn0_v, rn0_sl, rn0, pickObs, pur_v, pur_b, pur_s, pur_nil, pur_sl, deI, deIs_sl, okF, ho, hm]
theorem c22 : GenCA K Tryd.prog 22 F18 := by
  refine contractA Tryd.mix K [(43, F33), (42, F42)] [] (by simp [c43, c42]) (by simp) Tryd.func22 rfl (by decide) ?_
  intro xs hxs
  obtain ⟨x, rfl, hp⟩ := F18_in hxs
  rw [F18_res]
  refine ⟨by rw [Tryd.ntmps22]; simp, ?_⟩
  have h4 : (numsF x).length = 5 := rfl
  cases ho : okF0 x with
  | false =>
    have ho' : ((numsF x).all (rng 0 1000000000)) = false := ho
    simp -implicitDefEqProofs [Tryd.f22, F33, F42, List.lookup_cons, and_assoc, pick_and, pick_or, if_and, if_or, iOb, h4, ho', -List.all_eq_false, -List.all_eq_true]
    refine fin_pure (by simp) ?_
    simp -implicitDefEqProofs [pur2_i, pur2_b, pur2_s, pur2_nil, pur2_sl, pur2_tup, rn2_tup, rn2_agg, rn2_osl, rn1_v, rn1_osl, rn1_agg, rn0_v, rn0_sl, rn0, pickObs, pur_v, pur_b, pur_s, pur_nil, pur_sl, deI, deIs_sl, okF, ho]
  | true =>
    have ho' : ((numsF x).all (rng 0 1000000000)) = true := ho
    by_cases hm : x.mask ≤ 65535
    · simp -implicitDefEqProofs [Tryd.f22, F33, F42, List.lookup_cons, and_assoc, pick_and, pick_or, if_and, if_or, iOb, h4, ho', hm, -List.all_eq_false, -List.all_eq_true]
      refine fin_pure (by simp) ?_
      simp -implicitDefEqProofs [pur2_i, pur2_b, pur2_s, pur2_nil, pur2_sl, pur2_tup, rn2_tup, rn2_agg, rn2_osl, rn1_v, rn1_osl, rn1_agg, rn0_v, rn0_sl, rn0, pickObs, pur_v, pur_b, pur_s, pur_nil, pur_sl, deI, deIs_sl, okF, ho, hm]
    · simp -implicitDefEqProofs [Tryd.f22, F33, F42, List.lookup_cons, and_assoc, pick_and, pick_or, if_and, if_or, iOb, h4, ho', hm, -List.all_eq_false, -List.all_eq_true]
      refine fin_pure (by simp) ?_
      simp -implicitDefEqProofs [pur2_i, pur2_b, pur2_s, pur2_nil, pur2_sl, pur2_tup, rn2_tup, rn2_agg, rn2_osl, rn1_v, rn1_osl, rn1_agg, rn0_v, rn0_sl, rn0, pickObs, pur_v, pur_b, pur_s, pur_nil, pur_sl, deI, deIs_sl, okF, ho, hm]
def fTx (x : Fil) : List ByteArray := [numB x.prio.toNat, numB x.field.toNat, hexB x.mask.toNat, hexB x.value.toNat, numB x.target.toNat]
def okFs (x : Fil) : Prop := (0 ≤ x.prio ∧ x.prio ≤ 1000000000) ∧ (0 ≤ x.field ∧ x.field ≤ 1000000000) ∧ (0 ≤ x.mask ∧ x.mask ≤ 65535) ∧ (0 ≤ x.value ∧ x.value ≤ 65535) ∧ (0 ≤ x.target ∧ x.target ≤ 1000000000)
theorem okF_s {x : Fil} (h : okF x = true) : okFs x := by
  simp [okF, okF0, numsF, rng] at h
  unfold okFs
  omega
theorem hexL_dig : ∀ (k n : Nat) (o : ByteArray), n < 16 ^ (k + 1) → (hexL n o).size ≤ o.size + (k + 1)
  | 0, n, o, h => by
    rw [hexL_last o (by omega), ByteArray.size_append, hexD_size]
    omega
  | k + 1, n, o, h => by
    by_cases h0 : n / 16 = 0
    · rw [hexL_last o h0, ByteArray.size_append, hexD_size]; omega
    · rw [hexL_more o h0]
      have := hexL_dig k (n / 16) (hexD n ++ o) (by rw [Nat.pow_succ] at h; omega)
      rw [ByteArray.size_append, hexD_size] at this
      omega
theorem hexB_size (n : Nat) (h : n ≤ 65535) : (hexB n).size ≤ 64 := by
  unfold hexB
  rw [ByteArray.size_append, show (ByteArray.mk #[48, 120]).size = 2 from rfl]
  have := hexL_dig 3 n emB (by omega)
  have h0 : emB.size = 0 := rfl
  omega
theorem fTx_size {x : Fil} (h : okFs x) : ∀ t ∈ fTx x, t.size ≤ 64 := by
  obtain ⟨⟨a1, a2⟩, ⟨b1, b2⟩, ⟨c1, c2⟩, ⟨d1, d2⟩, ⟨e1, e2⟩⟩ := h
  have q1 := numB_size x.prio.toNat (by omega)
  have q2 := numB_size x.field.toNat (by omega)
  have q3 := hexB_size x.mask.toNat (by omega)
  have q4 := hexB_size x.value.toNat (by omega)
  have q5 := numB_size x.target.toNat (by omega)
  simp [fTx]
  omega
def lineF (x : Fil) : ByteArray := lgL fWs (fTx x) filterB
def F19 : Fun := ⟨fun xs => xs = [.agg (rX (deA (xs.getD 0 .top) : Fil))] ∧ (fun (x : Fil) => (okF x = true)) (deA (xs.getD 0 .top) : Fil), fun xs => (fun (x : Fil) => ((.v (.string (lineF x)), []) : X × List Ob)) (deA (xs.getD 0 .top) : Fil)⟩
theorem F19_in {xs : List X} (h : F19.pre xs) : ∃ (x : Fil), xs = [.agg (rX x)] ∧ (okF x = true) := ⟨_, h.1, h.2⟩
theorem F19_res (x : Fil) : F19.res [.agg (rX x)] = (.v (.string (lineF x)), []) := by simp [F19]
theorem F19_mk (x : Fil) (h : okF x = true) : F19.pre [.agg (rX x)] := by simpa [F19] using h
theorem c19 : GenCA K Tryd.prog 19 F19 := by
  refine contractA Tryd.mix K [(33, F33), (37, F37), (38, F38), (39, F39), (35, F35)] [] (by simp [c33, c37, c38, c39, c35]) (by simp) Tryd.func19 rfl (by decide) ?_
  intro xs hxs
  obtain ⟨x, rfl, hp⟩ := F19_in hxs
  rw [F19_res]
  refine ⟨by rw [Tryd.ntmps19]; simp, ?_⟩
  have hs := okF_s hp
  have h2 := flat_sizeF (fTx x) rfl (fun t ht => by have := fTx_size hs t ht; omega)
  have h3 : joinB (filterB :: prtL fWords (fTx x) 5) spB = lineF x := flat_eqF (fTx x) rfl
  have h6 : (joinB (filterB :: prtL fWords (fTx x) 5) spB).size ≤ 140737488355328 := by omega
  have h7 : (lineF x).size ≤ 140737488355328 := by rw [← h3]; exact h6
  obtain ⟨⟨a1, a2⟩, ⟨b1, b2⟩, ⟨c1, c2⟩, ⟨d1, d2⟩, ⟨e1, e2⟩⟩ := hs
  have c3 : x.mask ≤ 1000000000 := by omega
  have d3 : x.value ≤ 1000000000 := by omega
  simp -implicitDefEqProofs [Tryd.f19, List.lookup_cons, and_assoc, pick_and, pick_or, if_and, if_or, F33, F37, F38, F39, F35, iOb, strOb, numsF, a1, a2, b1, b2, c1, c2, c3, d1, d2, d3, e1, e2, sR_cons', sR_nil', fWords, h3, h6, h7]
  refine ⟨rfl, rfl, rfl, (by omega : 5 ≤ 16), h6, ?_⟩
  refine fin_pure (by simp) ?_
  show ((.v (.string (joinB (filterB :: prtL fWords (fTx x) 5) spB)), []) : X × List Ob) = _
  rw [h3]
theorem isVS (b : ByteArray) : isV (.v (.string b)) = true := rfl
theorem c26 : GenCA K Tryd.prog 26 F19 := by
  refine contractA Tryd.mix K [(24, F24), (49, F49), (48, F48)] [] (by simp [c24, c49, c48]) (by simp) Tryd.func26 rfl (by decide) ?_
  intro xs hxs
  obtain ⟨x, rfl, hp⟩ := F19_in hxs
  rw [F19_res]
  refine ⟨by rw [Tryd.ntmps26]; simp, ?_⟩
  have hs := okF_s hp
  have hlw : lgW filterB = fWs := by
    unfold lgW
    rw [if_neg fun e => absurd (congrArg ByteArray.size e) (by decide)]
  have hs2 := hs
  obtain ⟨⟨a1, a2⟩, ⟨b1, b2⟩, ⟨c1, c2⟩, ⟨d1, d2⟩, ⟨e1, e2⟩⟩ := hs
  simp -implicitDefEqProofs [Tryd.f26, List.lookup_cons, and_assoc, pick_and, pick_or, if_and, if_or]
  refine drawP_all _ (by decide) ?_
  simp -implicitDefEqProofs [List.lookup_cons, and_assoc, pick_and, pick_or, if_and, if_or, F24, F49, F48, a1, a2, b1, b2, c1, c2, d1, d2, e1, e2, eBSD, eBuildSlice, srcRows, srcOk, chunk, show List.range 5 = [0, 1, 2, 3, 4] from rfl, isVS]
  have hlg : lgOk filterB (fTx x) := ⟨.inr ⟨rfl, rfl⟩, fTx_size hs2⟩
  refine ⟨rfl, hlg, ?_⟩
  refine fin_pure (by simp) ?_
  show ((.v (.string (lgL (lgW filterB) (fTx x) filterB)), []) : X × List Ob) = _
  rw [hlw]
  rfl
end Go.Proofs
