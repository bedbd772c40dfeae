/-
  What is proved here: contracts of the functions on names. Condition: none.
-/
import Derived.Test.YtflhbkcjfmajeaaGreatDoorB1z
namespace Go.Proofs
open Go.Abs
set_option linter.unusedSimpArgs false
set_option linter.unnecessarySimpa false
set_option linter.unusedVariables false
set_option maxHeartbeats 4000000
set_option maxRecDepth 20000

def small (n : Int) : Bool := decide (97 ≤ n) && decide (n ≤ 122)
def F95 : Fun := ⟨fun xs => ∃ x, xs = [.v (.int .u8 x)], fun xs => (B (small (deU (xs.getD 0 .top))), [])⟩
theorem c95 : GenCA K Tryz.prog 95 F95 := by
  refine contractA Tryz.mix K [] [] (by simp) (by simp) Tryz.func95 rfl (by decide) ?_
  rintro xs ⟨x, rfl⟩
  refine ⟨by rw [Tryz.ntmps95]; simp, ?_⟩
  simp -implicitDefEqProofs [Tryz.f95, List.lookup_cons, and_assoc, pick_and, pick_or, if_and, if_or]
  refine fin_pure (by simp) ?_
  simp -implicitDefEqProofs [pur2_i, pur2_b, pur2_s, pur2_nil, pur2_sl, pur2_tup, rn2_tup, rn2_agg, rn2_osl, rn1_v, rn1_osl, rn1_agg, rn0_v, rn0_sl, rn0, pickObs, pur_v, pur_b, pur_s, pur_nil, pur_sl, deI, deIs_sl, F95, small, deU]

/-! ### keys -/
def isKy (s : ByteArray) : Bool := kws.any fun b => b.toList == s.toList
def F96 : Fun := ⟨fun xs => ∃ s, xs = [Sx s], fun xs => (B (isKy (deS (xs.getD 0 .top))), [])⟩
theorem any_take (l : List ByteArray) (p : ByteArray → Bool) (k : Nat) (h : k < l.length) (h1 : (l.take k).any p = false) (h2 : p l[k] = false) : (l.take (k + 1)).any p = false := by
  rw [List.take_succ_eq_append_getElem h, List.any_append, h1]; simp [h2]
theorem any_at (l : List ByteArray) (p : ByteArray → Bool) (k : Nat) (h : k < l.length) (h2 : p l[k] = true) : l.any p = true := by
  rw [List.any_eq_true]; exact ⟨_, List.getElem_mem h, h2⟩
theorem c96 : GenCA K Tryz.prog 96 F96 := by
  refine contractA Tryz.mix K [] [] (by simp) (by simp) Tryz.func96 rfl (by decide) ?_
  rintro xs ⟨s, rfl⟩
  refine ⟨by rw [Tryz.ntmps96]; simp, ?_⟩
  simp -implicitDefEqProofs [Tryz.f96, List.lookup_cons, and_assoc, pick_and, pick_or, if_and, if_or, Sx, K, kwX_len]
  refine loopP_inv (fun k : Nat => ⟨13, tl [(0, .v (.string s)), (5, .agg kwX), (6, I k)], []⟩) (fun k => k ≤ 14 ∧ (kws.take k).any (fun b => b.toList == s.toList) = false) (fun k => 14 - k) 0 (by simp) (Wk.tl (by simp [hold, upd, tl_cons, kwX_take])) ?_
  rintro k ⟨hk, ha⟩
  by_cases h : k < 14
  · have h' : k < kws.length := h
    have hi : (k : Int) < 14 := by omega
    have hg := kwX_get k h
    simp -implicitDefEqProofs [List.lookup_cons, and_assoc, pick_and, pick_or, if_and, if_or, h, hi, kwX_getE, kwX_len, show k + 1 ≤ 14 by omega]
    refine ⟨fun hx => ?_, fun hx => ⟨k + 1, by omega, ?_, by omega, Wk.tl ?_⟩⟩
    · refine fin_pure (by simp) ?_
      have := any_at kws (fun b => b.toList == s.toList) k h' (by rw [← kw_eq k h']; simpa using hx)
      have e : isKy s = true := this
      simp -implicitDefEqProofs [pur2_i, pur2_b, pur2_s, pur2_nil, pur2_sl, pur2_tup, rn2_tup, rn2_agg, rn2_osl, rn1_v, rn1_osl, rn1_agg, rn0_v, rn0_sl, rn0, pickObs, pur_v, pur_b, pur_s, pur_nil, pur_sl, deI, deIs_sl, F96, deS, e]
    · have := any_take kws (fun b => b.toList == s.toList) k h' ha (by rw [← kw_eq k h']; simpa using hx)
      simpa using this
    · simp [hold, upd, tl_cons, w64_nat (show k < 4611686018427387904 by omega)]
  · have hi : ¬ (k : Int) < 14 := by omega
    have e : k = 14 := by omega
    subst e
    simp -implicitDefEqProofs [List.lookup_cons, and_assoc, pick_and, pick_or, if_and, if_or]
    refine fin_pure (by simp) ?_
    have e : isKy s = false := ha
    simp -implicitDefEqProofs [pur2_i, pur2_b, pur2_s, pur2_nil, pur2_sl, pur2_tup, rn2_tup, rn2_agg, rn2_osl, rn1_v, rn1_osl, rn1_agg, rn0_v, rn0_sl, rn0, pickObs, pur_v, pur_b, pur_s, pur_nil, pur_sl, deI, deIs_sl, F96, deS, e]
def F94 : Fun := ⟨fun xs => xs = [], fun _ => (.sl (sR kws), [])⟩
theorem c94 : GenCA K Tryz.prog 94 F94 := by
  refine contractA Tryz.mix K [] [] (by simp) (by simp) Tryz.func94 rfl (by decide) ?_
  rintro xs rfl
  refine ⟨by rw [Tryz.ntmps94]; simp, ?_⟩
  simp -implicitDefEqProofs [Tryz.f94, List.lookup_cons, and_assoc, pick_and, pick_or, if_and, if_or, eBuildSlice, fillX, chunk, plain, cellsX, splice]
  refine fin_pure (by simp) ?_
  rfl
def F93 : Fun := ⟨fun xs => ∃ l s, xs = [.sl (sR l), Sx s] ∧ l.length ≤ 1048576, fun xs => (B ((deSs (xs.getD 0 .top)).any fun b => b.toList == (deS (xs.getD 1 .top)).toList), [])⟩
theorem c93 : GenCA K Tryz.prog 93 F93 := by
  refine contractA Tryz.mix K [] [] (by simp) (by simp) Tryz.func93 rfl (by decide) ?_
  rintro xs ⟨l, s, rfl, hl⟩
  refine ⟨by rw [Tryz.ntmps93]; simp, ?_⟩
  simp -implicitDefEqProofs [Tryz.f93, List.lookup_cons, and_assoc, pick_and, pick_or, if_and, if_or, Sx, sR_length]
  refine loopP_inv (fun k : Nat => ⟨17, tl [(1, .v (.string s)), (7, .sl (sR l)), (8, I l.length), (9, I k)], []⟩) (fun k => k ≤ l.length ∧ (l.take k).any (fun b => b.toList == s.toList) = false) (fun k => l.length - k) 0 (by simp) (Wk.tl (by simp [hold, upd, tl_cons])) ?_
  rintro k ⟨hk, ha⟩
  by_cases h : k < l.length
  · simp -implicitDefEqProofs [List.lookup_cons, and_assoc, pick_and, pick_or, if_and, if_or, h, sR_get, sR_getE, sR_length]
    refine ⟨fun hx => ?_, fun hx => ⟨k + 1, by omega, ?_, by omega, Wk.tl ?_⟩⟩
    · refine fin_pure (by simp) ?_
      have e := any_at l (fun b => b.toList == s.toList) k h (by simpa using hx)
      have e' : ((deSs (.sl (sR l))).any fun b => b.toList == s.toList) = true := by rw [deSs_sl]; exact e
      simp only [F93, List.getD_cons_zero, List.getD_cons_succ, deS]
      rw [e']
      rfl
    · have := any_take l (fun b => b.toList == s.toList) k h ha (by simpa using hx)
      simpa using this
    · simp [hold, upd, tl_cons, w64_nat (show k < 4611686018427387904 by omega)]
  · have e : k = l.length := by omega
    subst e
    rw [List.take_length] at ha
    simp -implicitDefEqProofs [List.lookup_cons, and_assoc, pick_and, pick_or, if_and, if_or]
    refine fin_pure (by simp) ?_
    have e' : ((deSs (.sl (sR l))).any fun b => b.toList == s.toList) = false := by rw [deSs_sl]; exact ha
    simp only [F93, List.getD_cons_zero, List.getD_cons_succ, deS]
    rw [e']
    rfl
theorem c64 : GenCA K Tryz.prog 64 F96 := by
  refine contractA Tryz.mix K [(94, F94), (93, F93)] [] (by simp [c94, c93]) (by simp) Tryz.func64 rfl (by decide) ?_
  rintro xs ⟨s, rfl⟩
  refine ⟨by rw [Tryz.ntmps64]; simp, ?_⟩
  simp -implicitDefEqProofs [Tryz.f64, List.lookup_cons, and_assoc, pick_and, pick_or, if_and, if_or, Sx, F94, F93, sR_inj, deSs_sl, deS, kws_len]
  refine fin_pure (by simp) ?_
  simp -implicitDefEqProofs [pur2_i, pur2_b, pur2_s, pur2_nil, pur2_sl, pur2_tup, rn2_tup, rn2_agg, rn2_osl, rn1_v, rn1_osl, rn1_agg, rn0_v, rn0_sl, rn0, pickObs, pur_v, pur_b, pur_s, pur_nil, pur_sl, deI, deIs_sl, F96, deS, isKy]

/-! ### names -/
def lowTo (s : ByteArray) (n : Nat) : Bool := (List.range n).all fun k => small (byt s k)
theorem lowTo_succ (s : ByteArray) (n : Nat) : lowTo s (n + 1) = (lowTo s n && small (byt s n)) := by simp [lowTo, List.range_succ]
theorem lowTo_le (s : ByteArray) (k : Nat) : ∀ n, k < n → small (byt s k) = false → lowTo s n = false := by
  intro n hn h
  rw [Bool.eq_false_iff]
  intro h2
  simp only [lowTo, List.all_eq_true, List.mem_range] at h2
  rw [h2 k hn] at h
  cases h
def nmOk (s : ByteArray) : Bool := rng 1 8 s.size && lowTo s s.size && !isKy s
def F70 : Fun := ⟨fun xs => ∃ s, xs = [Sx s] ∧ s.size ≤ 1048576, fun xs => (B (nmOk (deS (xs.getD 0 .top))), [])⟩
theorem c70 : GenCA K Tryz.prog 70 F70 := by
  refine contractA Tryz.mix K [(95, F95), (96, F96)] [] (by simp [c95, c96]) (by simp) Tryz.func70 rfl (by decide) ?_
  rintro xs ⟨s, rfl, hs⟩
  refine ⟨by rw [Tryz.ntmps70]; simp, ?_⟩
  by_cases h1 : (s.size : Int) < 1
  · simp -implicitDefEqProofs [Tryz.f70, List.lookup_cons, and_assoc, pick_and, pick_or, if_and, if_or, Sx, h1]
    refine fin_pure (by simp) ?_
    have e : nmOk s = false := by simp [nmOk, rng]; omega
    simp -implicitDefEqProofs [pur2_i, pur2_b, pur2_s, pur2_nil, pur2_sl, pur2_tup, rn2_tup, rn2_agg, rn2_osl, rn1_v, rn1_osl, rn1_agg, rn0_v, rn0_sl, rn0, pickObs, pur_v, pur_b, pur_s, pur_nil, pur_sl, deI, deIs_sl, F70, deS, e]
  by_cases h2 : 8 < (s.size : Int)
  · simp -implicitDefEqProofs [Tryz.f70, List.lookup_cons, and_assoc, pick_and, pick_or, if_and, if_or, Sx, h1, h2]
    refine fin_pure (by simp) ?_
    have e : nmOk s = false := by simp [nmOk, rng]; omega
    simp -implicitDefEqProofs [pur2_i, pur2_b, pur2_s, pur2_nil, pur2_sl, pur2_tup, rn2_tup, rn2_agg, rn2_osl, rn1_v, rn1_osl, rn1_agg, rn0_v, rn0_sl, rn0, pickObs, pur_v, pur_b, pur_s, pur_nil, pur_sl, deI, deIs_sl, F70, deS, e]
  have h1' : ¬ s.size = 0 := by omega
  have h2' : ¬ 8 < s.size := by omega
  have hr : rng 1 8 s.size = true := by simp [rng]; omega
  simp -implicitDefEqProofs [Tryz.f70, List.lookup_cons, and_assoc, pick_and, pick_or, if_and, if_or, Sx, h1, h2, h1', h2']
  refine loopP_inv (fun k : Nat => ⟨26, tl [(0, .v (.string s)), (3, I k)], []⟩) (fun k => k ≤ s.size ∧ lowTo s k = true) (fun k => s.size - k) 0 (by simp [lowTo]) (Wk.tl (by simp [hold, upd, tl_cons])) ?_
  rintro k ⟨hk, ha⟩
  by_cases h : k < s.size
  · cases hq : small (byt s k) with
    | true =>
      simp -implicitDefEqProofs [List.lookup_cons, and_assoc, pick_and, pick_or, if_and, if_or, h, ei_str, F95, deU, hq]
      refine ⟨k + 1, by omega, by rw [lowTo_succ, ha, hq]; rfl, by omega, Wk.tl ?_⟩
      simp [hold, upd, tl_cons, w64_nat (show k < 4611686018427387904 by omega)]
    | false =>
      simp -implicitDefEqProofs [List.lookup_cons, and_assoc, pick_and, pick_or, if_and, if_or, h, ei_str, F95, deU, hq]
      refine fin_pure (by simp) ?_
      have e : nmOk s = false := by simp [nmOk, lowTo_le s k s.size h hq]
      simp -implicitDefEqProofs [pur2_i, pur2_b, pur2_s, pur2_nil, pur2_sl, pur2_tup, rn2_tup, rn2_agg, rn2_osl, rn1_v, rn1_osl, rn1_agg, rn0_v, rn0_sl, rn0, pickObs, pur_v, pur_b, pur_s, pur_nil, pur_sl, deI, deIs_sl, F70, deS, e]
  · have e : k = s.size := by omega
    subst e
    simp -implicitDefEqProofs [List.lookup_cons, and_assoc, pick_and, pick_or, if_and, if_or, F96, Sx, deS]
    refine fin_pure (by simp) ?_
    simp -implicitDefEqProofs [pur2_i, pur2_b, pur2_s, pur2_nil, pur2_sl, pur2_tup, rn2_tup, rn2_agg, rn2_osl, rn1_v, rn1_osl, rn1_agg, rn0_v, rn0_sl, rn0, pickObs, pur_v, pur_b, pur_s, pur_nil, pur_sl, deI, deIs_sl, F70, deS, nmOk, hr, ha]
theorem c41 : GenCA K Tryz.prog 41 F70 := by
  refine contractA Tryz.mix K [(42, F42), (64, F96)] [] (by simp [c42, c64]) (by simp) Tryz.func41 rfl (by decide) ?_
  rintro xs ⟨s, rfl, hs⟩
  refine ⟨by rw [Tryz.ntmps41]; simp, ?_⟩
  simp -implicitDefEqProofs [Tryz.f41, List.lookup_cons, and_assoc, pick_and, pick_or, if_and, if_or, Sx]
  refine loopP_inv (fun k : Nat => ⟨28, tl [(0, .v (.string s)), (3, I k)], []⟩) (fun k => k ≤ s.size ∧ lowTo s k = true) (fun k => s.size - k) 0 (by simp [lowTo]) (Wk.tl (by simp [hold, upd, tl_cons])) ?_
  rintro k ⟨hk, ha⟩
  by_cases h : k < s.size
  · by_cases g1 : byt s k < 97
    · simp -implicitDefEqProofs [List.lookup_cons, and_assoc, pick_and, pick_or, if_and, if_or, h, ei_str, g1]
      refine fin_pure (by simp) ?_
      have e : nmOk s = false := by simp [nmOk, lowTo_le s k s.size h (by simp [small]; omega)]
      simp -implicitDefEqProofs [pur2_i, pur2_b, pur2_s, pur2_nil, pur2_sl, pur2_tup, rn2_tup, rn2_agg, rn2_osl, rn1_v, rn1_osl, rn1_agg, rn0_v, rn0_sl, rn0, pickObs, pur_v, pur_b, pur_s, pur_nil, pur_sl, deI, deIs_sl, F70, deS, e]
    by_cases g2 : 122 < byt s k
    · simp -implicitDefEqProofs [List.lookup_cons, and_assoc, pick_and, pick_or, if_and, if_or, h, ei_str, g1, g2]
      refine fin_pure (by simp) ?_
      have e : nmOk s = false := by simp [nmOk, lowTo_le s k s.size h (by simp [small]; omega)]
      simp -implicitDefEqProofs [pur2_i, pur2_b, pur2_s, pur2_nil, pur2_sl, pur2_tup, rn2_tup, rn2_agg, rn2_osl, rn1_v, rn1_osl, rn1_agg, rn0_v, rn0_sl, rn0, pickObs, pur_v, pur_b, pur_s, pur_nil, pur_sl, deI, deIs_sl, F70, deS, e]
    simp -implicitDefEqProofs [List.lookup_cons, and_assoc, pick_and, pick_or, if_and, if_or, h, ei_str, g1, g2]
    refine ⟨k + 1, by omega, by rw [lowTo_succ, ha]; simp [small]; omega, by omega, Wk.tl ?_⟩
    simp [hold, upd, tl_cons, w64_nat (show k < 4611686018427387904 by omega)]
  · have e : k = s.size := by omega
    subst e
    cases hr : rng 1 8 s.size with
    | true =>
      simp -implicitDefEqProofs [List.lookup_cons, and_assoc, pick_and, pick_or, if_and, if_or, F96, F42, Sx, deS, hr]
      refine fin_pure (by simp) ?_
      simp -implicitDefEqProofs [pur2_i, pur2_b, pur2_s, pur2_nil, pur2_sl, pur2_tup, rn2_tup, rn2_agg, rn2_osl, rn1_v, rn1_osl, rn1_agg, rn0_v, rn0_sl, rn0, pickObs, pur_v, pur_b, pur_s, pur_nil, pur_sl, deI, deIs_sl, F70, deS, nmOk, hr, ha]
    | false =>
      simp -implicitDefEqProofs [List.lookup_cons, and_assoc, pick_and, pick_or, if_and, if_or, F96, F42, Sx, deS, hr]
      refine fin_pure (by simp) ?_
      simp -implicitDefEqProofs [pur2_i, pur2_b, pur2_s, pur2_nil, pur2_sl, pur2_tup, rn2_tup, rn2_agg, rn2_osl, rn1_v, rn1_osl, rn1_agg, rn0_v, rn0_sl, rn0, pickObs, pur_v, pur_b, pur_s, pur_nil, pur_sl, deI, deIs_sl, F70, deS, nmOk, hr]
end Go.Proofs
