/-
  What is proved here: contracts of the law's own functions on whole numbers. Condition: none.
-/
import Derived.Test.YtflhbkcjfmajeaaGreatDoorKXYtflhbkcjfmajeaaGreatDoor
namespace Go.Proofs
open Go.Abs
set_option linter.unusedSimpArgs false
set_option linter.unnecessarySimpa false
set_option linter.unusedVariables false
set_option maxHeartbeats 4000000
set_option maxRecDepth 20000

def iOb (l : List Int) : Ob := ⟨3, 1, 0, iR l, false, true, none⟩
theorem take_succ' (l : List Int) (k : Nat) (h : k < l.length) : l.take (k + 1) = l.take k ++ [l[k]] := by rw [List.take_succ_eq_append_getElem h]
def F27 : Fun := ⟨fun xs => ∃ l m, xs = [ints l, ints m] ∧ l.length ≤ 1048576, fun xs => (B (decide (deIs (xs.getD 0 .top) = deIs (xs.getD 1 .top))), [])⟩
theorem c27 : GenCA K Tryz.prog 27 F27 := by
  refine contractA Tryz.mix K [] [] (by simp) (by simp) Tryz.func27 rfl (by decide) ?_
  rintro xs ⟨l, m, rfl, hl⟩
  refine ⟨by rw [Tryz.ntmps27]; simp, ?_⟩
  simp -implicitDefEqProofs [Tryz.f27, List.lookup_cons, and_assoc, pick_and, pick_or, if_and, if_or, ints]
  refine ⟨fun h0 => ?_, fun h0 => ?_⟩
  · refine fin_pure (by simp) ?_
    have : ¬ l = m := fun e => h0 (by rw [e])
    simp -implicitDefEqProofs [pur2_i, pur2_b, pur2_s, pur2_nil, pur2_sl, pur2_tup, rn2_tup, rn2_agg, rn2_osl, rn1_v, rn1_osl, rn1_agg, rn0_v, rn0_sl, rn0, pickObs, pur_v, pur_b, pur_s, pur_nil, pur_sl, deI, deIs_sl, F27, this]
  have h0' : l.length = m.length := by omega
  refine loopP_inv (fun k : Nat => ⟨26, tl [(0, .sl (iR l)), (1, .sl (iR m)), (5, I k)], []⟩) (fun k => k ≤ l.length ∧ l.take k = m.take k) (fun k => l.length - k) 0 (by simp) (Wk.tl (by simp [hold, upd, tl_cons])) ?_
  rintro k ⟨hk, ha⟩
  by_cases h : k < l.length
  · have h' : k < m.length := by omega
    simp -implicitDefEqProofs [List.lookup_cons, and_assoc, pick_and, pick_or, if_and, if_or, h, h']
    refine drawP_all _ (by decide) ?_
    simp -implicitDefEqProofs [List.lookup_cons, and_assoc, pick_and, pick_or, if_and, if_or, h, h']
    refine ⟨fun h1 => ?_, fun h1 => ⟨k + 1, by omega, by rw [take_succ' l k h, take_succ' m k h', ha, h1], by omega, Wk.tl ?_⟩⟩
    · refine fin_pure (by simp) ?_
      have : ¬ l = m := fun e => h1 (by subst e; rfl)
      simp -implicitDefEqProofs [pur2_i, pur2_b, pur2_s, pur2_nil, pur2_sl, pur2_tup, rn2_tup, rn2_agg, rn2_osl, rn1_v, rn1_osl, rn1_agg, rn0_v, rn0_sl, rn0, pickObs, pur_v, pur_b, pur_s, pur_nil, pur_sl, deI, deIs_sl, F27, this]
    · simp [hold, upd, tl_cons, w64_nat (show k < 4611686018427387904 by omega)]
  · simp -implicitDefEqProofs [List.lookup_cons, and_assoc, pick_and, pick_or, if_and, if_or, h]
    refine fin_pure (by simp) ?_
    rw [List.take_of_length_le (by omega), List.take_of_length_le (by omega)] at ha
    simp -implicitDefEqProofs [pur2_i, pur2_b, pur2_s, pur2_nil, pur2_sl, pur2_tup, rn2_tup, rn2_agg, rn2_osl, rn1_v, rn1_osl, rn1_agg, rn0_v, rn0_sl, rn0, pickObs, pur_v, pur_b, pur_s, pur_nil, pur_sl, deI, deIs_sl, F27, ha]

def upI (k : Int) (n : Nat) : List Int := (List.range n).map fun i : Nat => k + (i : Int)
theorem upI_len (k : Int) (n : Nat) : (upI k n).length = n := by simp [upI]
theorem upI_set (k : Int) (l : List Int) (j : Nat) (h : j < l.length) : upI k j ++ (l.drop j).set 0 (k + j) = upI k (j + 1) ++ l.drop (j + 1) := by
  rw [List.drop_eq_getElem_cons h, List.set_cons_zero]
  simp [upI, List.range_succ]

def M31 : MFun := ⟨[true], fun xs obs => (∃ l k, xs = [.osl 0 0, I k] ∧ obs = [iOb l] ∧ l.length ≤ 1048576 ∧ 0 ≤ k ∧ k ≤ 1099511627776) ∨ (∃ k, xs = [.sl [], I k] ∧ obs = [] ∧ 0 ≤ k ∧ k ≤ 1099511627776),
  fun xs obs => (I (deI (xs.getD 1 .top) + ((obs.map fun ob => ob.rows.length).sum : Nat)), obs.map fun ob => iOb (upI (deI (xs.getD 1 .top)) ob.rows.length))⟩
theorem m31 : GenMA K Tryz.prog 31 M31 := by
  refine contractMA Tryz.mix K [] [] (by simp) (by simp) Tryz.func31 rfl (by decide) ?_
  rintro xs obs us (⟨l, k, rfl, rfl, hl, hk0, hk1⟩ | ⟨k, rfl, rfl, hk0, hk1⟩) hu
  · obtain ⟨u, rfl⟩ : ∃ u, us = [u] := by simpa [List.length_eq_one_iff] using hu
    refine ⟨⟨by rw [Tryz.ntmps31]; simp, by simp, ?_⟩, ?_⟩
    · rintro (_ | j) ob hob
      · simp at hob; subst hob; exact ⟨_, rfl, rfl, rfl, rfl, rfl, rfl⟩
      · simp at hob
    simp -implicitDefEqProofs [Tryz.f31, List.lookup_cons, and_assoc, pick_and, pick_or, if_and, if_or]
    refine loopP_inv (fun j : Nat => ⟨19, tl [(0, .osl 0 0), (1, I (k + j)), (5, I j), (1000, .pin 0 0 u)], [iOb (upI k j ++ l.drop j)]⟩) (fun j => j ≤ l.length) (fun j => l.length - j) 0 (Nat.zero_le _) ?_ ?_
    · simp only [upI, List.range_zero, List.map_nil, List.nil_append, List.drop_zero]
      exact Wk.tl (by simp [hold, upd, tl_cons])
    intro j hj
    have hlen : (upI k j ++ l.drop j).length = l.length := by simp [upI_len]; omega
    by_cases h : j < l.length
    · have h2 : j < j + (l.length - j) := by omega
      have hw : IntKind.i64.wrap (k + j + 1) = k + j + 1 := w64 (by omega) (by omega)
      simp -implicitDefEqProofs [List.lookup_cons, and_assoc, pick_and, pick_or, if_and, if_or, h, iOb, hlen, upI_len, h2, hw]
      refine ⟨j + 1, by omega, by omega, ?_⟩
      rw [upI_set k l j h]
      exact Wk.tl (by simp [hold, upd, tl_cons, w64_nat (show j < 4611686018427387904 by omega)]; omega)
    · have e : j = l.length := by omega
      subst e
      have h2 : ¬ l.length < l.length := by omega
      simp -implicitDefEqProofs [List.lookup_cons, and_assoc, pick_and, pick_or, if_and, if_or, iOb, hlen, upI_len]
      refine finM1 0 [] (iOb (upI k l.length)) (by simp [pickOk, -List.all_eq_true, iR_ok]) (by simp [iOb]) (by simp [iOb, upd, tl_cons]) ?_
      simp -implicitDefEqProofs [pur2_i, pur2_b, pur2_s, pur2_nil, pur2_sl, pur2_tup, rn2_tup, rn2_agg, rn2_osl, rn1_v, rn1_osl, rn1_agg, rn0_v, rn0_sl, rn0, pickObs, pur_v, pur_b, pur_s, pur_nil, pur_sl, deI, deIs_sl, M31, iOb, rn2_I, iR_length]
  · obtain rfl : us = [] := by simpa using hu
    refine ⟨⟨by rw [Tryz.ntmps31]; simp, by simp, by simp⟩, ?_⟩
    simp -implicitDefEqProofs [Tryz.f31, List.lookup_cons, and_assoc, pick_and, pick_or, if_and, if_or]
    refine loopP_inv (fun _ : Nat => ⟨19, tl [(0, .sl []), (1, I k), (5, I 0)], []⟩) (fun _ => True) (fun _ => 0) 0 trivial (Wk.tl (by simp [hold, upd, tl_cons])) ?_
    intro j _
    simp -implicitDefEqProofs [List.lookup_cons, and_assoc, pick_and, pick_or, if_and, if_or]
    refine finM0 [] (by simp [pickOk]) ?_
    simp -implicitDefEqProofs [pur2_i, pur2_b, pur2_s, pur2_nil, pur2_sl, pur2_tup, rn2_tup, rn2_agg, rn2_osl, rn1_v, rn1_osl, rn1_agg, rn0_v, rn0_sl, rn0, pickObs, pur_v, pur_b, pur_s, pur_nil, pur_sl, deI, deIs_sl, M31, rn2_I]

@[simp] theorem upI_zero (k : Int) : upI k 0 = [] := rfl
@[simp] theorem deIs_em : deIs (.sl []) = [] := rfl
attribute [simp] upI_len
def F33 : Fun := ⟨fun xs => xs = [.sl (iR (upI (deI (xs.getD 1 .top)) (deIs (xs.getD 0 .top)).length)), I (deI (xs.getD 1 .top))] ∧ (deIs (xs.getD 0 .top)).length ≤ 1048576 ∧ 0 ≤ deI (xs.getD 1 .top) ∧ deI (xs.getD 1 .top) ≤ 1099511627776, fun xs => (I (deI (xs.getD 1 .top) + (deIs (xs.getD 0 .top)).length), [])⟩
theorem c33 : GenCA K Tryz.prog 33 F33 := by
  refine contractA Tryz.mix K [] [] (by simp) (by simp) Tryz.func33 rfl (by decide) ?_
  intro xs hxs
  obtain ⟨n, k, rfl, hn, hk0, hk1⟩ : ∃ (n : Nat) (k : Int), xs = [ints (upI k n), I k] ∧ n ≤ 1048576 ∧ 0 ≤ k ∧ k ≤ 1099511627776 := ⟨_, _, hxs.1, hxs.2⟩
  refine ⟨by rw [Tryz.ntmps33]; simp, ?_⟩
  simp -implicitDefEqProofs [Tryz.f33, List.lookup_cons, and_assoc, pick_and, pick_or, if_and, if_or, ints]
  refine loopP_inv (fun j : Nat => ⟨21, tl [(0, .sl (iR (upI k n))), (1, I (k + j)), (5, I j)], []⟩) (fun j => j ≤ n) (fun j => n - j) 0 (Nat.zero_le _) (Wk.tl (by simp [hold, upd, tl_cons])) ?_
  intro j hj
  by_cases h : j < n
  · have hg : (upI k n)[j]'(by rw [upI_len]; exact h) = k + j := by simp [upI]
    have hw : IntKind.i64.wrap (k + j + 1) = k + j + 1 := w64 (by omega) (by omega)
    simp -implicitDefEqProofs [List.lookup_cons, and_assoc, pick_and, pick_or, if_and, if_or, h, upI_len, hg, hw]
    refine ⟨j + 1, by omega, by omega, Wk.tl ?_⟩
    simp [hold, upd, tl_cons, w64_nat (show j < 4611686018427387904 by omega)]; omega
  · have e : j = n := by omega
    subst e
    simp -implicitDefEqProofs [List.lookup_cons, and_assoc, pick_and, pick_or, if_and, if_or]
    refine fin_pure (by simp) ?_
    simp -implicitDefEqProofs [pur2_i, pur2_b, pur2_s, pur2_nil, pur2_sl, pur2_tup, rn2_tup, rn2_agg, rn2_osl, rn1_v, rn1_osl, rn1_agg, rn0_v, rn0_sl, rn0, pickObs, pur_v, pur_b, pur_s, pur_nil, pur_sl, deI, deIs_sl, F33, ints]


theorem fill_set (l : List Int) (k : Nat) (h : k < l.length) : (l.take k ++ List.replicate (l.length - k) 0).set k l[k] = l.take (k + 1) ++ List.replicate (l.length - (k + 1)) 0 := fillT 0 l k h
def F37 : Fun := ⟨fun xs => ∃ l, xs = [ints l] ∧ l.length ≤ 1048576, fun xs => (.osl 0 0, [iOb (deIs (xs.getD 0 .top))])⟩
theorem c37 : GenCA K Tryz.prog 37 F37 := by
  refine contractA Tryz.mix K [] [] (by simp) (by simp) Tryz.func37 rfl (by decide) ?_
  rintro xs ⟨l, rfl, hl⟩
  refine ⟨by rw [Tryz.ntmps37]; simp, ?_⟩
  simp -implicitDefEqProofs [Tryz.f37, List.lookup_cons, and_assoc, pick_and, pick_or, if_and, if_or, ints, eMake, plain]
  refine ⟨by omega, by omega, ?_⟩
  refine loopP_inv (fun k : Nat => ⟨22, tl [(0, .sl (iR l)), (3, .osl 0 0), (4, I k)], [iOb (l.take k ++ List.replicate (l.length - k) 0)]⟩) (fun k => k ≤ l.length) (fun k => l.length - k) 0 (Nat.zero_le _) ?_ ?_
  · simp only [iOb, List.take_zero, List.nil_append, Nat.sub_zero, ← iR_replicate]
    exact Wk.tl (by simp [hold, upd, tl_cons])
  intro k hk
  by_cases h : k < l.length
  · have hk' : k < min k l.length + (l.length - k) := by omega
    simp -implicitDefEqProofs [List.lookup_cons, and_assoc, pick_and, pick_or, if_and, if_or, h, iOb, hk']
    refine ⟨k + 1, by omega, by omega, ?_⟩
    rw [fill_set l k h]
    exact Wk.tl (by simp [hold, upd, tl_cons, w64_nat (show k < 4611686018427387904 by omega)])
  · simp -implicitDefEqProofs [List.lookup_cons, and_assoc, pick_and, pick_or, if_and, if_or, h, iOb]
    have : l.length - k = 0 := by omega
    rw [this, List.take_of_length_le (by omega), List.replicate_zero, List.append_nil]
    refine fin_own [0] (by simp [pickOk, -List.all_eq_true, iR_ok]) ?_
    simp -implicitDefEqProofs [pur2_i, pur2_b, pur2_s, pur2_nil, pur2_sl, pur2_tup, rn2_tup, rn2_agg, rn2_osl, rn1_v, rn1_osl, rn1_agg, rn0_v, rn0_sl, rn0, pickObs, pur_v, pur_b, pur_s, pur_nil, pur_sl, deI, deIs_sl, F37, iOb]

end Go.Proofs
