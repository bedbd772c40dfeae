/-
  What is proved here: changes, and contracts of the law's own functions on them. Condition: none.
-/
import Derived.Test.YteleljfnjdlnkaaGreatDoorLCx
import Derived.Test.YteleljfnjdlnkaaGreatDoorT1x
import Derived.Test.YteleljfnjdlnkaaGreatDoorS1x
namespace Go.Proofs
open Go.Abs
set_option linter.unusedSimpArgs false
set_option linter.unnecessarySimpa false
set_option linter.unusedVariables false
set_option maxHeartbeats 4000000
set_option maxRecDepth 20000


def Chg.mk' (k : Int) : Chg := ⟨k, mTx (k + 1), k + 2, k + 3, k + 4, k + 5, k + 6, k + 7, k + 8, k + 9, k + 10, k + 11, k + 12, k + 13, k + 14, k + 15⟩
def Chg.mkL (k : Int) (n : Nat) : List Chg := (List.range n).map fun i : Nat => Chg.mk' (k + 16 * (i : Int))
@[simp] theorem Chg.mkL_len (k : Int) (n : Nat) : (Chg.mkL k n).length = n := by simp [Chg.mkL]
@[simp] theorem Chg.mkL_zero (k : Int) : Chg.mkL k 0 = [] := rfl
theorem Chg.mkL_set (k : Int) (l : List Chg) (j : Nat) (h : j < l.length) : (Chg.mkL k j ++ l.drop j).set j (Chg.mk' (k + 16 * (j : Int))) = Chg.mkL k (j + 1) ++ l.drop (j + 1) := by
  rw [List.set_append_right _ _ (by simp [Chg.mkL_len]), Chg.mkL_len, Nat.sub_self, List.drop_eq_getElem_cons h, List.set_cons_zero]
  simp [Chg.mkL, List.range_succ]
theorem Chg.mkL_get (k : Int) (n j : Nat) (h : j < (Chg.mkL k n).length) : (Chg.mkL k n)[j] = Chg.mk' (k + 16 * (j : Int)) := by simp [Chg.mkL]

def F37 : Fun := ⟨fun xs => xs = [.agg (rX (deA (xs.getD 0 .top) : Chg)), .agg (rX (deA (xs.getD 0 .top) : Chg))], fun _ => (B true, [])⟩
theorem c37 : GenCA K Tryz.prog 37 F37 := by
  refine contractA Tryz.mix K [(70, F70), (71, F71)] [] (by simp [c70, c71]) (by simp) Tryz.func37 rfl (by decide) ?_
  intro xs hxs
  obtain ⟨a, rfl⟩ : ∃ a : Chg, xs = [.agg (rX a), .agg (rX a)] := ⟨_, hxs⟩
  refine ⟨by rw [Tryz.ntmps37]; simp, ?_⟩
  simp -implicitDefEqProofs [Tryz.f37, List.lookup_cons, and_assoc, pick_and, pick_or, if_and, if_or, F70, F71]
  refine fin_pure (by simp) ?_
  simp -implicitDefEqProofs [pur2_i, pur2_b, pur2_s, pur2_nil, pur2_sl, pur2_tup, rn2_tup, rn2_agg, rn2_osl, rn1_v, rn1_osl, rn1_agg, rn0_v, rn0_sl, rn0, pickObs, pur_v, pur_b, pur_s, pur_nil, pur_sl, deI, deIs_sl, F37]

def F13 : Fun := ⟨fun xs => xs = [.sl (tR (deT (xs.getD 0 .top) : List Chg)), .sl (tR (deT (xs.getD 0 .top) : List Chg))] ∧ (deT (xs.getD 0 .top) : List Chg).length ≤ 1048576, fun _ => (B true, [])⟩
theorem c13 : GenCA K Tryz.prog 13 F13 := by
  refine contractA Tryz.mix K [(37, F37)] [] (by simp [c37]) (by simp) Tryz.func13 rfl (by decide) ?_
  intro xs hxs
  obtain ⟨l, rfl, hl⟩ : ∃ l : List Chg, xs = [.sl (tR l), .sl (tR l)] ∧ l.length ≤ 1048576 := ⟨_, hxs.1, hxs.2⟩
  refine ⟨by rw [Tryz.ntmps13]; simp, ?_⟩
  simp -implicitDefEqProofs [Tryz.f13, List.lookup_cons, and_assoc, pick_and, pick_or, if_and, if_or]
  refine loopP_inv (fun k : Nat => ⟨27, tl [(0, .sl (tR l)), (1, .sl (tR l)), (5, I k)], []⟩) (fun k => k ≤ l.length) (fun k => l.length - k) 0 (Nat.zero_le _) (Wk.tl (by simp [hold, upd, tl_cons])) ?_
  intro k hk
  by_cases h : k < l.length
  · simp -implicitDefEqProofs [List.lookup_cons, and_assoc, pick_and, pick_or, if_and, if_or, h]
    refine drawP_all _ (by decide) ?_
    simp -implicitDefEqProofs [List.lookup_cons, and_assoc, pick_and, pick_or, if_and, if_or, h, F37]
    refine ⟨k + 1, by omega, by omega, Wk.tl ?_⟩
    simp [hold, upd, tl_cons, w64_nat (show k < 4611686018427387904 by omega)]
  · have e : k = l.length := by omega
    subst e
    simp -implicitDefEqProofs [List.lookup_cons, and_assoc, pick_and, pick_or, if_and, if_or]
    refine fin_pure (by simp) ?_
    simp -implicitDefEqProofs [pur2_i, pur2_b, pur2_s, pur2_nil, pur2_sl, pur2_tup, rn2_tup, rn2_agg, rn2_osl, rn1_v, rn1_osl, rn1_agg, rn0_v, rn0_sl, rn0, pickObs, pur_v, pur_b, pur_s, pur_nil, pur_sl, deI, deIs_sl, F13]

def M17 : MFun := ⟨[true], fun xs obs => (∃ (l : List Chg) (k : Int), xs = [.osl 0 0, I k] ∧ obs = [tOb 61 16 l] ∧ l.length ≤ 1048576 ∧ 0 ≤ k ∧ k ≤ 1099511627776) ∨ (∃ k : Int, xs = [.sl [], I k] ∧ obs = [] ∧ 0 ≤ k ∧ k ≤ 1099511627776),
  fun xs obs => (I (deI (xs.getD 1 .top) + 16 * ((obs.map fun ob => ob.rows.length).sum : Nat)), obs.map fun ob => tOb 61 16 (Chg.mkL (deI (xs.getD 1 .top)) ob.rows.length))⟩
theorem m17 : GenMA K Tryz.prog 17 M17 := by
  refine contractMA Tryz.mix K [(42, F42)] [] (by simp [c42]) (by simp) Tryz.func17 rfl (by decide) ?_
  rintro xs obs us (⟨l, k, rfl, rfl, hl, hk0, hk1⟩ | ⟨k, rfl, rfl, hk0, hk1⟩) hu
  · obtain ⟨u, rfl⟩ : ∃ u, us = [u] := by simpa [List.length_eq_one_iff] using hu
    refine ⟨⟨by rw [Tryz.ntmps17]; simp, by simp, ?_⟩, ?_⟩
    · rintro (_ | j) ob hob
      · simp at hob; subst hob; exact ⟨_, rfl, rfl, rfl, rfl, rfl, rfl⟩
      · simp at hob
    simp -implicitDefEqProofs [Tryz.f17, List.lookup_cons, and_assoc, pick_and, pick_or, if_and, if_or, tOb]
    refine loopP_inv (fun j : Nat => ⟨139, tl [(0, .osl 0 0), (1, I (k + 16 * j)), (5, I j), (1000, .pin 0 0 u)], [tOb 61 16 (Chg.mkL k j ++ l.drop j)]⟩) (fun j => j ≤ l.length) (fun j => l.length - j) 0 (Nat.zero_le _) ?_ ?_
    · simp only [Chg.mkL, List.range_zero, List.map_nil, List.nil_append, List.drop_zero]
      exact Wk.tl (by simp [hold, upd, tl_cons])
    intro j hj
    have hlen : (Chg.mkL k j ++ l.drop j).length = l.length := by simp [Chg.mkL_len]; omega
    by_cases h : j < l.length
    · have hset := tR_set (Chg.mkL k j ++ l.drop j) j (Chg.mk' (k + 16 * (j : Int)))
      rw [Chg.mkL_set k l j h] at hset
      generalize hL : Chg.mkL k j ++ l.drop j = L at hset hlen
      have hjL : j < L.length := by omega
      generalize hq : k + 16 * (j : Int) = q at hset
      have hw : ∀ z : Int, 0 ≤ z → z ≤ 64 → IntKind.i64.wrap (q + z) = q + z := fun z h1 h2 => w64 (by omega) (by omega)
      simp only [Chg.rXe, Chg.mk'] at hset
      simp -implicitDefEqProofs [List.lookup_cons, and_assoc, pick_and, pick_or, if_and, if_or, h, hjL, tOb, hw, Int.add_assoc, F42, show q + 1 ≤ 4611686018427387904 by omega]
      refine ⟨j + 1, by omega, by omega, ?_⟩
      rw [hset]
      exact Wk.tl (by simp [hold, upd, tl_cons, w64_nat (show j < 4611686018427387904 by omega)]; omega)
    · have e : j = l.length := by omega
      subst e
      simp -implicitDefEqProofs [List.lookup_cons, and_assoc, pick_and, pick_or, if_and, if_or, tOb, Chg.mkL_len]
      refine finM1 0 [] (tOb 61 16 (Chg.mkL k l.length)) (by simp [pickOk, -List.all_eq_true, tR_ok]) (by simp [tOb]) (by simp [tOb, upd, tl_cons]) ?_
      simp -implicitDefEqProofs [pur2_i, pur2_b, pur2_s, pur2_nil, pur2_sl, pur2_tup, rn2_tup, rn2_agg, rn2_osl, rn1_v, rn1_osl, rn1_agg, rn0_v, rn0_sl, rn0, pickObs, pur_v, pur_b, pur_s, pur_nil, pur_sl, deI, deIs_sl, M17, tOb, rn2_I]
  · obtain rfl : us = [] := by simpa using hu
    refine ⟨⟨by rw [Tryz.ntmps17]; simp, by simp, by simp⟩, ?_⟩
    simp -implicitDefEqProofs [Tryz.f17, List.lookup_cons, and_assoc, pick_and, pick_or, if_and, if_or]
    refine loopP_inv (fun _ : Nat => ⟨139, tl [(0, .sl []), (1, I k), (5, I 0)], []⟩) (fun _ => True) (fun _ => 0) 0 trivial (Wk.tl (by simp [hold, upd, tl_cons])) ?_
    intro j _
    simp -implicitDefEqProofs [List.lookup_cons, and_assoc, pick_and, pick_or, if_and, if_or]
    refine finM0 [] (by simp [pickOk]) ?_
    simp -implicitDefEqProofs [pur2_i, pur2_b, pur2_s, pur2_nil, pur2_sl, pur2_tup, rn2_tup, rn2_agg, rn2_osl, rn1_v, rn1_osl, rn1_agg, rn0_v, rn0_sl, rn0, pickObs, pur_v, pur_b, pur_s, pur_nil, pur_sl, deI, deIs_sl, M17, rn2_I]

def F21 : Fun := ⟨fun xs => xs = [.sl (tR (Chg.mkL (deI (xs.getD 1 .top)) (deT (xs.getD 0 .top) : List Chg).length)), I (deI (xs.getD 1 .top))] ∧ (deT (xs.getD 0 .top) : List Chg).length ≤ 1048576 ∧ 0 ≤ deI (xs.getD 1 .top) ∧ deI (xs.getD 1 .top) ≤ 1099511627776, fun xs => (I (deI (xs.getD 1 .top) + 16 * (deT (xs.getD 0 .top) : List Chg).length), [])⟩
theorem c21 : GenCA K Tryz.prog 21 F21 := by
  refine contractA Tryz.mix K [(42, F42)] [] (by simp [c42]) (by simp) Tryz.func21 rfl (by decide) ?_
  intro xs hxs
  obtain ⟨n, k, rfl, hn, hk0, hk1⟩ : ∃ (n : Nat) (k : Int), xs = [.sl (tR (Chg.mkL k n)), I k] ∧ n ≤ 1048576 ∧ 0 ≤ k ∧ k ≤ 1099511627776 := ⟨_, _, hxs.1, hxs.2⟩
  refine ⟨by rw [Tryz.ntmps21]; simp, ?_⟩
  simp -implicitDefEqProofs [Tryz.f21, List.lookup_cons, and_assoc, pick_and, pick_or, if_and, if_or]
  refine loopP_inv (fun j : Nat => ⟨171, tl [(0, .sl (tR (Chg.mkL k n))), (1, I (k + 16 * j)), (5, I j)], []⟩) (fun j => j ≤ n) (fun j => n - j) 0 (Nat.zero_le _) (Wk.tl (by simp [hold, upd, tl_cons])) ?_
  intro j hj
  by_cases h : j < n
  · generalize hq : k + 16 * (j : Int) = q
    have hw : ∀ z : Int, 0 ≤ z → z ≤ 64 → IntKind.i64.wrap (q + z) = q + z := fun z h1 h2 => w64 (by omega) (by omega)
    simp -implicitDefEqProofs [List.lookup_cons, and_assoc, pick_and, pick_or, if_and, if_or, h, Chg.mkL_len, Chg.mkL_get, Chg.mk', hq, hw, Int.add_assoc, F42, show q + 1 ≤ 4611686018427387904 by omega]
    refine drawP_all _ (by decide) ?_
    simp -implicitDefEqProofs [List.lookup_cons, and_assoc, pick_and, pick_or, if_and, if_or, h, Chg.mkL_len, Chg.mkL_get, Chg.mk', hq, hw, Int.add_assoc, F42, show q + 1 ≤ 4611686018427387904 by omega]
    refine ⟨j + 1, by omega, by omega, Wk.tl ?_⟩
    simp [hold, upd, tl_cons, w64_nat (show j < 4611686018427387904 by omega)]; omega
  · have e : j = n := by omega
    subst e
    simp -implicitDefEqProofs [List.lookup_cons, and_assoc, pick_and, pick_or, if_and, if_or, Chg.mkL_len]
    refine fin_pure (by simp) ?_
    simp -implicitDefEqProofs [pur2_i, pur2_b, pur2_s, pur2_nil, pur2_sl, pur2_tup, rn2_tup, rn2_agg, rn2_osl, rn1_v, rn1_osl, rn1_agg, rn0_v, rn0_sl, rn0, pickObs, pur_v, pur_b, pur_s, pur_nil, pur_sl, deI, deIs_sl, F21, Chg.mkL_len]

end Go.Proofs
