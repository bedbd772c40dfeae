/-
  What is proved here: changes, and contracts of the law's own functions on them. Condition: none.
-/
import Derived.Test.YtglbimhhiikkpaaDoorLCr
import Derived.Test.YtglbimhhiikkpaaDoorT1r
namespace Go.Proofs
open Go.Abs
set_option linter.unusedSimpArgs false
set_option linter.unnecessarySimpa false
set_option linter.unusedVariables false
set_option maxHeartbeats 4000000
set_option maxRecDepth 20000

structure Chg where
  kind : Int
  nm : ByteArray
  num : Int
  a0 : Int
  a1 : Int
  a2 : Int
  a3 : Int
  a4 : Int
  a5 : Int
  a6 : Int
  a7 : Int
  b0 : Int
  b1 : Int
  b2 : Int
  b3 : Int
  b4 : Int
instance : Rw Chg where
  n := 16
  enc e := [.int .i64 e.kind, .string e.nm, .int .i64 e.num, .int .i64 e.a0, .int .i64 e.a1, .int .i64 e.a2, .int .i64 e.a3, .int .i64 e.a4, .int .i64 e.a5, .int .i64 e.a6, .int .i64 e.a7, .int .i64 e.b0, .int .i64 e.b1, .int .i64 e.b2, .int .i64 e.b3, .int .i64 e.b4]
  dec l := ⟨deI (l.getD 0 .top), deS (l.getD 1 .top), deI (l.getD 2 .top), deI (l.getD 3 .top), deI (l.getD 4 .top), deI (l.getD 5 .top), deI (l.getD 6 .top), deI (l.getD 7 .top), deI (l.getD 8 .top), deI (l.getD 9 .top), deI (l.getD 10 .top), deI (l.getD 11 .top), deI (l.getD 12 .top), deI (l.getD 13 .top), deI (l.getD 14 .top), deI (l.getD 15 .top)⟩
  len _ := rfl
  flat _ := rfl
  de _ := rfl
@[simp] theorem Chg.rXe (e : Chg) : rX e = [I e.kind, .v (.string e.nm), I e.num, I e.a0, I e.a1, I e.a2, I e.a3, I e.a4, I e.a5, I e.a6, I e.a7, I e.b0, I e.b1, I e.b2, I e.b3, I e.b4] := rfl
@[simp] theorem Chg.dece (x0 x1 x2 x3 x4 x5 x6 x7 x8 x9 x10 x11 x12 x13 x14 x15 : X) : (Rw.dec [x0, x1, x2, x3, x4, x5, x6, x7, x8, x9, x10, x11, x12, x13, x14, x15] : Chg) = ⟨deI x0, deS x1, deI x2, deI x3, deI x4, deI x5, deI x6, deI x7, deI x8, deI x9, deI x10, deI x11, deI x12, deI x13, deI x14, deI x15⟩ := rfl
@[simp] theorem Chg.eta (e : Chg) : (⟨e.kind, e.nm, e.num, e.a0, e.a1, e.a2, e.a3, e.a4, e.a5, e.a6, e.a7, e.b0, e.b1, e.b2, e.b3, e.b4⟩ : Chg) = e := rfl
def Chg.z : Chg := ⟨0, ⟨#[]⟩, 0, 0, 0, 0, 0, 0, 0, 0, 0, 0, 0, 0, 0, 0⟩
def Chg.V (e : Chg) : Value := .agg #[.int .i64 e.kind, .string e.nm, .int .i64 e.num, .int .i64 e.a0, .int .i64 e.a1, .int .i64 e.a2, .int .i64 e.a3, .int .i64 e.a4, .int .i64 e.a5, .int .i64 e.a6, .int .i64 e.a7, .int .i64 e.b0, .int .i64 e.b1, .int .i64 e.b2, .int .i64 e.b3, .int .i64 e.b4]
theorem Chg.cstV (e : Chg) : cst e.V = .agg (rX e) := by simp [cst, Chg.V, plain]

def Chg.mk' (k : Int) : Chg := ⟨k, mTx (k + 1), k + 2, k + 3, k + 4, k + 5, k + 6, k + 7, k + 8, k + 9, k + 10, k + 11, k + 12, k + 13, k + 14, k + 15⟩
def Chg.mkL (k : Int) (n : Nat) : List Chg := (List.range n).map fun i : Nat => Chg.mk' (k + 16 * (i : Int))
@[simp] theorem Chg.mkL_len (k : Int) (n : Nat) : (Chg.mkL k n).length = n := by simp [Chg.mkL]
@[simp] theorem Chg.mkL_zero (k : Int) : Chg.mkL k 0 = [] := rfl
theorem Chg.mkL_set (k : Int) (l : List Chg) (j : Nat) (h : j < l.length) : (Chg.mkL k j ++ l.drop j).set j (Chg.mk' (k + 16 * (j : Int))) = Chg.mkL k (j + 1) ++ l.drop (j + 1) := by
  rw [List.set_append_right _ _ (by simp [Chg.mkL_len]), Chg.mkL_len, Nat.sub_self, List.drop_eq_getElem_cons h, List.set_cons_zero]
  simp [Chg.mkL, List.range_succ]
theorem Chg.mkL_get (k : Int) (n j : Nat) (h : j < (Chg.mkL k n).length) : (Chg.mkL k n)[j] = Chg.mk' (k + 16 * (j : Int)) := by simp [Chg.mkL]

def F58 : Fun := ⟨fun xs => xs = [.agg (rX (deA (xs.getD 0 .top) : Chg)), .agg (rX (deA (xs.getD 0 .top) : Chg))], fun _ => (B true, [])⟩
theorem c58 : GenCA K Tryd.prog 58 F58 := by
  refine contractA Tryd.mix K [(82, F82), (83, F83)] [] (by simp [c82, c83]) (by simp) Tryd.func58 rfl (by decide) ?_
  intro xs hxs
  obtain ⟨a, rfl⟩ : ∃ a : Chg, xs = [.agg (rX a), .agg (rX a)] := ⟨_, hxs⟩
  refine ⟨by rw [Tryd.ntmps58]; simp, ?_⟩
  simp -implicitDefEqProofs [Tryd.f58, List.lookup_cons, and_assoc, pick_and, pick_or, if_and, if_or, F82, F83]
  refine fin_pure (by simp) ?_
  simp -implicitDefEqProofs [pur2_i, pur2_b, pur2_s, pur2_nil, pur2_sl, pur2_tup, rn2_tup, rn2_agg, rn2_osl, rn1_v, rn1_osl, rn1_agg, rn0_v, rn0_sl, rn0, pickObs, pur_v, pur_b, pur_s, pur_nil, pur_sl, deI, deIs_sl, F58]

def F27 : Fun := ⟨fun xs => xs = [.sl (tR (deT (xs.getD 0 .top) : List Chg)), .sl (tR (deT (xs.getD 0 .top) : List Chg))] ∧ (deT (xs.getD 0 .top) : List Chg).length ≤ 1048576, fun _ => (B true, [])⟩
theorem c27 : GenCA K Tryd.prog 27 F27 := by
  refine contractA Tryd.mix K [(58, F58)] [] (by simp [c58]) (by simp) Tryd.func27 rfl (by decide) ?_
  intro xs hxs
  obtain ⟨l, rfl, hl⟩ : ∃ l : List Chg, xs = [.sl (tR l), .sl (tR l)] ∧ l.length ≤ 1048576 := ⟨_, hxs.1, hxs.2⟩
  refine ⟨by rw [Tryd.ntmps27]; simp, ?_⟩
  simp -implicitDefEqProofs [Tryd.f27, List.lookup_cons, and_assoc, pick_and, pick_or, if_and, if_or]
  refine loopP_inv (fun k : Nat => ⟨27, tl [(0, .sl (tR l)), (1, .sl (tR l)), (5, I k)], []⟩) (fun k => k ≤ l.length) (fun k => l.length - k) 0 (Nat.zero_le _) (Wk.tl (by simp [hold, upd, tl_cons])) ?_
  intro k hk
  by_cases h : k < l.length
  · simp -implicitDefEqProofs [List.lookup_cons, and_assoc, pick_and, pick_or, if_and, if_or, h]
    refine drawP_all _ (by decide) ?_
    simp -implicitDefEqProofs [List.lookup_cons, and_assoc, pick_and, pick_or, if_and, if_or, h, F58]
    refine ⟨k + 1, by omega, by omega, Wk.tl ?_⟩
    simp [hold, upd, tl_cons, w64_nat (show k < 4611686018427387904 by omega)]
  · have e : k = l.length := by omega
    subst e
    simp -implicitDefEqProofs [List.lookup_cons, and_assoc, pick_and, pick_or, if_and, if_or]
    refine fin_pure (by simp) ?_
    simp -implicitDefEqProofs [pur2_i, pur2_b, pur2_s, pur2_nil, pur2_sl, pur2_tup, rn2_tup, rn2_agg, rn2_osl, rn1_v, rn1_osl, rn1_agg, rn0_v, rn0_sl, rn0, pickObs, pur_v, pur_b, pur_s, pur_nil, pur_sl, deI, deIs_sl, F27]

def M28 : MFun := ⟨[true], fun xs obs => (∃ (l : List Chg) (k : Int), xs = [.osl 0 0, I k] ∧ obs = [tOb 67 16 l] ∧ l.length ≤ 1048576 ∧ 0 ≤ k ∧ k ≤ 1099511627776) ∨ (∃ k : Int, xs = [.sl [], I k] ∧ obs = [] ∧ 0 ≤ k ∧ k ≤ 1099511627776),
  fun xs obs => (I (deI (xs.getD 1 .top) + 16 * ((obs.map fun ob => ob.rows.length).sum : Nat)), obs.map fun ob => tOb 67 16 (Chg.mkL (deI (xs.getD 1 .top)) ob.rows.length))⟩
theorem m28 : GenMA K Tryd.prog 28 M28 := by
  refine contractMA Tryd.mix K [(59, F59)] [] (by simp [c59]) (by simp) Tryd.func28 rfl (by decide) ?_
  rintro xs obs us (⟨l, k, rfl, rfl, hl, hk0, hk1⟩ | ⟨k, rfl, rfl, hk0, hk1⟩) hu
  · obtain ⟨u, rfl⟩ : ∃ u, us = [u] := by simpa [List.length_eq_one_iff] using hu
    refine ⟨⟨by rw [Tryd.ntmps28]; simp, by simp, ?_⟩, ?_⟩
    · rintro (_ | j) ob hob
      · simp at hob; subst hob; exact ⟨_, rfl, rfl, rfl, rfl, rfl, rfl⟩
      · simp at hob
    simp -implicitDefEqProofs [Tryd.f28, List.lookup_cons, and_assoc, pick_and, pick_or, if_and, if_or, tOb]
    refine loopP_inv (fun j : Nat => ⟨139, tl [(0, .osl 0 0), (1, I (k + 16 * j)), (5, I j), (1000, .pin 0 0 u)], [tOb 67 16 (Chg.mkL k j ++ l.drop j)]⟩) (fun j => j ≤ l.length) (fun j => l.length - j) 0 (Nat.zero_le _) ?_ ?_
    · simp only [Chg.mkL, List.range_zero, List.map_nil, List.nil_append, List.drop_zero]
      exact Wk.tl (by simp [hold, upd, tl_cons])
    intro j hj
    have hlen : (Chg.mkL k j ++ l.drop j).length = l.length := by simp [Chg.mkL_len]; omega
    by_cases h : j < l.length
    · have hset := tR_set (Chg.mkL k j ++ l.drop j) j (Chg.mk' (k + 16 * (j : Int)))
      rw [Chg.mkL_set k l j h] at hset
      generalize hL : Chg.mkL k j ++ l.drop j = L at hset hlen
      have hjL : j < L.length := by omega
      generalize hq : k + 16 * (j : Int) = q at hset
      have hw : ∀ z : Int, 0 ≤ z → z ≤ 64 → IntKind.i64.wrap (q + z) = q + z := fun z h1 h2 => w64 (by omega) (by omega)
      simp only [Chg.rXe, Chg.mk'] at hset
      simp -implicitDefEqProofs [List.lookup_cons, and_assoc, pick_and, pick_or, if_and, if_or, h, hjL, tOb, hw, Int.add_assoc, F59, show q + 1 ≤ 4611686018427387904 by omega]
      refine ⟨j + 1, by omega, by omega, ?_⟩
      rw [hset]
      exact Wk.tl (by simp [hold, upd, tl_cons, w64_nat (show j < 4611686018427387904 by omega)]; omega)
    · have e : j = l.length := by omega
      subst e
      simp -implicitDefEqProofs [List.lookup_cons, and_assoc, pick_and, pick_or, if_and, if_or, tOb, Chg.mkL_len]
      refine finM1 0 [] (tOb 67 16 (Chg.mkL k l.length)) (by simp [pickOk, -List.all_eq_true, tR_ok]) (by simp [tOb]) (by simp [tOb, upd, tl_cons]) ?_
      simp -implicitDefEqProofs [pur2_i, pur2_b, pur2_s, pur2_nil, pur2_sl, pur2_tup, rn2_tup, rn2_agg, rn2_osl, rn1_v, rn1_osl, rn1_agg, rn0_v, rn0_sl, rn0, pickObs, pur_v, pur_b, pur_s, pur_nil, pur_sl, deI, deIs_sl, M28, tOb, rn2_I]
  · obtain rfl : us = [] := by simpa using hu
    refine ⟨⟨by rw [Tryd.ntmps28]; simp, by simp, by simp⟩, ?_⟩
    simp -implicitDefEqProofs [Tryd.f28, List.lookup_cons, and_assoc, pick_and, pick_or, if_and, if_or]
    refine loopP_inv (fun _ : Nat => ⟨139, tl [(0, .sl []), (1, I k), (5, I 0)], []⟩) (fun _ => True) (fun _ => 0) 0 trivial (Wk.tl (by simp [hold, upd, tl_cons])) ?_
    intro j _
    simp -implicitDefEqProofs [List.lookup_cons, and_assoc, pick_and, pick_or, if_and, if_or]
    refine finM0 [] (by simp [pickOk]) ?_
    simp -implicitDefEqProofs [pur2_i, pur2_b, pur2_s, pur2_nil, pur2_sl, pur2_tup, rn2_tup, rn2_agg, rn2_osl, rn1_v, rn1_osl, rn1_agg, rn0_v, rn0_sl, rn0, pickObs, pur_v, pur_b, pur_s, pur_nil, pur_sl, deI, deIs_sl, M28, rn2_I]

def F29 : Fun := ⟨fun xs => xs = [.sl (tR (Chg.mkL (deI (xs.getD 1 .top)) (deT (xs.getD 0 .top) : List Chg).length)), I (deI (xs.getD 1 .top))] ∧ (deT (xs.getD 0 .top) : List Chg).length ≤ 1048576 ∧ 0 ≤ deI (xs.getD 1 .top) ∧ deI (xs.getD 1 .top) ≤ 1099511627776, fun xs => (I (deI (xs.getD 1 .top) + 16 * (deT (xs.getD 0 .top) : List Chg).length), [])⟩
theorem c29 : GenCA K Tryd.prog 29 F29 := by
  refine contractA Tryd.mix K [(59, F59)] [] (by simp [c59]) (by simp) Tryd.func29 rfl (by decide) ?_
  intro xs hxs
  obtain ⟨n, k, rfl, hn, hk0, hk1⟩ : ∃ (n : Nat) (k : Int), xs = [.sl (tR (Chg.mkL k n)), I k] ∧ n ≤ 1048576 ∧ 0 ≤ k ∧ k ≤ 1099511627776 := ⟨_, _, hxs.1, hxs.2⟩
  refine ⟨by rw [Tryd.ntmps29]; simp, ?_⟩
  simp -implicitDefEqProofs [Tryd.f29, List.lookup_cons, and_assoc, pick_and, pick_or, if_and, if_or]
  refine loopP_inv (fun j : Nat => ⟨171, tl [(0, .sl (tR (Chg.mkL k n))), (1, I (k + 16 * j)), (5, I j)], []⟩) (fun j => j ≤ n) (fun j => n - j) 0 (Nat.zero_le _) (Wk.tl (by simp [hold, upd, tl_cons])) ?_
  intro j hj
  by_cases h : j < n
  · generalize hq : k + 16 * (j : Int) = q
    have hw : ∀ z : Int, 0 ≤ z → z ≤ 64 → IntKind.i64.wrap (q + z) = q + z := fun z h1 h2 => w64 (by omega) (by omega)
    simp -implicitDefEqProofs [List.lookup_cons, and_assoc, pick_and, pick_or, if_and, if_or, h, Chg.mkL_len, Chg.mkL_get, Chg.mk', hq, hw, Int.add_assoc, F59, show q + 1 ≤ 4611686018427387904 by omega]
    refine drawP_all _ (by decide) ?_
    simp -implicitDefEqProofs [List.lookup_cons, and_assoc, pick_and, pick_or, if_and, if_or, h, Chg.mkL_len, Chg.mkL_get, Chg.mk', hq, hw, Int.add_assoc, F59, show q + 1 ≤ 4611686018427387904 by omega]
    refine ⟨j + 1, by omega, by omega, Wk.tl ?_⟩
    simp [hold, upd, tl_cons, w64_nat (show j < 4611686018427387904 by omega)]; omega
  · have e : j = n := by omega
    subst e
    simp -implicitDefEqProofs [List.lookup_cons, and_assoc, pick_and, pick_or, if_and, if_or, Chg.mkL_len]
    refine fin_pure (by simp) ?_
    simp -implicitDefEqProofs [pur2_i, pur2_b, pur2_s, pur2_nil, pur2_sl, pur2_tup, rn2_tup, rn2_agg, rn2_osl, rn1_v, rn1_osl, rn1_agg, rn0_v, rn0_sl, rn0, pickObs, pur_v, pur_b, pur_s, pur_nil, pur_sl, deI, deIs_sl, F29, Chg.mkL_len]

end Go.Proofs
