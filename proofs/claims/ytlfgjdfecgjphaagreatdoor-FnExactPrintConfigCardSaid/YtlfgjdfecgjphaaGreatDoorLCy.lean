/-
  What is proved here: contracts of the law's own functions on configurations. Condition: none.
-/
import Derived.Test.YtlfgjdfecgjphaaGreatDoorC2y
namespace Go.Proofs
open Go.Abs
set_option linter.unusedSimpArgs false
set_option linter.unnecessarySimpa false
set_option linter.unusedVariables false
set_option maxHeartbeats 4000000
set_option maxRecDepth 20000



def Cls.mk' (k : Int) : Cls := ⟨k, k + 1, k + 2, k + 3, k + 4, k + 5, k + 6, k + 7⟩
def Cls.mkL (k : Int) (n : Nat) : List Cls := (List.range n).map fun i : Nat => Cls.mk' (k + 8 * (i : Int))
@[simp] theorem Cls.mkL_len (k : Int) (n : Nat) : (Cls.mkL k n).length = n := by simp [Cls.mkL]
@[simp] theorem Cls.mkL_zero (k : Int) : Cls.mkL k 0 = [] := rfl
theorem Cls.mkL_set (k : Int) (l : List Cls) (j : Nat) (h : j < l.length) : (Cls.mkL k j ++ l.drop j).set j (Cls.mk' (k + 8 * (j : Int))) = Cls.mkL k (j + 1) ++ l.drop (j + 1) := by
  rw [List.set_append_right _ _ (by simp [Cls.mkL_len]), Cls.mkL_len, Nat.sub_self, List.drop_eq_getElem_cons h, List.set_cons_zero]
  simp [Cls.mkL, List.range_succ]
theorem Cls.mkL_get (k : Int) (n j : Nat) (h : j < (Cls.mkL k n).length) : (Cls.mkL k n)[j] = Cls.mk' (k + 8 * (j : Int)) := by simp [Cls.mkL]

def Fil.mk' (k : Int) : Fil := ⟨k, k + 1, k + 2, k + 3, k + 4⟩
def Fil.mkL (k : Int) (n : Nat) : List Fil := (List.range n).map fun i : Nat => Fil.mk' (k + 5 * (i : Int))
@[simp] theorem Fil.mkL_len (k : Int) (n : Nat) : (Fil.mkL k n).length = n := by simp [Fil.mkL]
@[simp] theorem Fil.mkL_zero (k : Int) : Fil.mkL k 0 = [] := rfl
theorem Fil.mkL_set (k : Int) (l : List Fil) (j : Nat) (h : j < l.length) : (Fil.mkL k j ++ l.drop j).set j (Fil.mk' (k + 5 * (j : Int))) = Fil.mkL k (j + 1) ++ l.drop (j + 1) := by
  rw [List.set_append_right _ _ (by simp [Fil.mkL_len]), Fil.mkL_len, Nat.sub_self, List.drop_eq_getElem_cons h, List.set_cons_zero]
  simp [Fil.mkL, List.range_succ]
theorem Fil.mkL_get (k : Int) (n j : Nat) (h : j < (Fil.mkL k n).length) : (Fil.mkL k n)[j] = Fil.mk' (k + 5 * (j : Int)) := by simp [Fil.mkL]

def F63 : Fun := ⟨fun xs => xs = [.agg (rX (deA (xs.getD 0 .top) : Cls))] ∧ (fun (e : Cls) => (True)) (deA (xs.getD 0 .top) : Cls), fun xs => (fun (e : Cls) => ((.agg (rX e), []) : X × List Ob)) (deA (xs.getD 0 .top) : Cls)⟩
theorem F63_in {xs : List X} (h : F63.pre xs) : ∃ (e : Cls), xs = [.agg (rX e)] ∧ (True) := ⟨_, h.1, h.2⟩
theorem F63_res (e : Cls) : F63.res [.agg (rX e)] = (.agg (rX e), []) := by simp [F63]
theorem F63_mk (e : Cls) (h : True) : F63.pre [.agg (rX e)] := by simpa [F63] using h
theorem c63 : GenCA K Tryz.prog 63 F63 := by
  refine contractA Tryz.mix K [] [] (by simp) (by simp) Tryz.func63 rfl (by decide) ?_
  intro xs hxs
  obtain ⟨e, rfl, hp⟩ := F63_in hxs
  rw [F63_res]
  refine ⟨by rw [Tryz.ntmps63]; simp, ?_⟩
  simp -implicitDefEqProofs [Tryz.f63, List.lookup_cons, and_assoc, pick_and, pick_or, if_and, if_or]
  refine fin_pure (by simp) ?_
  simp -implicitDefEqProofs [pur2_i, pur2_b, pur2_s, pur2_nil, pur2_sl, pur2_tup, rn2_tup, rn2_agg, rn2_osl, rn1_v, rn1_osl, rn1_agg, rn0_v, rn0_sl, rn0, pickObs, pur_v, pur_b, pur_s, pur_nil, pur_sl, deI, deIs_sl]

def F35 : Fun := ⟨fun xs => xs = [.sl (tR (deT (xs.getD 0 .top) : List Cls))] ∧ (fun (l : List Cls) => (l.length ≤ 1048576)) (deT (xs.getD 0 .top) : List Cls), fun xs => (fun (l : List Cls) => ((.osl 0 0, [tOb 70 8 l]) : X × List Ob)) (deT (xs.getD 0 .top) : List Cls)⟩
theorem F35_in {xs : List X} (h : F35.pre xs) : ∃ (l : List Cls), xs = [.sl (tR l)] ∧ (l.length ≤ 1048576) := ⟨_, h.1, h.2⟩
theorem F35_res (l : List Cls) : F35.res [.sl (tR l)] = (.osl 0 0, [tOb 70 8 l]) := by simp [F35]
theorem F35_mk (l : List Cls) (h : l.length ≤ 1048576) : F35.pre [.sl (tR l)] := by simpa [F35] using h
theorem c35 : GenCA K Tryz.prog 35 F35 := by
  refine contractA Tryz.mix K [(63, F63)] [] (by simp [c63]) (by simp) Tryz.func35 rfl (by decide) ?_
  intro xs hxs
  obtain ⟨l, rfl, hp⟩ := F35_in hxs
  rw [F35_res]
  refine ⟨by rw [Tryz.ntmps35]; simp, ?_⟩
  simp -implicitDefEqProofs [Tryz.f35, F63, List.lookup_cons, and_assoc, pick_and, pick_or, if_and, if_or, eMake]
  refine ⟨by omega, by omega, ?_⟩
  refine loopP_inv (fun k : Nat => ⟨23, tl [(0, .sl (tR l)), (3, .osl 0 0), (4, I k)], [tOb 70 8 (l.take k ++ List.replicate (l.length - k) Cls.z)]⟩) (fun k => k ≤ l.length) (fun k => l.length - k) 0 (Nat.zero_le _) ?_ ?_
  · simp only [tOb, List.take_zero, List.nil_append, Nat.sub_zero, ← tR_replicate]
    exact Wk.tl (by simp [hold, upd, tl_cons])
  intro k hk
  by_cases h : k < l.length
  · have hk' : k < min k l.length + (l.length - k) := by omega
    have hset := tR_set (l.take k ++ List.replicate (l.length - k) Cls.z) k l[k]
    rw [fillT Cls.z l k h] at hset
    simp only [Cls.rXe] at hset
    simp -implicitDefEqProofs [List.lookup_cons, and_assoc, pick_and, pick_or, if_and, if_or, h, F63, hk', tOb]
    refine ⟨k + 1, by omega, by omega, ?_⟩
    rw [hset]
    exact Wk.tl (by simp [hold, upd, tl_cons, w64_nat (show k < 4611686018427387904 by omega)])
  · simp -implicitDefEqProofs [List.lookup_cons, and_assoc, pick_and, pick_or, if_and, if_or, h, tOb]
    have : l.length - k = 0 := by omega
    rw [this, List.take_of_length_le (by omega), List.replicate_zero, List.append_nil]
    refine fin_own [0] (by simp [pickOk, -List.all_eq_true, tR_ok]) ?_
    simp -implicitDefEqProofs [pur2_i, pur2_b, pur2_s, pur2_nil, pur2_sl, pur2_tup, rn2_tup, rn2_agg, rn2_osl, rn1_v, rn1_osl, rn1_agg, rn0_v, rn0_sl, rn0, pickObs, pur_v, pur_b, pur_s, pur_nil, pur_sl, deI, deIs_sl, tOb]

def F69 : Fun := ⟨fun xs => xs = [.agg (rX (deA (xs.getD 0 .top) : Cls)), .agg (rX (deA (xs.getD 0 .top) : Cls))], fun _ => (B true, [])⟩
theorem c69 : GenCA K Tryz.prog 69 F69 := by
  refine contractA Tryz.mix K [] [] (by simp []) (by simp) Tryz.func69 rfl (by decide) ?_
  intro xs hxs
  obtain ⟨a, rfl⟩ : ∃ a : Cls, xs = [.agg (rX a), .agg (rX a)] := ⟨_, hxs⟩
  refine ⟨by rw [Tryz.ntmps69]; simp, ?_⟩
  simp -implicitDefEqProofs [Tryz.f69, List.lookup_cons, and_assoc, pick_and, pick_or, if_and, if_or]
  refine fin_pure (by simp) ?_
  simp -implicitDefEqProofs [pur2_i, pur2_b, pur2_s, pur2_nil, pur2_sl, pur2_tup, rn2_tup, rn2_agg, rn2_osl, rn1_v, rn1_osl, rn1_agg, rn0_v, rn0_sl, rn0, pickObs, pur_v, pur_b, pur_s, pur_nil, pur_sl, deI, deIs_sl, F69]

def F39 : Fun := ⟨fun xs => xs = [.sl (tR (deT (xs.getD 0 .top) : List Cls)), .sl (tR (deT (xs.getD 0 .top) : List Cls))] ∧ (deT (xs.getD 0 .top) : List Cls).length ≤ 1048576, fun _ => (B true, [])⟩
theorem c39 : GenCA K Tryz.prog 39 F39 := by
  refine contractA Tryz.mix K [(69, F69)] [] (by simp [c69]) (by simp) Tryz.func39 rfl (by decide) ?_
  intro xs hxs
  obtain ⟨l, rfl, hl⟩ : ∃ l : List Cls, xs = [.sl (tR l), .sl (tR l)] ∧ l.length ≤ 1048576 := ⟨_, hxs.1, hxs.2⟩
  refine ⟨by rw [Tryz.ntmps39]; simp, ?_⟩
  simp -implicitDefEqProofs [Tryz.f39, List.lookup_cons, and_assoc, pick_and, pick_or, if_and, if_or]
  refine loopP_inv (fun k : Nat => ⟨27, tl [(0, .sl (tR l)), (1, .sl (tR l)), (5, I k)], []⟩) (fun k => k ≤ l.length) (fun k => l.length - k) 0 (Nat.zero_le _) (Wk.tl (by simp [hold, upd, tl_cons])) ?_
  intro k hk
  by_cases h : k < l.length
  · simp -implicitDefEqProofs [List.lookup_cons, and_assoc, pick_and, pick_or, if_and, if_or, h]
    refine drawP_all _ (by decide) ?_
    simp -implicitDefEqProofs [List.lookup_cons, and_assoc, pick_and, pick_or, if_and, if_or, h, F69]
    refine ⟨k + 1, by omega, by omega, Wk.tl ?_⟩
    simp [hold, upd, tl_cons, w64_nat (show k < 4611686018427387904 by omega)]
  · have e : k = l.length := by omega
    subst e
    simp -implicitDefEqProofs [List.lookup_cons, and_assoc, pick_and, pick_or, if_and, if_or]
    refine fin_pure (by simp) ?_
    simp -implicitDefEqProofs [pur2_i, pur2_b, pur2_s, pur2_nil, pur2_sl, pur2_tup, rn2_tup, rn2_agg, rn2_osl, rn1_v, rn1_osl, rn1_agg, rn0_v, rn0_sl, rn0, pickObs, pur_v, pur_b, pur_s, pur_nil, pur_sl, deI, deIs_sl, F39]

def M52 : MFun := ⟨[true], fun xs obs => (∃ (l : List Cls) (k : Int), xs = [.osl 0 0, I k] ∧ obs = [tOb 70 8 l] ∧ l.length ≤ 1048576 ∧ 0 ≤ k ∧ k ≤ 1099511627776) ∨ (∃ k : Int, xs = [.sl [], I k] ∧ obs = [] ∧ 0 ≤ k ∧ k ≤ 1099511627776),
  fun xs obs => (I (deI (xs.getD 1 .top) + 8 * ((obs.map fun ob => ob.rows.length).sum : Nat)), obs.map fun ob => tOb 70 8 (Cls.mkL (deI (xs.getD 1 .top)) ob.rows.length))⟩
theorem m52 : GenMA K Tryz.prog 52 M52 := by
  refine contractMA Tryz.mix K [] [] (by simp) (by simp) Tryz.func52 rfl (by decide) ?_
  rintro xs obs us (⟨l, k, rfl, rfl, hl, hk0, hk1⟩ | ⟨k, rfl, rfl, hk0, hk1⟩) hu
  · obtain ⟨u, rfl⟩ : ∃ u, us = [u] := by simpa [List.length_eq_one_iff] using hu
    refine ⟨⟨by rw [Tryz.ntmps52]; simp, by simp, ?_⟩, ?_⟩
    · rintro (_ | j) ob hob
      · simp at hob; subst hob; exact ⟨_, rfl, rfl, rfl, rfl, rfl, rfl⟩
      · simp at hob
    simp -implicitDefEqProofs [Tryz.f52, List.lookup_cons, and_assoc, pick_and, pick_or, if_and, if_or, tOb]
    refine loopP_inv (fun j : Nat => ⟨69, tl [(0, .osl 0 0), (1, I (k + 8 * j)), (5, I j), (1000, .pin 0 0 u)], [tOb 70 8 (Cls.mkL k j ++ l.drop j)]⟩) (fun j => j ≤ l.length) (fun j => l.length - j) 0 (Nat.zero_le _) ?_ ?_
    · simp only [Cls.mkL, List.range_zero, List.map_nil, List.nil_append, List.drop_zero]
      exact Wk.tl (by simp [hold, upd, tl_cons])
    intro j hj
    have hlen : (Cls.mkL k j ++ l.drop j).length = l.length := by simp [Cls.mkL_len]; omega
    by_cases h : j < l.length
    · have hset := tR_set (Cls.mkL k j ++ l.drop j) j (Cls.mk' (k + 8 * (j : Int)))
      rw [Cls.mkL_set k l j h] at hset
      generalize hL : Cls.mkL k j ++ l.drop j = L at hset hlen
      have hjL : j < L.length := by omega
      generalize hq : k + 8 * (j : Int) = q at hset
      have hw : ∀ z : Int, 0 ≤ z → z ≤ 64 → IntKind.i64.wrap (q + z) = q + z := fun z h1 h2 => w64 (by omega) (by omega)
      simp only [Cls.rXe, Cls.mk'] at hset
      simp -implicitDefEqProofs [List.lookup_cons, and_assoc, pick_and, pick_or, if_and, if_or, h, hjL, tOb, hw, Int.add_assoc]
      refine ⟨j + 1, by omega, by omega, ?_⟩
      rw [hset]
      exact Wk.tl (by simp [hold, upd, tl_cons, w64_nat (show j < 4611686018427387904 by omega)]; omega)
    · have e : j = l.length := by omega
      subst e
      simp -implicitDefEqProofs [List.lookup_cons, and_assoc, pick_and, pick_or, if_and, if_or, tOb, Cls.mkL_len]
      refine finM1 0 [] (tOb 70 8 (Cls.mkL k l.length)) (by simp [pickOk, -List.all_eq_true, tR_ok]) (by simp [tOb]) (by simp [tOb, upd, tl_cons]) ?_
      simp -implicitDefEqProofs [pur2_i, pur2_b, pur2_s, pur2_nil, pur2_sl, pur2_tup, rn2_tup, rn2_agg, rn2_osl, rn1_v, rn1_osl, rn1_agg, rn0_v, rn0_sl, rn0, pickObs, pur_v, pur_b, pur_s, pur_nil, pur_sl, deI, deIs_sl, M52, tOb, rn2_I]
  · obtain rfl : us = [] := by simpa using hu
    refine ⟨⟨by rw [Tryz.ntmps52]; simp, by simp, by simp⟩, ?_⟩
    simp -implicitDefEqProofs [Tryz.f52, List.lookup_cons, and_assoc, pick_and, pick_or, if_and, if_or]
    refine loopP_inv (fun _ : Nat => ⟨69, tl [(0, .sl []), (1, I k), (5, I 0)], []⟩) (fun _ => True) (fun _ => 0) 0 trivial (Wk.tl (by simp [hold, upd, tl_cons])) ?_
    intro j _
    simp -implicitDefEqProofs [List.lookup_cons, and_assoc, pick_and, pick_or, if_and, if_or]
    refine finM0 [] (by simp [pickOk]) ?_
    simp -implicitDefEqProofs [pur2_i, pur2_b, pur2_s, pur2_nil, pur2_sl, pur2_tup, rn2_tup, rn2_agg, rn2_osl, rn1_v, rn1_osl, rn1_agg, rn0_v, rn0_sl, rn0, pickObs, pur_v, pur_b, pur_s, pur_nil, pur_sl, deI, deIs_sl, M52, rn2_I]

def F58 : Fun := ⟨fun xs => xs = [.sl (tR (Cls.mkL (deI (xs.getD 1 .top)) (deT (xs.getD 0 .top) : List Cls).length)), I (deI (xs.getD 1 .top))] ∧ (deT (xs.getD 0 .top) : List Cls).length ≤ 1048576 ∧ 0 ≤ deI (xs.getD 1 .top) ∧ deI (xs.getD 1 .top) ≤ 1099511627776, fun xs => (I (deI (xs.getD 1 .top) + 8 * (deT (xs.getD 0 .top) : List Cls).length), [])⟩
theorem c58 : GenCA K Tryz.prog 58 F58 := by
  refine contractA Tryz.mix K [] [] (by simp) (by simp) Tryz.func58 rfl (by decide) ?_
  intro xs hxs
  obtain ⟨n, k, rfl, hn, hk0, hk1⟩ : ∃ (n : Nat) (k : Int), xs = [.sl (tR (Cls.mkL k n)), I k] ∧ n ≤ 1048576 ∧ 0 ≤ k ∧ k ≤ 1099511627776 := ⟨_, _, hxs.1, hxs.2⟩
  refine ⟨by rw [Tryz.ntmps58]; simp, ?_⟩
  simp -implicitDefEqProofs [Tryz.f58, List.lookup_cons, and_assoc, pick_and, pick_or, if_and, if_or]
  refine loopP_inv (fun j : Nat => ⟨85, tl [(0, .sl (tR (Cls.mkL k n))), (1, I (k + 8 * j)), (5, I j)], []⟩) (fun j => j ≤ n) (fun j => n - j) 0 (Nat.zero_le _) (Wk.tl (by simp [hold, upd, tl_cons])) ?_
  intro j hj
  by_cases h : j < n
  · generalize hq : k + 8 * (j : Int) = q
    have hw : ∀ z : Int, 0 ≤ z → z ≤ 64 → IntKind.i64.wrap (q + z) = q + z := fun z h1 h2 => w64 (by omega) (by omega)
    simp -implicitDefEqProofs [List.lookup_cons, and_assoc, pick_and, pick_or, if_and, if_or, h, Cls.mkL_len, Cls.mkL_get, Cls.mk', hq, hw, Int.add_assoc]
    refine ⟨j + 1, by omega, by omega, Wk.tl ?_⟩
    simp [hold, upd, tl_cons, w64_nat (show j < 4611686018427387904 by omega)]; omega
  · have e : j = n := by omega
    subst e
    simp -implicitDefEqProofs [List.lookup_cons, and_assoc, pick_and, pick_or, if_and, if_or, Cls.mkL_len]
    refine fin_pure (by simp) ?_
    simp -implicitDefEqProofs [pur2_i, pur2_b, pur2_s, pur2_nil, pur2_sl, pur2_tup, rn2_tup, rn2_agg, rn2_osl, rn1_v, rn1_osl, rn1_agg, rn0_v, rn0_sl, rn0, pickObs, pur_v, pur_b, pur_s, pur_nil, pur_sl, deI, deIs_sl, F58, Cls.mkL_len]

def F64 : Fun := ⟨fun xs => xs = [.agg (rX (deA (xs.getD 0 .top) : Fil))] ∧ (fun (e : Fil) => (True)) (deA (xs.getD 0 .top) : Fil), fun xs => (fun (e : Fil) => ((.agg (rX e), []) : X × List Ob)) (deA (xs.getD 0 .top) : Fil)⟩
theorem F64_in {xs : List X} (h : F64.pre xs) : ∃ (e : Fil), xs = [.agg (rX e)] ∧ (True) := ⟨_, h.1, h.2⟩
theorem F64_res (e : Fil) : F64.res [.agg (rX e)] = (.agg (rX e), []) := by simp [F64]
theorem F64_mk (e : Fil) (h : True) : F64.pre [.agg (rX e)] := by simpa [F64] using h
theorem c64 : GenCA K Tryz.prog 64 F64 := by
  refine contractA Tryz.mix K [] [] (by simp) (by simp) Tryz.func64 rfl (by decide) ?_
  intro xs hxs
  obtain ⟨e, rfl, hp⟩ := F64_in hxs
  rw [F64_res]
  refine ⟨by rw [Tryz.ntmps64]; simp, ?_⟩
  simp -implicitDefEqProofs [Tryz.f64, List.lookup_cons, and_assoc, pick_and, pick_or, if_and, if_or]
  refine fin_pure (by simp) ?_
  simp -implicitDefEqProofs [pur2_i, pur2_b, pur2_s, pur2_nil, pur2_sl, pur2_tup, rn2_tup, rn2_agg, rn2_osl, rn1_v, rn1_osl, rn1_agg, rn0_v, rn0_sl, rn0, pickObs, pur_v, pur_b, pur_s, pur_nil, pur_sl, deI, deIs_sl]

def F36 : Fun := ⟨fun xs => xs = [.sl (tR (deT (xs.getD 0 .top) : List Fil))] ∧ (fun (l : List Fil) => (l.length ≤ 1048576)) (deT (xs.getD 0 .top) : List Fil), fun xs => (fun (l : List Fil) => ((.osl 0 0, [tOb 81 5 l]) : X × List Ob)) (deT (xs.getD 0 .top) : List Fil)⟩
theorem F36_in {xs : List X} (h : F36.pre xs) : ∃ (l : List Fil), xs = [.sl (tR l)] ∧ (l.length ≤ 1048576) := ⟨_, h.1, h.2⟩
theorem F36_res (l : List Fil) : F36.res [.sl (tR l)] = (.osl 0 0, [tOb 81 5 l]) := by simp [F36]
theorem F36_mk (l : List Fil) (h : l.length ≤ 1048576) : F36.pre [.sl (tR l)] := by simpa [F36] using h
theorem c36 : GenCA K Tryz.prog 36 F36 := by
  refine contractA Tryz.mix K [(64, F64)] [] (by simp [c64]) (by simp) Tryz.func36 rfl (by decide) ?_
  intro xs hxs
  obtain ⟨l, rfl, hp⟩ := F36_in hxs
  rw [F36_res]
  refine ⟨by rw [Tryz.ntmps36]; simp, ?_⟩
  simp -implicitDefEqProofs [Tryz.f36, F64, List.lookup_cons, and_assoc, pick_and, pick_or, if_and, if_or, eMake]
  refine ⟨by omega, by omega, ?_⟩
  refine loopP_inv (fun k : Nat => ⟨23, tl [(0, .sl (tR l)), (3, .osl 0 0), (4, I k)], [tOb 81 5 (l.take k ++ List.replicate (l.length - k) Fil.z)]⟩) (fun k => k ≤ l.length) (fun k => l.length - k) 0 (Nat.zero_le _) ?_ ?_
  · simp only [tOb, List.take_zero, List.nil_append, Nat.sub_zero, ← tR_replicate]
    exact Wk.tl (by simp [hold, upd, tl_cons])
  intro k hk
  by_cases h : k < l.length
  · have hk' : k < min k l.length + (l.length - k) := by omega
    have hset := tR_set (l.take k ++ List.replicate (l.length - k) Fil.z) k l[k]
    rw [fillT Fil.z l k h] at hset
    simp only [Fil.rXe] at hset
    simp -implicitDefEqProofs [List.lookup_cons, and_assoc, pick_and, pick_or, if_and, if_or, h, F64, hk', tOb]
    refine ⟨k + 1, by omega, by omega, ?_⟩
    rw [hset]
    exact Wk.tl (by simp [hold, upd, tl_cons, w64_nat (show k < 4611686018427387904 by omega)])
  · simp -implicitDefEqProofs [List.lookup_cons, and_assoc, pick_and, pick_or, if_and, if_or, h, tOb]
    have : l.length - k = 0 := by omega
    rw [this, List.take_of_length_le (by omega), List.replicate_zero, List.append_nil]
    refine fin_own [0] (by simp [pickOk, -List.all_eq_true, tR_ok]) ?_
    simp -implicitDefEqProofs [pur2_i, pur2_b, pur2_s, pur2_nil, pur2_sl, pur2_tup, rn2_tup, rn2_agg, rn2_osl, rn1_v, rn1_osl, rn1_agg, rn0_v, rn0_sl, rn0, pickObs, pur_v, pur_b, pur_s, pur_nil, pur_sl, deI, deIs_sl, tOb]

def F70 : Fun := ⟨fun xs => xs = [.agg (rX (deA (xs.getD 0 .top) : Fil)), .agg (rX (deA (xs.getD 0 .top) : Fil))], fun _ => (B true, [])⟩
theorem c70 : GenCA K Tryz.prog 70 F70 := by
  refine contractA Tryz.mix K [] [] (by simp []) (by simp) Tryz.func70 rfl (by decide) ?_
  intro xs hxs
  obtain ⟨a, rfl⟩ : ∃ a : Fil, xs = [.agg (rX a), .agg (rX a)] := ⟨_, hxs⟩
  refine ⟨by rw [Tryz.ntmps70]; simp, ?_⟩
  simp -implicitDefEqProofs [Tryz.f70, List.lookup_cons, and_assoc, pick_and, pick_or, if_and, if_or]
  refine fin_pure (by simp) ?_
  simp -implicitDefEqProofs [pur2_i, pur2_b, pur2_s, pur2_nil, pur2_sl, pur2_tup, rn2_tup, rn2_agg, rn2_osl, rn1_v, rn1_osl, rn1_agg, rn0_v, rn0_sl, rn0, pickObs, pur_v, pur_b, pur_s, pur_nil, pur_sl, deI, deIs_sl, F70]

def F40 : Fun := ⟨fun xs => xs = [.sl (tR (deT (xs.getD 0 .top) : List Fil)), .sl (tR (deT (xs.getD 0 .top) : List Fil))] ∧ (deT (xs.getD 0 .top) : List Fil).length ≤ 1048576, fun _ => (B true, [])⟩
theorem c40 : GenCA K Tryz.prog 40 F40 := by
  refine contractA Tryz.mix K [(70, F70)] [] (by simp [c70]) (by simp) Tryz.func40 rfl (by decide) ?_
  intro xs hxs
  obtain ⟨l, rfl, hl⟩ : ∃ l : List Fil, xs = [.sl (tR l), .sl (tR l)] ∧ l.length ≤ 1048576 := ⟨_, hxs.1, hxs.2⟩
  refine ⟨by rw [Tryz.ntmps40]; simp, ?_⟩
  simp -implicitDefEqProofs [Tryz.f40, List.lookup_cons, and_assoc, pick_and, pick_or, if_and, if_or]
  refine loopP_inv (fun k : Nat => ⟨27, tl [(0, .sl (tR l)), (1, .sl (tR l)), (5, I k)], []⟩) (fun k => k ≤ l.length) (fun k => l.length - k) 0 (Nat.zero_le _) (Wk.tl (by simp [hold, upd, tl_cons])) ?_
  intro k hk
  by_cases h : k < l.length
  · simp -implicitDefEqProofs [List.lookup_cons, and_assoc, pick_and, pick_or, if_and, if_or, h]
    refine drawP_all _ (by decide) ?_
    simp -implicitDefEqProofs [List.lookup_cons, and_assoc, pick_and, pick_or, if_and, if_or, h, F70]
    refine ⟨k + 1, by omega, by omega, Wk.tl ?_⟩
    simp [hold, upd, tl_cons, w64_nat (show k < 4611686018427387904 by omega)]
  · have e : k = l.length := by omega
    subst e
    simp -implicitDefEqProofs [List.lookup_cons, and_assoc, pick_and, pick_or, if_and, if_or]
    refine fin_pure (by simp) ?_
    simp -implicitDefEqProofs [pur2_i, pur2_b, pur2_s, pur2_nil, pur2_sl, pur2_tup, rn2_tup, rn2_agg, rn2_osl, rn1_v, rn1_osl, rn1_agg, rn0_v, rn0_sl, rn0, pickObs, pur_v, pur_b, pur_s, pur_nil, pur_sl, deI, deIs_sl, F40]

def M53 : MFun := ⟨[true], fun xs obs => (∃ (l : List Fil) (k : Int), xs = [.osl 0 0, I k] ∧ obs = [tOb 81 5 l] ∧ l.length ≤ 1048576 ∧ 0 ≤ k ∧ k ≤ 1099511627776) ∨ (∃ k : Int, xs = [.sl [], I k] ∧ obs = [] ∧ 0 ≤ k ∧ k ≤ 1099511627776),
  fun xs obs => (I (deI (xs.getD 1 .top) + 5 * ((obs.map fun ob => ob.rows.length).sum : Nat)), obs.map fun ob => tOb 81 5 (Fil.mkL (deI (xs.getD 1 .top)) ob.rows.length))⟩
theorem m53 : GenMA K Tryz.prog 53 M53 := by
  refine contractMA Tryz.mix K [] [] (by simp) (by simp) Tryz.func53 rfl (by decide) ?_
  rintro xs obs us (⟨l, k, rfl, rfl, hl, hk0, hk1⟩ | ⟨k, rfl, rfl, hk0, hk1⟩) hu
  · obtain ⟨u, rfl⟩ : ∃ u, us = [u] := by simpa [List.length_eq_one_iff] using hu
    refine ⟨⟨by rw [Tryz.ntmps53]; simp, by simp, ?_⟩, ?_⟩
    · rintro (_ | j) ob hob
      · simp at hob; subst hob; exact ⟨_, rfl, rfl, rfl, rfl, rfl, rfl⟩
      · simp at hob
    simp -implicitDefEqProofs [Tryz.f53, List.lookup_cons, and_assoc, pick_and, pick_or, if_and, if_or, tOb]
    refine loopP_inv (fun j : Nat => ⟨48, tl [(0, .osl 0 0), (1, I (k + 5 * j)), (5, I j), (1000, .pin 0 0 u)], [tOb 81 5 (Fil.mkL k j ++ l.drop j)]⟩) (fun j => j ≤ l.length) (fun j => l.length - j) 0 (Nat.zero_le _) ?_ ?_
    · simp only [Fil.mkL, List.range_zero, List.map_nil, List.nil_append, List.drop_zero]
      exact Wk.tl (by simp [hold, upd, tl_cons])
    intro j hj
    have hlen : (Fil.mkL k j ++ l.drop j).length = l.length := by simp [Fil.mkL_len]; omega
    by_cases h : j < l.length
    · have hset := tR_set (Fil.mkL k j ++ l.drop j) j (Fil.mk' (k + 5 * (j : Int)))
      rw [Fil.mkL_set k l j h] at hset
      generalize hL : Fil.mkL k j ++ l.drop j = L at hset hlen
      have hjL : j < L.length := by omega
      generalize hq : k + 5 * (j : Int) = q at hset
      have hw : ∀ z : Int, 0 ≤ z → z ≤ 64 → IntKind.i64.wrap (q + z) = q + z := fun z h1 h2 => w64 (by omega) (by omega)
      simp only [Fil.rXe, Fil.mk'] at hset
      simp -implicitDefEqProofs [List.lookup_cons, and_assoc, pick_and, pick_or, if_and, if_or, h, hjL, tOb, hw, Int.add_assoc]
      refine ⟨j + 1, by omega, by omega, ?_⟩
      rw [hset]
      exact Wk.tl (by simp [hold, upd, tl_cons, w64_nat (show j < 4611686018427387904 by omega)]; omega)
    · have e : j = l.length := by omega
      subst e
      simp -implicitDefEqProofs [List.lookup_cons, and_assoc, pick_and, pick_or, if_and, if_or, tOb, Fil.mkL_len]
      refine finM1 0 [] (tOb 81 5 (Fil.mkL k l.length)) (by simp [pickOk, -List.all_eq_true, tR_ok]) (by simp [tOb]) (by simp [tOb, upd, tl_cons]) ?_
      simp -implicitDefEqProofs [pur2_i, pur2_b, pur2_s, pur2_nil, pur2_sl, pur2_tup, rn2_tup, rn2_agg, rn2_osl, rn1_v, rn1_osl, rn1_agg, rn0_v, rn0_sl, rn0, pickObs, pur_v, pur_b, pur_s, pur_nil, pur_sl, deI, deIs_sl, M53, tOb, rn2_I]
  · obtain rfl : us = [] := by simpa using hu
    refine ⟨⟨by rw [Tryz.ntmps53]; simp, by simp, by simp⟩, ?_⟩
    simp -implicitDefEqProofs [Tryz.f53, List.lookup_cons, and_assoc, pick_and, pick_or, if_and, if_or]
    refine loopP_inv (fun _ : Nat => ⟨48, tl [(0, .sl []), (1, I k), (5, I 0)], []⟩) (fun _ => True) (fun _ => 0) 0 trivial (Wk.tl (by simp [hold, upd, tl_cons])) ?_
    intro j _
    simp -implicitDefEqProofs [List.lookup_cons, and_assoc, pick_and, pick_or, if_and, if_or]
    refine finM0 [] (by simp [pickOk]) ?_
    simp -implicitDefEqProofs [pur2_i, pur2_b, pur2_s, pur2_nil, pur2_sl, pur2_tup, rn2_tup, rn2_agg, rn2_osl, rn1_v, rn1_osl, rn1_agg, rn0_v, rn0_sl, rn0, pickObs, pur_v, pur_b, pur_s, pur_nil, pur_sl, deI, deIs_sl, M53, rn2_I]

def F59 : Fun := ⟨fun xs => xs = [.sl (tR (Fil.mkL (deI (xs.getD 1 .top)) (deT (xs.getD 0 .top) : List Fil).length)), I (deI (xs.getD 1 .top))] ∧ (deT (xs.getD 0 .top) : List Fil).length ≤ 1048576 ∧ 0 ≤ deI (xs.getD 1 .top) ∧ deI (xs.getD 1 .top) ≤ 1099511627776, fun xs => (I (deI (xs.getD 1 .top) + 5 * (deT (xs.getD 0 .top) : List Fil).length), [])⟩
theorem c59 : GenCA K Tryz.prog 59 F59 := by
  refine contractA Tryz.mix K [] [] (by simp) (by simp) Tryz.func59 rfl (by decide) ?_
  intro xs hxs
  obtain ⟨n, k, rfl, hn, hk0, hk1⟩ : ∃ (n : Nat) (k : Int), xs = [.sl (tR (Fil.mkL k n)), I k] ∧ n ≤ 1048576 ∧ 0 ≤ k ∧ k ≤ 1099511627776 := ⟨_, _, hxs.1, hxs.2⟩
  refine ⟨by rw [Tryz.ntmps59]; simp, ?_⟩
  simp -implicitDefEqProofs [Tryz.f59, List.lookup_cons, and_assoc, pick_and, pick_or, if_and, if_or]
  refine loopP_inv (fun j : Nat => ⟨58, tl [(0, .sl (tR (Fil.mkL k n))), (1, I (k + 5 * j)), (5, I j)], []⟩) (fun j => j ≤ n) (fun j => n - j) 0 (Nat.zero_le _) (Wk.tl (by simp [hold, upd, tl_cons])) ?_
  intro j hj
  by_cases h : j < n
  · generalize hq : k + 5 * (j : Int) = q
    have hw : ∀ z : Int, 0 ≤ z → z ≤ 64 → IntKind.i64.wrap (q + z) = q + z := fun z h1 h2 => w64 (by omega) (by omega)
    simp -implicitDefEqProofs [List.lookup_cons, and_assoc, pick_and, pick_or, if_and, if_or, h, Fil.mkL_len, Fil.mkL_get, Fil.mk', hq, hw, Int.add_assoc]
    refine ⟨j + 1, by omega, by omega, Wk.tl ?_⟩
    simp [hold, upd, tl_cons, w64_nat (show j < 4611686018427387904 by omega)]; omega
  · have e : j = n := by omega
    subst e
    simp -implicitDefEqProofs [List.lookup_cons, and_assoc, pick_and, pick_or, if_and, if_or, Fil.mkL_len]
    refine fin_pure (by simp) ?_
    simp -implicitDefEqProofs [pur2_i, pur2_b, pur2_s, pur2_nil, pur2_sl, pur2_tup, rn2_tup, rn2_agg, rn2_osl, rn1_v, rn1_osl, rn1_agg, rn0_v, rn0_sl, rn0, pickObs, pur_v, pur_b, pur_s, pur_nil, pur_sl, deI, deIs_sl, F59, Fil.mkL_len]

def F31 : Fun := ⟨fun xs => xs = [.sl (tR (deT (xs.getD 0 .top) : List Cls)), I (deI (xs.getD 1 .top) : Int)] ∧ (fun (l : List Cls) (m : Int) => (l.length ≤ 9223372036854775807 ∧ 0 ≤ m ∧ m ≤ 1048576)) (deT (xs.getD 0 .top) : List Cls) (deI (xs.getD 1 .top) : Int), fun xs => (fun (l : List Cls) (m : Int) => ((I (if m < l.length then -1 else m - l.length), []) : X × List Ob)) (deT (xs.getD 0 .top) : List Cls) (deI (xs.getD 1 .top) : Int)⟩
theorem F31_in {xs : List X} (h : F31.pre xs) : ∃ (l : List Cls) (m : Int), xs = [.sl (tR l), I m] ∧ (l.length ≤ 9223372036854775807 ∧ 0 ≤ m ∧ m ≤ 1048576) := ⟨_, _, h.1, h.2⟩
theorem F31_res (l : List Cls) (m : Int) : F31.res [.sl (tR l), I m] = (I (if m < l.length then -1 else m - l.length), []) := by simp [F31]
theorem F31_mk (l : List Cls) (m : Int) (h : l.length ≤ 9223372036854775807 ∧ 0 ≤ m ∧ m ≤ 1048576) : F31.pre [.sl (tR l), I m] := by simpa [F31] using h
theorem c31 : GenCA K Tryz.prog 31 F31 := by
  refine contractA Tryz.mix K [] [] (by simp) (by simp) Tryz.func31 rfl (by decide) ?_
  intro xs hxs
  obtain ⟨l, m, rfl, hp⟩ := F31_in hxs
  rw [F31_res]
  refine ⟨by rw [Tryz.ntmps31]; simp, ?_⟩
  have hw : IntKind.i64.wrap (m - l.length) = m - l.length := w64 (by omega) (by omega)
  by_cases h : m < l.length
  · have h' : m - l.length < 0 := by omega
    simp -implicitDefEqProofs [Tryz.f31, List.lookup_cons, and_assoc, pick_and, pick_or, if_and, if_or, hw, h']
    refine fin_pure (by simp) ?_
    simp -implicitDefEqProofs [pur2_i, pur2_b, pur2_s, pur2_nil, pur2_sl, pur2_tup, rn2_tup, rn2_agg, rn2_osl, rn1_v, rn1_osl, rn1_agg, rn0_v, rn0_sl, rn0, pickObs, pur_v, pur_b, pur_s, pur_nil, pur_sl, deI, deIs_sl, h]
  · have h' : ¬ m - l.length < 0 := by omega
    simp -implicitDefEqProofs [Tryz.f31, List.lookup_cons, and_assoc, pick_and, pick_or, if_and, if_or, hw, h']
    refine fin_pure (by simp) ?_
    simp -implicitDefEqProofs [pur2_i, pur2_b, pur2_s, pur2_nil, pur2_sl, pur2_tup, rn2_tup, rn2_agg, rn2_osl, rn1_v, rn1_osl, rn1_agg, rn0_v, rn0_sl, rn0, pickObs, pur_v, pur_b, pur_s, pur_nil, pur_sl, deI, deIs_sl, h]
def F32 : Fun := ⟨fun xs => xs = [.sl (tR (deT (xs.getD 0 .top) : List Fil)), I (deI (xs.getD 1 .top) : Int)] ∧ (fun (l : List Fil) (m : Int) => (l.length ≤ 9223372036854775807 ∧ 0 ≤ m ∧ m ≤ 1048576)) (deT (xs.getD 0 .top) : List Fil) (deI (xs.getD 1 .top) : Int), fun xs => (fun (l : List Fil) (m : Int) => ((I (if m < l.length then -1 else m - l.length), []) : X × List Ob)) (deT (xs.getD 0 .top) : List Fil) (deI (xs.getD 1 .top) : Int)⟩
theorem F32_in {xs : List X} (h : F32.pre xs) : ∃ (l : List Fil) (m : Int), xs = [.sl (tR l), I m] ∧ (l.length ≤ 9223372036854775807 ∧ 0 ≤ m ∧ m ≤ 1048576) := ⟨_, _, h.1, h.2⟩
theorem F32_res (l : List Fil) (m : Int) : F32.res [.sl (tR l), I m] = (I (if m < l.length then -1 else m - l.length), []) := by simp [F32]
theorem F32_mk (l : List Fil) (m : Int) (h : l.length ≤ 9223372036854775807 ∧ 0 ≤ m ∧ m ≤ 1048576) : F32.pre [.sl (tR l), I m] := by simpa [F32] using h
theorem c32 : GenCA K Tryz.prog 32 F32 := by
  refine contractA Tryz.mix K [] [] (by simp) (by simp) Tryz.func32 rfl (by decide) ?_
  intro xs hxs
  obtain ⟨l, m, rfl, hp⟩ := F32_in hxs
  rw [F32_res]
  refine ⟨by rw [Tryz.ntmps32]; simp, ?_⟩
  have hw : IntKind.i64.wrap (m - l.length) = m - l.length := w64 (by omega) (by omega)
  by_cases h : m < l.length
  · have h' : m - l.length < 0 := by omega
    simp -implicitDefEqProofs [Tryz.f32, List.lookup_cons, and_assoc, pick_and, pick_or, if_and, if_or, hw, h']
    refine fin_pure (by simp) ?_
    simp -implicitDefEqProofs [pur2_i, pur2_b, pur2_s, pur2_nil, pur2_sl, pur2_tup, rn2_tup, rn2_agg, rn2_osl, rn1_v, rn1_osl, rn1_agg, rn0_v, rn0_sl, rn0, pickObs, pur_v, pur_b, pur_s, pur_nil, pur_sl, deI, deIs_sl, h]
  · have h' : ¬ m - l.length < 0 := by omega
    simp -implicitDefEqProofs [Tryz.f32, List.lookup_cons, and_assoc, pick_and, pick_or, if_and, if_or, hw, h']
    refine fin_pure (by simp) ?_
    simp -implicitDefEqProofs [pur2_i, pur2_b, pur2_s, pur2_nil, pur2_sl, pur2_tup, rn2_tup, rn2_agg, rn2_osl, rn1_v, rn1_osl, rn1_agg, rn0_v, rn0_sl, rn0, pickObs, pur_v, pur_b, pur_s, pur_nil, pur_sl, deI, deIs_sl, h]
def cSz (c : Cfg) : Int := (c.name.size : Int) + c.cls.length + c.fil.length
def bigC (c : Cfg) : Prop := c.name.size ≤ 9223372036854775807 ∧ c.cls.length ≤ 9223372036854775807 ∧ c.fil.length ≤ 9223372036854775807
theorem okC_of {c : Cfg} {m : Int} (h : ¬ m < cSz c) (hm : m ≤ 1048576) : okC c := by
  unfold cSz at h
  exact ⟨by omega, by omega, by omega⟩
def F9 : Fun := ⟨fun xs => xs = [.agg (cX (deC (xs.getD 0 .top) : Cfg)), I (deI (xs.getD 1 .top) : Int)] ∧ (fun (c : Cfg) (m : Int) => (bigC c ∧ 0 ≤ m ∧ m ≤ 1048576)) (deC (xs.getD 0 .top) : Cfg) (deI (xs.getD 1 .top) : Int), fun xs => (fun (c : Cfg) (m : Int) => ((I (if m < cSz c then -1 else m - cSz c), []) : X × List Ob)) (deC (xs.getD 0 .top) : Cfg) (deI (xs.getD 1 .top) : Int)⟩
theorem F9_in {xs : List X} (h : F9.pre xs) : ∃ (c : Cfg) (m : Int), xs = [.agg (cX c), I m] ∧ (bigC c ∧ 0 ≤ m ∧ m ≤ 1048576) := ⟨_, _, h.1, h.2⟩
theorem F9_res (c : Cfg) (m : Int) : F9.res [.agg (cX c), I m] = (I (if m < cSz c then -1 else m - cSz c), []) := by simp [F9]
theorem F9_mk (c : Cfg) (m : Int) (h : bigC c ∧ 0 ≤ m ∧ m ≤ 1048576) : F9.pre [.agg (cX c), I m] := by simpa [F9] using h
theorem c9 : GenCA K Tryz.prog 9 F9 := by
  refine contractA Tryz.mix K [(31, F31), (32, F32)] [] (by simp [c31, c32]) (by simp) Tryz.func9 rfl (by decide) ?_
  intro xs hxs
  obtain ⟨c, m, rfl, hp⟩ := F9_in hxs
  rw [F9_res]
  refine ⟨by rw [Tryz.ntmps9]; simp, ?_⟩
  obtain ⟨⟨b1, b2, b3⟩, hm0, hm1⟩ := hp
  have hw1 : IntKind.i64.wrap (m - c.name.size) = m - c.name.size := w64 (by omega) (by omega)
  by_cases h1 : m - c.name.size < 0
  · have e : m < cSz c := by unfold cSz; omega
    simp -implicitDefEqProofs [Tryz.f9, F31, F32, List.lookup_cons, and_assoc, pick_and, pick_or, if_and, if_or, hw1, h1]
    refine fin_pure (by simp) ?_
    simp -implicitDefEqProofs [pur2_i, pur2_b, pur2_s, pur2_nil, pur2_sl, pur2_tup, rn2_tup, rn2_agg, rn2_osl, rn1_v, rn1_osl, rn1_agg, rn0_v, rn0_sl, rn0, pickObs, pur_v, pur_b, pur_s, pur_nil, pur_sl, deI, deIs_sl, e]
  have q1 : 0 ≤ m - c.name.size := by omega
  have q1' : (c.name.size : Int) ≤ m := by omega
  have q2 : m - c.name.size ≤ 1048576 := by omega
  by_cases h2 : m - c.name.size < c.cls.length
  · have e : m < cSz c := by unfold cSz; omega
    simp -implicitDefEqProofs [Tryz.f9, F31, F32, List.lookup_cons, and_assoc, pick_and, pick_or, if_and, if_or, hw1, h1, b2, q1, q1', q2, h2]
    refine fin_pure (by simp) ?_
    simp -implicitDefEqProofs [pur2_i, pur2_b, pur2_s, pur2_nil, pur2_sl, pur2_tup, rn2_tup, rn2_agg, rn2_osl, rn1_v, rn1_osl, rn1_agg, rn0_v, rn0_sl, rn0, pickObs, pur_v, pur_b, pur_s, pur_nil, pur_sl, deI, deIs_sl, e]
  have r1 : 0 ≤ m - c.name.size - c.cls.length := by omega
  have r1' : ¬ m - c.name.size - c.cls.length < 0 := by omega
  have r1'' : (c.cls.length : Int) ≤ m - c.name.size := by omega
  have r2 : m - c.name.size - c.cls.length ≤ 1048576 := by omega
  by_cases h3 : m - c.name.size - c.cls.length < c.fil.length
  · have e : m < cSz c := by unfold cSz; omega
    simp -implicitDefEqProofs [Tryz.f9, F31, F32, List.lookup_cons, and_assoc, pick_and, pick_or, if_and, if_or, hw1, h1, b2, b3, q1, q1', q2, h2, r1, r1', r1'', r2, h3]
    refine fin_pure (by simp) ?_
    simp -implicitDefEqProofs [pur2_i, pur2_b, pur2_s, pur2_nil, pur2_sl, pur2_tup, rn2_tup, rn2_agg, rn2_osl, rn1_v, rn1_osl, rn1_agg, rn0_v, rn0_sl, rn0, pickObs, pur_v, pur_b, pur_s, pur_nil, pur_sl, deI, deIs_sl, e]
  have s1 : ¬ m - c.name.size - c.cls.length - c.fil.length < 0 := by omega
  have e : ¬ m < cSz c := by unfold cSz; omega
  simp -implicitDefEqProofs [Tryz.f9, F31, F32, List.lookup_cons, and_assoc, pick_and, pick_or, if_and, if_or, hw1, h1, b2, b3, q1, q1', q2, h2, r1, r1', r1'', r2, h3, s1]
  refine fin_pure (by simp) ?_
  simp -implicitDefEqProofs [pur2_i, pur2_b, pur2_s, pur2_nil, pur2_sl, pur2_tup, rn2_tup, rn2_agg, rn2_osl, rn1_v, rn1_osl, rn1_agg, rn0_v, rn0_sl, rn0, pickObs, pur_v, pur_b, pur_s, pur_nil, pur_sl, deI, deIs_sl, e, cSz]
  omega

def cO (c : Cfg) : X := .agg [.v (.string c.name), .osl 0 0, .osl 1 0, I c.dflt]
def cOb (c : Cfg) : List Ob := [tOb 70 8 c.cls, tOb 81 5 c.fil]
def F11 : Fun := ⟨fun xs => xs = [.agg (cX (deC (xs.getD 0 .top) : Cfg))] ∧ (fun (c : Cfg) => (okC c)) (deC (xs.getD 0 .top) : Cfg), fun xs => (fun (c : Cfg) => ((cO c, cOb c) : X × List Ob)) (deC (xs.getD 0 .top) : Cfg)⟩
theorem F11_in {xs : List X} (h : F11.pre xs) : ∃ (c : Cfg), xs = [.agg (cX c)] ∧ (okC c) := ⟨_, h.1, h.2⟩
theorem F11_res (c : Cfg) : F11.res [.agg (cX c)] = (cO c, cOb c) := by simp [F11]
theorem F11_mk (c : Cfg) (h : okC c) : F11.pre [.agg (cX c)] := by simpa [F11] using h
theorem c11 : GenCA K Tryz.prog 11 F11 := by
  refine contractA Tryz.mix K [(35, F35), (36, F36)] [] (by simp [c35, c36]) (by simp) Tryz.func11 rfl (by decide) ?_
  intro xs hxs
  obtain ⟨c, rfl, hp⟩ := F11_in hxs
  rw [F11_res]
  refine ⟨by rw [Tryz.ntmps11]; simp, ?_⟩
  obtain ⟨h1, h2, h3⟩ := hp
  simp -implicitDefEqProofs [Tryz.f11, F35, F36, List.lookup_cons, and_assoc, pick_and, pick_or, if_and, if_or, h1, h2, tOb]
  refine fin_own [3, 4] (by simp [pickOk, -List.all_eq_true, tR_ok]) ?_
  simp -implicitDefEqProofs [pur2_i, pur2_b, pur2_s, pur2_nil, pur2_sl, pur2_tup, rn2_tup, rn2_agg, rn2_osl, rn1_v, rn1_osl, rn1_agg, rn0_v, rn0_sl, rn0, pickObs, pur_v, pur_b, pur_s, pur_nil, pur_sl, deI, deIs_sl, cO, cOb, tOb]
  exact ⟨rfl, rfl⟩
def F13 : Fun := ⟨fun xs => xs = [.agg (cX (deC (xs.getD 0 .top))), .agg (cX (deC (xs.getD 0 .top)))] ∧ okC (deC (xs.getD 0 .top)), fun _ => (B true, [])⟩
theorem c13 : GenCA K Tryz.prog 13 F13 := by
  refine contractA Tryz.mix K [(39, F39), (40, F40)] [] (by simp [c39, c40]) (by simp) Tryz.func13 rfl (by decide) ?_
  intro xs hxs
  obtain ⟨c, rfl, hp⟩ : ∃ c : Cfg, xs = [.agg (cX c), .agg (cX c)] ∧ okC c := ⟨_, hxs.1, hxs.2⟩
  refine ⟨by rw [Tryz.ntmps13]; simp, ?_⟩
  simp -implicitDefEqProofs [Tryz.f13, List.lookup_cons, and_assoc, pick_and, pick_or, if_and, if_or, F39, F40, hp.1, hp.2.1]
  refine fin_pure (by simp) ?_
  simp -implicitDefEqProofs [pur2_i, pur2_b, pur2_s, pur2_nil, pur2_sl, pur2_tup, rn2_tup, rn2_agg, rn2_osl, rn1_v, rn1_osl, rn1_agg, rn0_v, rn0_sl, rn0, pickObs, pur_v, pur_b, pur_s, pur_nil, pur_sl, deI, deIs_sl, F13]

def obl (obs : List Ob) (i : Nat) : Nat := ((obs[i]?).map fun ob => ob.rows.length).getD 0
def cMk (k : Int) (n m : Nat) : List Ob := [tOb 70 8 (Cls.mkL k n), tOb 81 5 (Fil.mkL (k + 8 * n) m)]
def M21 : MFun := ⟨[true], fun xs obs => ∃ (c : Cfg) (k : Int), xs = [cO c, I k] ∧ obs = cOb c ∧ okC c ∧ 0 ≤ k ∧ k ≤ 549755813888,
  fun xs obs => (I (deI (xs.getD 1 .top) + 8 * (obl obs 0 : Nat) + 5 * (obl obs 1 : Nat)), cMk (deI (xs.getD 1 .top)) (obl obs 0) (obl obs 1))⟩
theorem m21 : GenMA K Tryz.prog 21 M21 := by
  refine contractMA Tryz.mix K [] [(52, M52), (53, M53)] (by simp) (by simp [m52, m53]) Tryz.func21 rfl (by decide) ?_
  rintro xs obs us ⟨c, k, rfl, rfl, hp, hk0, hk1⟩ hu
  obtain ⟨u, v, rfl⟩ : ∃ u v, us = [u, v] := by
    simp [cOb] at hu
    match us, hu with
    | [u, v], _ => exact ⟨u, v, rfl⟩
  refine ⟨⟨by rw [Tryz.ntmps21]; simp, by simp, ?_⟩, ?_⟩
  · rintro (_ | _ | j) ob hob
    · simp [cOb] at hob; subst hob; exact ⟨_, rfl, rfl, rfl, rfl, rfl, rfl⟩
    · simp [cOb] at hob; subst hob; exact ⟨_, rfl, rfl, rfl, rfl, rfl, rfl⟩
    · simp [cOb] at hob
  obtain ⟨h1, h2, h3⟩ := hp
  simp -implicitDefEqProofs [Tryz.f21, List.lookup_cons, and_assoc, pick_and, pick_or, if_and, if_or, rbR_iR, rbR_nil, rbOb_mk, iR_mf, pickOk, -List.all_eq_true, iR_ok, ok0, iR_eq_nil, deIs_nil, cO, cOb, tOb, M52, M53]
  refine ⟨h1, hk0, by omega, h2, by omega, by omega, ?_⟩
  refine finM2 0 1 [] (tOb 70 8 (Cls.mkL k c.cls.length)) (tOb 81 5 (Fil.mkL (k + 8 * c.cls.length) c.fil.length)) (by simp [pickOk, -List.all_eq_true, tR_ok]) (by simp [tOb]) (by simp [tOb]) (by simp [tOb, upd, tl_cons]) (by simp [tOb, upd, tl_cons]) ?_
  simp -implicitDefEqProofs [pur2_i, pur2_b, pur2_s, pur2_nil, pur2_sl, pur2_tup, rn2_tup, rn2_agg, rn2_osl, rn1_v, rn1_osl, rn1_agg, rn0_v, rn0_sl, rn0, pickObs, pur_v, pur_b, pur_s, pur_nil, pur_sl, deI, deIs_sl, M21, obl, cMk, tOb, rn2_I]
end Go.Proofs
