/-
  What is proved here: contracts of the law's own functions on configurations. Condition: none.
-/
import Derived.Test.YtflhbkcjfmajeaaGreatDoorC2z
namespace Go.Proofs
open Go.Abs
set_option linter.unusedSimpArgs false
set_option linter.unnecessarySimpa false
set_option linter.unusedVariables false
set_option maxHeartbeats 4000000
set_option maxRecDepth 20000



def Cls.mk' (k : Int) : Cls := ⟨k, k + 1, k + 2, k + 3, k + 4, k + 5, k + 6, k + 7⟩
def Cls.mkL (k : Int) (n : Nat) : List Cls := (List.range n).map fun i : Nat => Cls.mk' (k + 8 * (i : Int))
@[simp] theorem Cls.mkL_len (k : Int) (n : Nat) : (Cls.mkL k n).length = n := by simp [Cls.mkL]
@[simp] theorem Cls.mkL_zero (k : Int) : Cls.mkL k 0 = [] := rfl
theorem Cls.mkL_set (k : Int) (l : List Cls) (j : Nat) (h : j < l.length) : (Cls.mkL k j ++ l.drop j).set j (Cls.mk' (k + 8 * (j : Int))) = Cls.mkL k (j + 1) ++ l.drop (j + 1) := by
  rw [List.set_append_right _ _ (by simp [Cls.mkL_len]), Cls.mkL_len, Nat.sub_self, List.drop_eq_getElem_cons h, List.set_cons_zero]
  simp [Cls.mkL, List.range_succ]
theorem Cls.mkL_get (k : Int) (n j : Nat) (h : j < (Cls.mkL k n).length) : (Cls.mkL k n)[j] = Cls.mk' (k + 8 * (j : Int)) := by simp [Cls.mkL]

def Fil.mk' (k : Int) : Fil := ⟨k, k + 1, k + 2, k + 3, k + 4⟩
def Fil.mkL (k : Int) (n : Nat) : List Fil := (List.range n).map fun i : Nat => Fil.mk' (k + 5 * (i : Int))
@[simp] theorem Fil.mkL_len (k : Int) (n : Nat) : (Fil.mkL k n).length = n := by simp [Fil.mkL]
@[simp] theorem Fil.mkL_zero (k : Int) : Fil.mkL k 0 = [] := rfl
theorem Fil.mkL_set (k : Int) (l : List Fil) (j : Nat) (h : j < l.length) : (Fil.mkL k j ++ l.drop j).set j (Fil.mk' (k + 5 * (j : Int))) = Fil.mkL k (j + 1) ++ l.drop (j + 1) := by
  rw [List.set_append_right _ _ (by simp [Fil.mkL_len]), Fil.mkL_len, Nat.sub_self, List.drop_eq_getElem_cons h, List.set_cons_zero]
  simp [Fil.mkL, List.range_succ]
theorem Fil.mkL_get (k : Int) (n j : Nat) (h : j < (Fil.mkL k n).length) : (Fil.mkL k n)[j] = Fil.mk' (k + 5 * (j : Int)) := by simp [Fil.mkL]

def F50 : Fun := ⟨fun xs => xs = [.agg (rX (deA (xs.getD 0 .top) : Cls))] ∧ (fun (e : Cls) => (True)) (deA (xs.getD 0 .top) : Cls), fun xs => (fun (e : Cls) => ((.agg (rX e), []) : X × List Ob)) (deA (xs.getD 0 .top) : Cls)⟩
theorem F50_in {xs : List X} (h : F50.pre xs) : ∃ (e : Cls), xs = [.agg (rX e)] ∧ (True) := ⟨_, h.1, h.2⟩
theorem F50_res (e : Cls) : F50.res [.agg (rX e)] = (.agg (rX e), []) := by simp [F50]
theorem F50_mk (e : Cls) (h : True) : F50.pre [.agg (rX e)] := by simpa [F50] using h
theorem c50 : GenCA K Tryz.prog 50 F50 := by
  refine contractA Tryz.mix K [] [] (by simp) (by simp) Tryz.func50 rfl (by decide) ?_
  intro xs hxs
  obtain ⟨e, rfl, hp⟩ := F50_in hxs
  rw [F50_res]
  refine ⟨by rw [Tryz.ntmps50]; simp, ?_⟩
  simp -implicitDefEqProofs [Tryz.f50, List.lookup_cons, and_assoc, pick_and, pick_or, if_and, if_or]
  refine fin_pure (by simp) ?_
  simp -implicitDefEqProofs [pur2_i, pur2_b, pur2_s, pur2_nil, pur2_sl, pur2_tup, rn2_tup, rn2_agg, rn2_osl, rn1_v, rn1_osl, rn1_agg, rn0_v, rn0_sl, rn0, pickObs, pur_v, pur_b, pur_s, pur_nil, pur_sl, deI, deIs_sl]

def F22 : Fun := ⟨fun xs => xs = [.sl (tR (deT (xs.getD 0 .top) : List Cls))] ∧ (fun (l : List Cls) => (l.length ≤ 1048576)) (deT (xs.getD 0 .top) : List Cls), fun xs => (fun (l : List Cls) => ((.osl 0 0, [tOb 63 8 l]) : X × List Ob)) (deT (xs.getD 0 .top) : List Cls)⟩
theorem F22_in {xs : List X} (h : F22.pre xs) : ∃ (l : List Cls), xs = [.sl (tR l)] ∧ (l.length ≤ 1048576) := ⟨_, h.1, h.2⟩
theorem F22_res (l : List Cls) : F22.res [.sl (tR l)] = (.osl 0 0, [tOb 63 8 l]) := by simp [F22]
theorem F22_mk (l : List Cls) (h : l.length ≤ 1048576) : F22.pre [.sl (tR l)] := by simpa [F22] using h
theorem c22 : GenCA K Tryz.prog 22 F22 := by
  refine contractA Tryz.mix K [(50, F50)] [] (by simp [c50]) (by simp) Tryz.func22 rfl (by decide) ?_
  intro xs hxs
  obtain ⟨l, rfl, hp⟩ := F22_in hxs
  rw [F22_res]
  refine ⟨by rw [Tryz.ntmps22]; simp, ?_⟩
  simp -implicitDefEqProofs [Tryz.f22, F50, List.lookup_cons, and_assoc, pick_and, pick_or, if_and, if_or, eMake]
  refine ⟨by omega, by omega, ?_⟩
  refine loopP_inv (fun k : Nat => ⟨23, tl [(0, .sl (tR l)), (3, .osl 0 0), (4, I k)], [tOb 63 8 (l.take k ++ List.replicate (l.length - k) Cls.z)]⟩) (fun k => k ≤ l.length) (fun k => l.length - k) 0 (Nat.zero_le _) ?_ ?_
  · simp only [tOb, List.take_zero, List.nil_append, Nat.sub_zero, ← tR_replicate]
    exact Wk.tl (by simp [hold, upd, tl_cons])
  intro k hk
  by_cases h : k < l.length
  · have hk' : k < min k l.length + (l.length - k) := by omega
    have hset := tR_set (l.take k ++ List.replicate (l.length - k) Cls.z) k l[k]
    rw [fillT Cls.z l k h] at hset
    simp only [Cls.rXe] at hset
    simp -implicitDefEqProofs [List.lookup_cons, and_assoc, pick_and, pick_or, if_and, if_or, h, F50, hk', tOb]
    refine ⟨k + 1, by omega, by omega, ?_⟩
    rw [hset]
    exact Wk.tl (by simp [hold, upd, tl_cons, w64_nat (show k < 4611686018427387904 by omega)])
  · simp -implicitDefEqProofs [List.lookup_cons, and_assoc, pick_and, pick_or, if_and, if_or, h, tOb]
    have : l.length - k = 0 := by omega
    rw [this, List.take_of_length_le (by omega), List.replicate_zero, List.append_nil]
    refine fin_own [0] (by simp [pickOk, -List.all_eq_true, tR_ok]) ?_
    simp -implicitDefEqProofs [pur2_i, pur2_b, pur2_s, pur2_nil, pur2_sl, pur2_tup, rn2_tup, rn2_agg, rn2_osl, rn1_v, rn1_osl, rn1_agg, rn0_v, rn0_sl, rn0, pickObs, pur_v, pur_b, pur_s, pur_nil, pur_sl, deI, deIs_sl, tOb]

def F56 : Fun := ⟨fun xs => xs = [.agg (rX (deA (xs.getD 0 .top) : Cls)), .agg (rX (deA (xs.getD 0 .top) : Cls))], fun _ => (B true, [])⟩
theorem c56 : GenCA K Tryz.prog 56 F56 := by
  refine contractA Tryz.mix K [] [] (by simp []) (by simp) Tryz.func56 rfl (by decide) ?_
  intro xs hxs
  obtain ⟨a, rfl⟩ : ∃ a : Cls, xs = [.agg (rX a), .agg (rX a)] := ⟨_, hxs⟩
  refine ⟨by rw [Tryz.ntmps56]; simp, ?_⟩
  simp -implicitDefEqProofs [Tryz.f56, List.lookup_cons, and_assoc, pick_and, pick_or, if_and, if_or]
  refine fin_pure (by simp) ?_
  simp -implicitDefEqProofs [pur2_i, pur2_b, pur2_s, pur2_nil, pur2_sl, pur2_tup, rn2_tup, rn2_agg, rn2_osl, rn1_v, rn1_osl, rn1_agg, rn0_v, rn0_sl, rn0, pickObs, pur_v, pur_b, pur_s, pur_nil, pur_sl, deI, deIs_sl, F56]

def F26 : Fun := ⟨fun xs => xs = [.sl (tR (deT (xs.getD 0 .top) : List Cls)), .sl (tR (deT (xs.getD 0 .top) : List Cls))] ∧ (deT (xs.getD 0 .top) : List Cls).length ≤ 1048576, fun _ => (B true, [])⟩
theorem c26 : GenCA K Tryz.prog 26 F26 := by
  refine contractA Tryz.mix K [(56, F56)] [] (by simp [c56]) (by simp) Tryz.func26 rfl (by decide) ?_
  intro xs hxs
  obtain ⟨l, rfl, hl⟩ : ∃ l : List Cls, xs = [.sl (tR l), .sl (tR l)] ∧ l.length ≤ 1048576 := ⟨_, hxs.1, hxs.2⟩
  refine ⟨by rw [Tryz.ntmps26]; simp, ?_⟩
  simp -implicitDefEqProofs [Tryz.f26, List.lookup_cons, and_assoc, pick_and, pick_or, if_and, if_or]
  refine loopP_inv (fun k : Nat => ⟨27, tl [(0, .sl (tR l)), (1, .sl (tR l)), (5, I k)], []⟩) (fun k => k ≤ l.length) (fun k => l.length - k) 0 (Nat.zero_le _) (Wk.tl (by simp [hold, upd, tl_cons])) ?_
  intro k hk
  by_cases h : k < l.length
  · simp -implicitDefEqProofs [List.lookup_cons, and_assoc, pick_and, pick_or, if_and, if_or, h]
    refine drawP_all _ (by decide) ?_
    simp -implicitDefEqProofs [List.lookup_cons, and_assoc, pick_and, pick_or, if_and, if_or, h, F56]
    refine ⟨k + 1, by omega, by omega, Wk.tl ?_⟩
    simp [hold, upd, tl_cons, w64_nat (show k < 4611686018427387904 by omega)]
  · have e : k = l.length := by omega
    subst e
    simp -implicitDefEqProofs [List.lookup_cons, and_assoc, pick_and, pick_or, if_and, if_or]
    refine fin_pure (by simp) ?_
    simp -implicitDefEqProofs [pur2_i, pur2_b, pur2_s, pur2_nil, pur2_sl, pur2_tup, rn2_tup, rn2_agg, rn2_osl, rn1_v, rn1_osl, rn1_agg, rn0_v, rn0_sl, rn0, pickObs, pur_v, pur_b, pur_s, pur_nil, pur_sl, deI, deIs_sl, F26]

def M29 : MFun := ⟨[true], fun xs obs => (∃ (l : List Cls) (k : Int), xs = [.osl 0 0, I k] ∧ obs = [tOb 63 8 l] ∧ l.length ≤ 1048576 ∧ 0 ≤ k ∧ k ≤ 1099511627776) ∨ (∃ k : Int, xs = [.sl [], I k] ∧ obs = [] ∧ 0 ≤ k ∧ k ≤ 1099511627776),
  fun xs obs => (I (deI (xs.getD 1 .top) + 8 * ((obs.map fun ob => ob.rows.length).sum : Nat)), obs.map fun ob => tOb 63 8 (Cls.mkL (deI (xs.getD 1 .top)) ob.rows.length))⟩
theorem m29 : GenMA K Tryz.prog 29 M29 := by
  refine contractMA Tryz.mix K [] [] (by simp) (by simp) Tryz.func29 rfl (by decide) ?_
  rintro xs obs us (⟨l, k, rfl, rfl, hl, hk0, hk1⟩ | ⟨k, rfl, rfl, hk0, hk1⟩) hu
  · obtain ⟨u, rfl⟩ : ∃ u, us = [u] := by simpa [List.length_eq_one_iff] using hu
    refine ⟨⟨by rw [Tryz.ntmps29]; simp, by simp, ?_⟩, ?_⟩
    · rintro (_ | j) ob hob
      · simp at hob; subst hob; exact ⟨_, rfl, rfl, rfl, rfl, rfl, rfl⟩
      · simp at hob
    simp -implicitDefEqProofs [Tryz.f29, List.lookup_cons, and_assoc, pick_and, pick_or, if_and, if_or, tOb]
    refine loopP_inv (fun j : Nat => ⟨69, tl [(0, .osl 0 0), (1, I (k + 8 * j)), (5, I j), (1000, .pin 0 0 u)], [tOb 63 8 (Cls.mkL k j ++ l.drop j)]⟩) (fun j => j ≤ l.length) (fun j => l.length - j) 0 (Nat.zero_le _) ?_ ?_
    · simp only [Cls.mkL, List.range_zero, List.map_nil, List.nil_append, List.drop_zero]
      exact Wk.tl (by simp [hold, upd, tl_cons])
    intro j hj
    have hlen : (Cls.mkL k j ++ l.drop j).length = l.length := by simp [Cls.mkL_len]; omega
    by_cases h : j < l.length
    · have hset := tR_set (Cls.mkL k j ++ l.drop j) j (Cls.mk' (k + 8 * (j : Int)))
      rw [Cls.mkL_set k l j h] at hset
      generalize hL : Cls.mkL k j ++ l.drop j = L at hset hlen
      have hjL : j < L.length := by omega
      generalize hq : k + 8 * (j : Int) = q at hset
      have hw : ∀ z : Int, 0 ≤ z → z ≤ 64 → IntKind.i64.wrap (q + z) = q + z := fun z h1 h2 => w64 (by omega) (by omega)
      simp only [Cls.rXe, Cls.mk'] at hset
      simp -implicitDefEqProofs [List.lookup_cons, and_assoc, pick_and, pick_or, if_and, if_or, h, hjL, tOb, hw, Int.add_assoc]
      refine ⟨j + 1, by omega, by omega, ?_⟩
      rw [hset]
      exact Wk.tl (by simp [hold, upd, tl_cons, w64_nat (show j < 4611686018427387904 by omega)]; omega)
    · have e : j = l.length := by omega
      subst e
      simp -implicitDefEqProofs [List.lookup_cons, and_assoc, pick_and, pick_or, if_and, if_or, tOb, Cls.mkL_len]
      refine finM1 0 [] (tOb 63 8 (Cls.mkL k l.length)) (by simp [pickOk, -List.all_eq_true, tR_ok]) (by simp [tOb]) (by simp [tOb, upd, tl_cons]) ?_
      simp -implicitDefEqProofs [pur2_i, pur2_b, pur2_s, pur2_nil, pur2_sl, pur2_tup, rn2_tup, rn2_agg, rn2_osl, rn1_v, rn1_osl, rn1_agg, rn0_v, rn0_sl, rn0, pickObs, pur_v, pur_b, pur_s, pur_nil, pur_sl, deI, deIs_sl, M29, tOb, rn2_I]
  · obtain rfl : us = [] := by simpa using hu
    refine ⟨⟨by rw [Tryz.ntmps29]; simp, by simp, by simp⟩, ?_⟩
    simp -implicitDefEqProofs [Tryz.f29, List.lookup_cons, and_assoc, pick_and, pick_or, if_and, if_or]
    refine loopP_inv (fun _ : Nat => ⟨69, tl [(0, .sl []), (1, I k), (5, I 0)], []⟩) (fun _ => True) (fun _ => 0) 0 trivial (Wk.tl (by simp [hold, upd, tl_cons])) ?_
    intro j _
    simp -implicitDefEqProofs [List.lookup_cons, and_assoc, pick_and, pick_or, if_and, if_or]
    refine finM0 [] (by simp [pickOk]) ?_
    simp -implicitDefEqProofs [pur2_i, pur2_b, pur2_s, pur2_nil, pur2_sl, pur2_tup, rn2_tup, rn2_agg, rn2_osl, rn1_v, rn1_osl, rn1_agg, rn0_v, rn0_sl, rn0, pickObs, pur_v, pur_b, pur_s, pur_nil, pur_sl, deI, deIs_sl, M29, rn2_I]

def F32 : Fun := ⟨fun xs => xs = [.sl (tR (Cls.mkL (deI (xs.getD 1 .top)) (deT (xs.getD 0 .top) : List Cls).length)), I (deI (xs.getD 1 .top))] ∧ (deT (xs.getD 0 .top) : List Cls).length ≤ 1048576 ∧ 0 ≤ deI (xs.getD 1 .top) ∧ deI (xs.getD 1 .top) ≤ 1099511627776, fun xs => (I (deI (xs.getD 1 .top) + 8 * (deT (xs.getD 0 .top) : List Cls).length), [])⟩
theorem c32 : GenCA K Tryz.prog 32 F32 := by
  refine contractA Tryz.mix K [] [] (by simp) (by simp) Tryz.func32 rfl (by decide) ?_
  intro xs hxs
  obtain ⟨n, k, rfl, hn, hk0, hk1⟩ : ∃ (n : Nat) (k : Int), xs = [.sl (tR (Cls.mkL k n)), I k] ∧ n ≤ 1048576 ∧ 0 ≤ k ∧ k ≤ 1099511627776 := ⟨_, _, hxs.1, hxs.2⟩
  refine ⟨by rw [Tryz.ntmps32]; simp, ?_⟩
  simp -implicitDefEqProofs [Tryz.f32, List.lookup_cons, and_assoc, pick_and, pick_or, if_and, if_or]
  refine loopP_inv (fun j : Nat => ⟨85, tl [(0, .sl (tR (Cls.mkL k n))), (1, I (k + 8 * j)), (5, I j)], []⟩) (fun j => j ≤ n) (fun j => n - j) 0 (Nat.zero_le _) (Wk.tl (by simp [hold, upd, tl_cons])) ?_
  intro j hj
  by_cases h : j < n
  · generalize hq : k + 8 * (j : Int) = q
    have hw : ∀ z : Int, 0 ≤ z → z ≤ 64 → IntKind.i64.wrap (q + z) = q + z := fun z h1 h2 => w64 (by omega) (by omega)
    simp -implicitDefEqProofs [List.lookup_cons, and_assoc, pick_and, pick_or, if_and, if_or, h, Cls.mkL_len, Cls.mkL_get, Cls.mk', hq, hw, Int.add_assoc]
    refine ⟨j + 1, by omega, by omega, Wk.tl ?_⟩
    simp [hold, upd, tl_cons, w64_nat (show j < 4611686018427387904 by omega)]; omega
  · have e : j = n := by omega
    subst e
    simp -implicitDefEqProofs [List.lookup_cons, and_assoc, pick_and, pick_or, if_and, if_or, Cls.mkL_len]
    refine fin_pure (by simp) ?_
    simp -implicitDefEqProofs [pur2_i, pur2_b, pur2_s, pur2_nil, pur2_sl, pur2_tup, rn2_tup, rn2_agg, rn2_osl, rn1_v, rn1_osl, rn1_agg, rn0_v, rn0_sl, rn0, pickObs, pur_v, pur_b, pur_s, pur_nil, pur_sl, deI, deIs_sl, F32, Cls.mkL_len]

def F51 : Fun := ⟨fun xs => xs = [.agg (rX (deA (xs.getD 0 .top) : Fil))] ∧ (fun (e : Fil) => (True)) (deA (xs.getD 0 .top) : Fil), fun xs => (fun (e : Fil) => ((.agg (rX e), []) : X × List Ob)) (deA (xs.getD 0 .top) : Fil)⟩
theorem F51_in {xs : List X} (h : F51.pre xs) : ∃ (e : Fil), xs = [.agg (rX e)] ∧ (True) := ⟨_, h.1, h.2⟩
theorem F51_res (e : Fil) : F51.res [.agg (rX e)] = (.agg (rX e), []) := by simp [F51]
theorem F51_mk (e : Fil) (h : True) : F51.pre [.agg (rX e)] := by simpa [F51] using h
theorem c51 : GenCA K Tryz.prog 51 F51 := by
  refine contractA Tryz.mix K [] [] (by simp) (by simp) Tryz.func51 rfl (by decide) ?_
  intro xs hxs
  obtain ⟨e, rfl, hp⟩ := F51_in hxs
  rw [F51_res]
  refine ⟨by rw [Tryz.ntmps51]; simp, ?_⟩
  simp -implicitDefEqProofs [Tryz.f51, List.lookup_cons, and_assoc, pick_and, pick_or, if_and, if_or]
  refine fin_pure (by simp) ?_
  simp -implicitDefEqProofs [pur2_i, pur2_b, pur2_s, pur2_nil, pur2_sl, pur2_tup, rn2_tup, rn2_agg, rn2_osl, rn1_v, rn1_osl, rn1_agg, rn0_v, rn0_sl, rn0, pickObs, pur_v, pur_b, pur_s, pur_nil, pur_sl, deI, deIs_sl]

def F23 : Fun := ⟨fun xs => xs = [.sl (tR (deT (xs.getD 0 .top) : List Fil))] ∧ (fun (l : List Fil) => (l.length ≤ 1048576)) (deT (xs.getD 0 .top) : List Fil), fun xs => (fun (l : List Fil) => ((.osl 0 0, [tOb 70 5 l]) : X × List Ob)) (deT (xs.getD 0 .top) : List Fil)⟩
theorem F23_in {xs : List X} (h : F23.pre xs) : ∃ (l : List Fil), xs = [.sl (tR l)] ∧ (l.length ≤ 1048576) := ⟨_, h.1, h.2⟩
theorem F23_res (l : List Fil) : F23.res [.sl (tR l)] = (.osl 0 0, [tOb 70 5 l]) := by simp [F23]
theorem F23_mk (l : List Fil) (h : l.length ≤ 1048576) : F23.pre [.sl (tR l)] := by simpa [F23] using h
theorem c23 : GenCA K Tryz.prog 23 F23 := by
  refine contractA Tryz.mix K [(51, F51)] [] (by simp [c51]) (by simp) Tryz.func23 rfl (by decide) ?_
  intro xs hxs
  obtain ⟨l, rfl, hp⟩ := F23_in hxs
  rw [F23_res]
  refine ⟨by rw [Tryz.ntmps23]; simp, ?_⟩
  simp -implicitDefEqProofs [Tryz.f23, F51, List.lookup_cons, and_assoc, pick_and, pick_or, if_and, if_or, eMake]
  refine ⟨by omega, by omega, ?_⟩
  refine loopP_inv (fun k : Nat => ⟨23, tl [(0, .sl (tR l)), (3, .osl 0 0), (4, I k)], [tOb 70 5 (l.take k ++ List.replicate (l.length - k) Fil.z)]⟩) (fun k => k ≤ l.length) (fun k => l.length - k) 0 (Nat.zero_le _) ?_ ?_
  · simp only [tOb, List.take_zero, List.nil_append, Nat.sub_zero, ← tR_replicate]
    exact Wk.tl (by simp [hold, upd, tl_cons])
  intro k hk
  by_cases h : k < l.length
  · have hk' : k < min k l.length + (l.length - k) := by omega
    have hset := tR_set (l.take k ++ List.replicate (l.length - k) Fil.z) k l[k]
    rw [fillT Fil.z l k h] at hset
    simp only [Fil.rXe] at hset
    simp -implicitDefEqProofs [List.lookup_cons, and_assoc, pick_and, pick_or, if_and, if_or, h, F51, hk', tOb]
    refine ⟨k + 1, by omega, by omega, ?_⟩
    rw [hset]
    exact Wk.tl (by simp [hold, upd, tl_cons, w64_nat (show k < 4611686018427387904 by omega)])
  · simp -implicitDefEqProofs [List.lookup_cons, and_assoc, pick_and, pick_or, if_and, if_or, h, tOb]
    have : l.length - k = 0 := by omega
    rw [this, List.take_of_length_le (by omega), List.replicate_zero, List.append_nil]
    refine fin_own [0] (by simp [pickOk, -List.all_eq_true, tR_ok]) ?_
    simp -implicitDefEqProofs [pur2_i, pur2_b, pur2_s, pur2_nil, pur2_sl, pur2_tup, rn2_tup, rn2_agg, rn2_osl, rn1_v, rn1_osl, rn1_agg, rn0_v, rn0_sl, rn0, pickObs, pur_v, pur_b, pur_s, pur_nil, pur_sl, deI, deIs_sl, tOb]

def F57 : Fun := ⟨fun xs => xs = [.agg (rX (deA (xs.getD 0 .top) : Fil)), .agg (rX (deA (xs.getD 0 .top) : Fil))], fun _ => (B true, [])⟩
theorem c57 : GenCA K Tryz.prog 57 F57 := by
  refine contractA Tryz.mix K [] [] (by simp []) (by simp) Tryz.func57 rfl (by decide) ?_
  intro xs hxs
  obtain ⟨a, rfl⟩ : ∃ a : Fil, xs = [.agg (rX a), .agg (rX a)] := ⟨_, hxs⟩
  refine ⟨by rw [Tryz.ntmps57]; simp, ?_⟩
  simp -implicitDefEqProofs [Tryz.f57, List.lookup_cons, and_assoc, pick_and, pick_or, if_and, if_or]
  refine fin_pure (by simp) ?_
  simp -implicitDefEqProofs [pur2_i, pur2_b, pur2_s, pur2_nil, pur2_sl, pur2_tup, rn2_tup, rn2_agg, rn2_osl, rn1_v, rn1_osl, rn1_agg, rn0_v, rn0_sl, rn0, pickObs, pur_v, pur_b, pur_s, pur_nil, pur_sl, deI, deIs_sl, F57]

def F28 : Fun := ⟨fun xs => xs = [.sl (tR (deT (xs.getD 0 .top) : List Fil)), .sl (tR (deT (xs.getD 0 .top) : List Fil))] ∧ (deT (xs.getD 0 .top) : List Fil).length ≤ 1048576, fun _ => (B true, [])⟩
theorem c28 : GenCA K Tryz.prog 28 F28 := by
  refine contractA Tryz.mix K [(57, F57)] [] (by simp [c57]) (by simp) Tryz.func28 rfl (by decide) ?_
  intro xs hxs
  obtain ⟨l, rfl, hl⟩ : ∃ l : List Fil, xs = [.sl (tR l), .sl (tR l)] ∧ l.length ≤ 1048576 := ⟨_, hxs.1, hxs.2⟩
  refine ⟨by rw [Tryz.ntmps28]; simp, ?_⟩
  simp -implicitDefEqProofs [Tryz.f28, List.lookup_cons, and_assoc, pick_and, pick_or, if_and, if_or]
  refine loopP_inv (fun k : Nat => ⟨27, tl [(0, .sl (tR l)), (1, .sl (tR l)), (5, I k)], []⟩) (fun k => k ≤ l.length) (fun k => l.length - k) 0 (Nat.zero_le _) (Wk.tl (by simp [hold, upd, tl_cons])) ?_
  intro k hk
  by_cases h : k < l.length
  · simp -implicitDefEqProofs [List.lookup_cons, and_assoc, pick_and, pick_or, if_and, if_or, h]
    refine drawP_all _ (by decide) ?_
    simp -implicitDefEqProofs [List.lookup_cons, and_assoc, pick_and, pick_or, if_and, if_or, h, F57]
    refine ⟨k + 1, by omega, by omega, Wk.tl ?_⟩
    simp [hold, upd, tl_cons, w64_nat (show k < 4611686018427387904 by omega)]
  · have e : k = l.length := by omega
    subst e
    simp -implicitDefEqProofs [List.lookup_cons, and_assoc, pick_and, pick_or, if_and, if_or]
    refine fin_pure (by simp) ?_
    simp -implicitDefEqProofs [pur2_i, pur2_b, pur2_s, pur2_nil, pur2_sl, pur2_tup, rn2_tup, rn2_agg, rn2_osl, rn1_v, rn1_osl, rn1_agg, rn0_v, rn0_sl, rn0, pickObs, pur_v, pur_b, pur_s, pur_nil, pur_sl, deI, deIs_sl, F28]

def M30 : MFun := ⟨[true], fun xs obs => (∃ (l : List Fil) (k : Int), xs = [.osl 0 0, I k] ∧ obs = [tOb 70 5 l] ∧ l.length ≤ 1048576 ∧ 0 ≤ k ∧ k ≤ 1099511627776) ∨ (∃ k : Int, xs = [.sl [], I k] ∧ obs = [] ∧ 0 ≤ k ∧ k ≤ 1099511627776),
  fun xs obs => (I (deI (xs.getD 1 .top) + 5 * ((obs.map fun ob => ob.rows.length).sum : Nat)), obs.map fun ob => tOb 70 5 (Fil.mkL (deI (xs.getD 1 .top)) ob.rows.length))⟩
theorem m30 : GenMA K Tryz.prog 30 M30 := by
  refine contractMA Tryz.mix K [] [] (by simp) (by simp) Tryz.func30 rfl (by decide) ?_
  rintro xs obs us (⟨l, k, rfl, rfl, hl, hk0, hk1⟩ | ⟨k, rfl, rfl, hk0, hk1⟩) hu
  · obtain ⟨u, rfl⟩ : ∃ u, us = [u] := by simpa [List.length_eq_one_iff] using hu
    refine ⟨⟨by rw [Tryz.ntmps30]; simp, by simp, ?_⟩, ?_⟩
    · rintro (_ | j) ob hob
      · simp at hob; subst hob; exact ⟨_, rfl, rfl, rfl, rfl, rfl, rfl⟩
      · simp at hob
    simp -implicitDefEqProofs [Tryz.f30, List.lookup_cons, and_assoc, pick_and, pick_or, if_and, if_or, tOb]
    refine loopP_inv (fun j : Nat => ⟨48, tl [(0, .osl 0 0), (1, I (k + 5 * j)), (5, I j), (1000, .pin 0 0 u)], [tOb 70 5 (Fil.mkL k j ++ l.drop j)]⟩) (fun j => j ≤ l.length) (fun j => l.length - j) 0 (Nat.zero_le _) ?_ ?_
    · simp only [Fil.mkL, List.range_zero, List.map_nil, List.nil_append, List.drop_zero]
      exact Wk.tl (by simp [hold, upd, tl_cons])
    intro j hj
    have hlen : (Fil.mkL k j ++ l.drop j).length = l.length := by simp [Fil.mkL_len]; omega
    by_cases h : j < l.length
    · have hset := tR_set (Fil.mkL k j ++ l.drop j) j (Fil.mk' (k + 5 * (j : Int)))
      rw [Fil.mkL_set k l j h] at hset
      generalize hL : Fil.mkL k j ++ l.drop j = L at hset hlen
      have hjL : j < L.length := by omega
      generalize hq : k + 5 * (j : Int) = q at hset
      have hw : ∀ z : Int, 0 ≤ z → z ≤ 64 → IntKind.i64.wrap (q + z) = q + z := fun z h1 h2 => w64 (by omega) (by omega)
      simp only [Fil.rXe, Fil.mk'] at hset
      simp -implicitDefEqProofs [List.lookup_cons, and_assoc, pick_and, pick_or, if_and, if_or, h, hjL, tOb, hw, Int.add_assoc]
      refine ⟨j + 1, by omega, by omega, ?_⟩
      rw [hset]
      exact Wk.tl (by simp [hold, upd, tl_cons, w64_nat (show j < 4611686018427387904 by omega)]; omega)
    · have e : j = l.length := by omega
      subst e
      simp -implicitDefEqProofs [List.lookup_cons, and_assoc, pick_and, pick_or, if_and, if_or, tOb, Fil.mkL_len]
      refine finM1 0 [] (tOb 70 5 (Fil.mkL k l.length)) (by simp [pickOk, -List.all_eq_true, tR_ok]) (by simp [tOb]) (by simp [tOb, upd, tl_cons]) ?_
      simp -implicitDefEqProofs [pur2_i, pur2_b, pur2_s, pur2_nil, pur2_sl, pur2_tup, rn2_tup, rn2_agg, rn2_osl, rn1_v, rn1_osl, rn1_agg, rn0_v, rn0_sl, rn0, pickObs, pur_v, pur_b, pur_s, pur_nil, pur_sl, deI, deIs_sl, M30, tOb, rn2_I]
  · obtain rfl : us = [] := by simpa using hu
    refine ⟨⟨by rw [Tryz.ntmps30]; simp, by simp, by simp⟩, ?_⟩
    simp -implicitDefEqProofs [Tryz.f30, List.lookup_cons, and_assoc, pick_and, pick_or, if_and, if_or]
    refine loopP_inv (fun _ : Nat => ⟨48, tl [(0, .sl []), (1, I k), (5, I 0)], []⟩) (fun _ => True) (fun _ => 0) 0 trivial (Wk.tl (by simp [hold, upd, tl_cons])) ?_
    intro j _
    simp -implicitDefEqProofs [List.lookup_cons, and_assoc, pick_and, pick_or, if_and, if_or]
    refine finM0 [] (by simp [pickOk]) ?_
    simp -implicitDefEqProofs [pur2_i, pur2_b, pur2_s, pur2_nil, pur2_sl, pur2_tup, rn2_tup, rn2_agg, rn2_osl, rn1_v, rn1_osl, rn1_agg, rn0_v, rn0_sl, rn0, pickObs, pur_v, pur_b, pur_s, pur_nil, pur_sl, deI, deIs_sl, M30, rn2_I]

def F34 : Fun := ⟨fun xs => xs = [.sl (tR (Fil.mkL (deI (xs.getD 1 .top)) (deT (xs.getD 0 .top) : List Fil).length)), I (deI (xs.getD 1 .top))] ∧ (deT (xs.getD 0 .top) : List Fil).length ≤ 1048576 ∧ 0 ≤ deI (xs.getD 1 .top) ∧ deI (xs.getD 1 .top) ≤ 1099511627776, fun xs => (I (deI (xs.getD 1 .top) + 5 * (deT (xs.getD 0 .top) : List Fil).length), [])⟩
theorem c34 : GenCA K Tryz.prog 34 F34 := by
  refine contractA Tryz.mix K [] [] (by simp) (by simp) Tryz.func34 rfl (by decide) ?_
  intro xs hxs
  obtain ⟨n, k, rfl, hn, hk0, hk1⟩ : ∃ (n : Nat) (k : Int), xs = [.sl (tR (Fil.mkL k n)), I k] ∧ n ≤ 1048576 ∧ 0 ≤ k ∧ k ≤ 1099511627776 := ⟨_, _, hxs.1, hxs.2⟩
  refine ⟨by rw [Tryz.ntmps34]; simp, ?_⟩
  simp -implicitDefEqProofs [Tryz.f34, List.lookup_cons, and_assoc, pick_and, pick_or, if_and, if_or]
  refine loopP_inv (fun j : Nat => ⟨58, tl [(0, .sl (tR (Fil.mkL k n))), (1, I (k + 5 * j)), (5, I j)], []⟩) (fun j => j ≤ n) (fun j => n - j) 0 (Nat.zero_le _) (Wk.tl (by simp [hold, upd, tl_cons])) ?_
  intro j hj
  by_cases h : j < n
  · generalize hq : k + 5 * (j : Int) = q
    have hw : ∀ z : Int, 0 ≤ z → z ≤ 64 → IntKind.i64.wrap (q + z) = q + z := fun z h1 h2 => w64 (by omega) (by omega)
    simp -implicitDefEqProofs [List.lookup_cons, and_assoc, pick_and, pick_or, if_and, if_or, h, Fil.mkL_len, Fil.mkL_get, Fil.mk', hq, hw, Int.add_assoc]
    refine ⟨j + 1, by omega, by omega, Wk.tl ?_⟩
    simp [hold, upd, tl_cons, w64_nat (show j < 4611686018427387904 by omega)]; omega
  · have e : j = n := by omega
    subst e
    simp -implicitDefEqProofs [List.lookup_cons, and_assoc, pick_and, pick_or, if_and, if_or, Fil.mkL_len]
    refine fin_pure (by simp) ?_
    simp -implicitDefEqProofs [pur2_i, pur2_b, pur2_s, pur2_nil, pur2_sl, pur2_tup, rn2_tup, rn2_agg, rn2_osl, rn1_v, rn1_osl, rn1_agg, rn0_v, rn0_sl, rn0, pickObs, pur_v, pur_b, pur_s, pur_nil, pur_sl, deI, deIs_sl, F34, Fil.mkL_len]

def F18 : Fun := ⟨fun xs => xs = [.sl (tR (deT (xs.getD 0 .top) : List Cls)), I (deI (xs.getD 1 .top) : Int)] ∧ (fun (l : List Cls) (m : Int) => (l.length ≤ 9223372036854775807 ∧ 0 ≤ m ∧ m ≤ 1048576)) (deT (xs.getD 0 .top) : List Cls) (deI (xs.getD 1 .top) : Int), fun xs => (fun (l : List Cls) (m : Int) => ((I (if m < l.length then -1 else m - l.length), []) : X × List Ob)) (deT (xs.getD 0 .top) : List Cls) (deI (xs.getD 1 .top) : Int)⟩
theorem F18_in {xs : List X} (h : F18.pre xs) : ∃ (l : List Cls) (m : Int), xs = [.sl (tR l), I m] ∧ (l.length ≤ 9223372036854775807 ∧ 0 ≤ m ∧ m ≤ 1048576) := ⟨_, _, h.1, h.2⟩
theorem F18_res (l : List Cls) (m : Int) : F18.res [.sl (tR l), I m] = (I (if m < l.length then -1 else m - l.length), []) := by simp [F18]
theorem F18_mk (l : List Cls) (m : Int) (h : l.length ≤ 9223372036854775807 ∧ 0 ≤ m ∧ m ≤ 1048576) : F18.pre [.sl (tR l), I m] := by simpa [F18] using h
theorem c18 : GenCA K Tryz.prog 18 F18 := by
  refine contractA Tryz.mix K [] [] (by simp) (by simp) Tryz.func18 rfl (by decide) ?_
  intro xs hxs
  obtain ⟨l, m, rfl, hp⟩ := F18_in hxs
  rw [F18_res]
  refine ⟨by rw [Tryz.ntmps18]; simp, ?_⟩
  have hw : IntKind.i64.wrap (m - l.length) = m - l.length := w64 (by omega) (by omega)
  by_cases h : m < l.length
  · have h' : m - l.length < 0 := by omega
    simp -implicitDefEqProofs [Tryz.f18, List.lookup_cons, and_assoc, pick_and, pick_or, if_and, if_or, hw, h']
    refine fin_pure (by simp) ?_
    simp -implicitDefEqProofs [pur2_i, pur2_b, pur2_s, pur2_nil, pur2_sl, pur2_tup, rn2_tup, rn2_agg, rn2_osl, rn1_v, rn1_osl, rn1_agg, rn0_v, rn0_sl, rn0, pickObs, pur_v, pur_b, pur_s, pur_nil, pur_sl, deI, deIs_sl, h]
  · have h' : ¬ m - l.length < 0 := by omega
    simp -implicitDefEqProofs [Tryz.f18, List.lookup_cons, and_assoc, pick_and, pick_or, if_and, if_or, hw, h']
    refine fin_pure (by simp) ?_
    simp -implicitDefEqProofs [pur2_i, pur2_b, pur2_s, pur2_nil, pur2_sl, pur2_tup, rn2_tup, rn2_agg, rn2_osl, rn1_v, rn1_osl, rn1_agg, rn0_v, rn0_sl, rn0, pickObs, pur_v, pur_b, pur_s, pur_nil, pur_sl, deI, deIs_sl, h]
def F19 : Fun := ⟨fun xs => xs = [.sl (tR (deT (xs.getD 0 .top) : List Fil)), I (deI (xs.getD 1 .top) : Int)] ∧ (fun (l : List Fil) (m : Int) => (l.length ≤ 9223372036854775807 ∧ 0 ≤ m ∧ m ≤ 1048576)) (deT (xs.getD 0 .top) : List Fil) (deI (xs.getD 1 .top) : Int), fun xs => (fun (l : List Fil) (m : Int) => ((I (if m < l.length then -1 else m - l.length), []) : X × List Ob)) (deT (xs.getD 0 .top) : List Fil) (deI (xs.getD 1 .top) : Int)⟩
theorem F19_in {xs : List X} (h : F19.pre xs) : ∃ (l : List Fil) (m : Int), xs = [.sl (tR l), I m] ∧ (l.length ≤ 9223372036854775807 ∧ 0 ≤ m ∧ m ≤ 1048576) := ⟨_, _, h.1, h.2⟩
theorem F19_res (l : List Fil) (m : Int) : F19.res [.sl (tR l), I m] = (I (if m < l.length then -1 else m - l.length), []) := by simp [F19]
theorem F19_mk (l : List Fil) (m : Int) (h : l.length ≤ 9223372036854775807 ∧ 0 ≤ m ∧ m ≤ 1048576) : F19.pre [.sl (tR l), I m] := by simpa [F19] using h
theorem c19 : GenCA K Tryz.prog 19 F19 := by
  refine contractA Tryz.mix K [] [] (by simp) (by simp) Tryz.func19 rfl (by decide) ?_
  intro xs hxs
  obtain ⟨l, m, rfl, hp⟩ := F19_in hxs
  rw [F19_res]
  refine ⟨by rw [Tryz.ntmps19]; simp, ?_⟩
  have hw : IntKind.i64.wrap (m - l.length) = m - l.length := w64 (by omega) (by omega)
  by_cases h : m < l.length
  · have h' : m - l.length < 0 := by omega
    simp -implicitDefEqProofs [Tryz.f19, List.lookup_cons, and_assoc, pick_and, pick_or, if_and, if_or, hw, h']
    refine fin_pure (by simp) ?_
    simp -implicitDefEqProofs [pur2_i, pur2_b, pur2_s, pur2_nil, pur2_sl, pur2_tup, rn2_tup, rn2_agg, rn2_osl, rn1_v, rn1_osl, rn1_agg, rn0_v, rn0_sl, rn0, pickObs, pur_v, pur_b, pur_s, pur_nil, pur_sl, deI, deIs_sl, h]
  · have h' : ¬ m - l.length < 0 := by omega
    simp -implicitDefEqProofs [Tryz.f19, List.lookup_cons, and_assoc, pick_and, pick_or, if_and, if_or, hw, h']
    refine fin_pure (by simp) ?_
    simp -implicitDefEqProofs [pur2_i, pur2_b, pur2_s, pur2_nil, pur2_sl, pur2_tup, rn2_tup, rn2_agg, rn2_osl, rn1_v, rn1_osl, rn1_agg, rn0_v, rn0_sl, rn0, pickObs, pur_v, pur_b, pur_s, pur_nil, pur_sl, deI, deIs_sl, h]
def cSz (c : Cfg) : Int := (c.name.size : Int) + c.cls.length + c.fil.length
def bigC (c : Cfg) : Prop := c.name.size ≤ 9223372036854775807 ∧ c.cls.length ≤ 9223372036854775807 ∧ c.fil.length ≤ 9223372036854775807
theorem okC_of {c : Cfg} {m : Int} (h : ¬ m < cSz c) (hm : m ≤ 1048576) : okC c := by
  unfold cSz at h
  exact ⟨by omega, by omega, by omega⟩
def F5 : Fun := ⟨fun xs => xs = [.agg (cX (deC (xs.getD 0 .top) : Cfg)), I (deI (xs.getD 1 .top) : Int)] ∧ (fun (c : Cfg) (m : Int) => (bigC c ∧ 0 ≤ m ∧ m ≤ 1048576)) (deC (xs.getD 0 .top) : Cfg) (deI (xs.getD 1 .top) : Int), fun xs => (fun (c : Cfg) (m : Int) => ((I (if m < cSz c then -1 else m - cSz c), []) : X × List Ob)) (deC (xs.getD 0 .top) : Cfg) (deI (xs.getD 1 .top) : Int)⟩
theorem F5_in {xs : List X} (h : F5.pre xs) : ∃ (c : Cfg) (m : Int), xs = [.agg (cX c), I m] ∧ (bigC c ∧ 0 ≤ m ∧ m ≤ 1048576) := ⟨_, _, h.1, h.2⟩
theorem F5_res (c : Cfg) (m : Int) : F5.res [.agg (cX c), I m] = (I (if m < cSz c then -1 else m - cSz c), []) := by simp [F5]
theorem F5_mk (c : Cfg) (m : Int) (h : bigC c ∧ 0 ≤ m ∧ m ≤ 1048576) : F5.pre [.agg (cX c), I m] := by simpa [F5] using h
theorem c5 : GenCA K Tryz.prog 5 F5 := by
  refine contractA Tryz.mix K [(18, F18), (19, F19)] [] (by simp [c18, c19]) (by simp) Tryz.func5 rfl (by decide) ?_
  intro xs hxs
  obtain ⟨c, m, rfl, hp⟩ := F5_in hxs
  rw [F5_res]
  refine ⟨by rw [Tryz.ntmps5]; simp, ?_⟩
  obtain ⟨⟨b1, b2, b3⟩, hm0, hm1⟩ := hp
  have hw1 : IntKind.i64.wrap (m - c.name.size) = m - c.name.size := w64 (by omega) (by omega)
  by_cases h1 : m - c.name.size < 0
  · have e : m < cSz c := by unfold cSz; omega
    simp -implicitDefEqProofs [Tryz.f5, F18, F19, List.lookup_cons, and_assoc, pick_and, pick_or, if_and, if_or, hw1, h1]
    refine fin_pure (by simp) ?_
    simp -implicitDefEqProofs [pur2_i, pur2_b, pur2_s, pur2_nil, pur2_sl, pur2_tup, rn2_tup, rn2_agg, rn2_osl, rn1_v, rn1_osl, rn1_agg, rn0_v, rn0_sl, rn0, pickObs, pur_v, pur_b, pur_s, pur_nil, pur_sl, deI, deIs_sl, e]
  have q1 : 0 ≤ m - c.name.size := by omega
  have q1' : (c.name.size : Int) ≤ m := by omega
  have q2 : m - c.name.size ≤ 1048576 := by omega
  by_cases h2 : m - c.name.size < c.cls.length
  · have e : m < cSz c := by unfold cSz; omega
    simp -implicitDefEqProofs [Tryz.f5, F18, F19, List.lookup_cons, and_assoc, pick_and, pick_or, if_and, if_or, hw1, h1, b2, q1, q1', q2, h2]
    refine fin_pure (by simp) ?_
    simp -implicitDefEqProofs [pur2_i, pur2_b, pur2_s, pur2_nil, pur2_sl, pur2_tup, rn2_tup, rn2_agg, rn2_osl, rn1_v, rn1_osl, rn1_agg, rn0_v, rn0_sl, rn0, pickObs, pur_v, pur_b, pur_s, pur_nil, pur_sl, deI, deIs_sl, e]
  have r1 : 0 ≤ m - c.name.size - c.cls.length := by omega
  have r1' : ¬ m - c.name.size - c.cls.length < 0 := by omega
  have r1'' : (c.cls.length : Int) ≤ m - c.name.size := by omega
  have r2 : m - c.name.size - c.cls.length ≤ 1048576 := by omega
  by_cases h3 : m - c.name.size - c.cls.length < c.fil.length
  · have e : m < cSz c := by unfold cSz; omega
    simp -implicitDefEqProofs [Tryz.f5, F18, F19, List.lookup_cons, and_assoc, pick_and, pick_or, if_and, if_or, hw1, h1, b2, b3, q1, q1', q2, h2, r1, r1', r1'', r2, h3]
    refine fin_pure (by simp) ?_
    simp -implicitDefEqProofs [pur2_i, pur2_b, pur2_s, pur2_nil, pur2_sl, pur2_tup, rn2_tup, rn2_agg, rn2_osl, rn1_v, rn1_osl, rn1_agg, rn0_v, rn0_sl, rn0, pickObs, pur_v, pur_b, pur_s, pur_nil, pur_sl, deI, deIs_sl, e]
  have s1 : ¬ m - c.name.size - c.cls.length - c.fil.length < 0 := by omega
  have e : ¬ m < cSz c := by unfold cSz; omega
  simp -implicitDefEqProofs [Tryz.f5, F18, F19, List.lookup_cons, and_assoc, pick_and, pick_or, if_and, if_or, hw1, h1, b2, b3, q1, q1', q2, h2, r1, r1', r1'', r2, h3, s1]
  refine fin_pure (by simp) ?_
  simp -implicitDefEqProofs [pur2_i, pur2_b, pur2_s, pur2_nil, pur2_sl, pur2_tup, rn2_tup, rn2_agg, rn2_osl, rn1_v, rn1_osl, rn1_agg, rn0_v, rn0_sl, rn0, pickObs, pur_v, pur_b, pur_s, pur_nil, pur_sl, deI, deIs_sl, e, cSz]
  omega

def cO (c : Cfg) : X := .agg [.v (.string c.name), .osl 0 0, .osl 1 0, I c.dflt]
def cOb (c : Cfg) : List Ob := [tOb 63 8 c.cls, tOb 70 5 c.fil]
def F7 : Fun := ⟨fun xs => xs = [.agg (cX (deC (xs.getD 0 .top) : Cfg))] ∧ (fun (c : Cfg) => (okC c)) (deC (xs.getD 0 .top) : Cfg), fun xs => (fun (c : Cfg) => ((cO c, cOb c) : X × List Ob)) (deC (xs.getD 0 .top) : Cfg)⟩
theorem F7_in {xs : List X} (h : F7.pre xs) : ∃ (c : Cfg), xs = [.agg (cX c)] ∧ (okC c) := ⟨_, h.1, h.2⟩
theorem F7_res (c : Cfg) : F7.res [.agg (cX c)] = (cO c, cOb c) := by simp [F7]
theorem F7_mk (c : Cfg) (h : okC c) : F7.pre [.agg (cX c)] := by simpa [F7] using h
theorem c7 : GenCA K Tryz.prog 7 F7 := by
  refine contractA Tryz.mix K [(22, F22), (23, F23)] [] (by simp [c22, c23]) (by simp) Tryz.func7 rfl (by decide) ?_
  intro xs hxs
  obtain ⟨c, rfl, hp⟩ := F7_in hxs
  rw [F7_res]
  refine ⟨by rw [Tryz.ntmps7]; simp, ?_⟩
  obtain ⟨h1, h2, h3⟩ := hp
  simp -implicitDefEqProofs [Tryz.f7, F22, F23, List.lookup_cons, and_assoc, pick_and, pick_or, if_and, if_or, h1, h2, tOb]
  refine fin_own [3, 4] (by simp [pickOk, -List.all_eq_true, tR_ok]) ?_
  simp -implicitDefEqProofs [pur2_i, pur2_b, pur2_s, pur2_nil, pur2_sl, pur2_tup, rn2_tup, rn2_agg, rn2_osl, rn1_v, rn1_osl, rn1_agg, rn0_v, rn0_sl, rn0, pickObs, pur_v, pur_b, pur_s, pur_nil, pur_sl, deI, deIs_sl, cO, cOb, tOb]
  exact ⟨rfl, rfl⟩
def F10 : Fun := ⟨fun xs => xs = [.agg (cX (deC (xs.getD 0 .top))), .agg (cX (deC (xs.getD 0 .top)))] ∧ okC (deC (xs.getD 0 .top)), fun _ => (B true, [])⟩
theorem c10 : GenCA K Tryz.prog 10 F10 := by
  refine contractA Tryz.mix K [(26, F26), (28, F28)] [] (by simp [c26, c28]) (by simp) Tryz.func10 rfl (by decide) ?_
  intro xs hxs
  obtain ⟨c, rfl, hp⟩ : ∃ c : Cfg, xs = [.agg (cX c), .agg (cX c)] ∧ okC c := ⟨_, hxs.1, hxs.2⟩
  refine ⟨by rw [Tryz.ntmps10]; simp, ?_⟩
  simp -implicitDefEqProofs [Tryz.f10, List.lookup_cons, and_assoc, pick_and, pick_or, if_and, if_or, F26, F28, hp.1, hp.2.1]
  refine fin_pure (by simp) ?_
  simp -implicitDefEqProofs [pur2_i, pur2_b, pur2_s, pur2_nil, pur2_sl, pur2_tup, rn2_tup, rn2_agg, rn2_osl, rn1_v, rn1_osl, rn1_agg, rn0_v, rn0_sl, rn0, pickObs, pur_v, pur_b, pur_s, pur_nil, pur_sl, deI, deIs_sl, F10]

def obl (obs : List Ob) (i : Nat) : Nat := ((obs[i]?).map fun ob => ob.rows.length).getD 0
def cMk (k : Int) (n m : Nat) : List Ob := [tOb 63 8 (Cls.mkL k n), tOb 70 5 (Fil.mkL (k + 8 * n) m)]
def M11 : MFun := ⟨[true], fun xs obs => ∃ (c : Cfg) (k : Int), xs = [cO c, I k] ∧ obs = cOb c ∧ okC c ∧ 0 ≤ k ∧ k ≤ 549755813888,
  fun xs obs => (I (deI (xs.getD 1 .top) + 8 * (obl obs 0 : Nat) + 5 * (obl obs 1 : Nat)), cMk (deI (xs.getD 1 .top)) (obl obs 0) (obl obs 1))⟩
theorem m11 : GenMA K Tryz.prog 11 M11 := by
  refine contractMA Tryz.mix K [] [(29, M29), (30, M30)] (by simp) (by simp [m29, m30]) Tryz.func11 rfl (by decide) ?_
  rintro xs obs us ⟨c, k, rfl, rfl, hp, hk0, hk1⟩ hu
  obtain ⟨u, v, rfl⟩ : ∃ u v, us = [u, v] := by
    simp [cOb] at hu
    match us, hu with
    | [u, v], _ => exact ⟨u, v, rfl⟩
  refine ⟨⟨by rw [Tryz.ntmps11]; simp, by simp, ?_⟩, ?_⟩
  · rintro (_ | _ | j) ob hob
    · simp [cOb] at hob; subst hob; exact ⟨_, rfl, rfl, rfl, rfl, rfl, rfl⟩
    · simp [cOb] at hob; subst hob; exact ⟨_, rfl, rfl, rfl, rfl, rfl, rfl⟩
    · simp [cOb] at hob
  obtain ⟨h1, h2, h3⟩ := hp
  simp -implicitDefEqProofs [Tryz.f11, List.lookup_cons, and_assoc, pick_and, pick_or, if_and, if_or, rbR_iR, rbR_nil, rbOb_mk, iR_mf, pickOk, -List.all_eq_true, iR_ok, ok0, iR_eq_nil, deIs_nil, cO, cOb, tOb, M29, M30]
  refine ⟨h1, hk0, by omega, h2, by omega, by omega, ?_⟩
  refine finM2 0 1 [] (tOb 63 8 (Cls.mkL k c.cls.length)) (tOb 70 5 (Fil.mkL (k + 8 * c.cls.length) c.fil.length)) (by simp [pickOk, -List.all_eq_true, tR_ok]) (by simp [tOb]) (by simp [tOb]) (by simp [tOb, upd, tl_cons]) (by simp [tOb, upd, tl_cons]) ?_
  simp -implicitDefEqProofs [pur2_i, pur2_b, pur2_s, pur2_nil, pur2_sl, pur2_tup, rn2_tup, rn2_agg, rn2_osl, rn1_v, rn1_osl, rn1_agg, rn0_v, rn0_sl, rn0, pickObs, pur_v, pur_b, pur_s, pur_nil, pur_sl, deI, deIs_sl, M11, obl, cMk, tOb, rn2_I]
end Go.Proofs
