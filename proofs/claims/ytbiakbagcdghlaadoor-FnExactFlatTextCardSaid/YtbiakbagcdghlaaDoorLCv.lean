/-
  What is proved here: contracts of the law's own functions on configurations. Condition: none.
-/
import Derived.Test.YtbiakbagcdghlaaDoorC2v
namespace Go.Proofs
open Go.Abs
set_option linter.unusedSimpArgs false
set_option linter.unnecessarySimpa false
set_option linter.unusedVariables false
set_option maxHeartbeats 4000000
set_option maxRecDepth 20000



def Cls.mk' (k : Int) : Cls := ⟨k, k + 1, k + 2, k + 3, k + 4, k + 5, k + 6, k + 7⟩
def Cls.mkL (k : Int) (n : Nat) : List Cls := (List.range n).map fun i : Nat => Cls.mk' (k + 8 * (i : Int))
@[simp] theorem Cls.mkL_len (k : Int) (n : Nat) : (Cls.mkL k n).length = n := by simp [Cls.mkL]
@[simp] theorem Cls.mkL_zero (k : Int) : Cls.mkL k 0 = [] := rfl
theorem Cls.mkL_set (k : Int) (l : List Cls) (j : Nat) (h : j < l.length) : (Cls.mkL k j ++ l.drop j).set j (Cls.mk' (k + 8 * (j : Int))) = Cls.mkL k (j + 1) ++ l.drop (j + 1) := by
  rw [List.set_append_right _ _ (by simp [Cls.mkL_len]), Cls.mkL_len, Nat.sub_self, List.drop_eq_getElem_cons h, List.set_cons_zero]
  simp [Cls.mkL, List.range_succ]
theorem Cls.mkL_get (k : Int) (n j : Nat) (h : j < (Cls.mkL k n).length) : (Cls.mkL k n)[j] = Cls.mk' (k + 8 * (j : Int)) := by simp [Cls.mkL]

def Fil.mk' (k : Int) : Fil := ⟨k, k + 1, k + 2, k + 3, k + 4⟩
def Fil.mkL (k : Int) (n : Nat) : List Fil := (List.range n).map fun i : Nat => Fil.mk' (k + 5 * (i : Int))
@[simp] theorem Fil.mkL_len (k : Int) (n : Nat) : (Fil.mkL k n).length = n := by simp [Fil.mkL]
@[simp] theorem Fil.mkL_zero (k : Int) : Fil.mkL k 0 = [] := rfl
theorem Fil.mkL_set (k : Int) (l : List Fil) (j : Nat) (h : j < l.length) : (Fil.mkL k j ++ l.drop j).set j (Fil.mk' (k + 5 * (j : Int))) = Fil.mkL k (j + 1) ++ l.drop (j + 1) := by
  rw [List.set_append_right _ _ (by simp [Fil.mkL_len]), Fil.mkL_len, Nat.sub_self, List.drop_eq_getElem_cons h, List.set_cons_zero]
  simp [Fil.mkL, List.range_succ]
theorem Fil.mkL_get (k : Int) (n j : Nat) (h : j < (Fil.mkL k n).length) : (Fil.mkL k n)[j] = Fil.mk' (k + 5 * (j : Int)) := by simp [Fil.mkL]

def F27 : Fun := ⟨fun xs => xs = [.agg (rX (deA (xs.getD 0 .top) : Cls))] ∧ (fun (e : Cls) => (True)) (deA (xs.getD 0 .top) : Cls), fun xs => (fun (e : Cls) => ((.agg (rX e), []) : X × List Ob)) (deA (xs.getD 0 .top) : Cls)⟩
theorem F27_in {xs : List X} (h : F27.pre xs) : ∃ (e : Cls), xs = [.agg (rX e)] ∧ (True) := ⟨_, h.1, h.2⟩
theorem F27_res (e : Cls) : F27.res [.agg (rX e)] = (.agg (rX e), []) := by simp [F27]
theorem F27_mk (e : Cls) (h : True) : F27.pre [.agg (rX e)] := by simpa [F27] using h
theorem c27 : GenCA K Tryd.prog 27 F27 := by
  refine contractA Tryd.mix K [] [] (by simp) (by simp) Tryd.func27 rfl (by decide) ?_
  intro xs hxs
  obtain ⟨e, rfl, hp⟩ := F27_in hxs
  rw [F27_res]
  refine ⟨by rw [Tryd.ntmps27]; simp, ?_⟩
  simp -implicitDefEqProofs [Tryd.f27, List.lookup_cons, and_assoc, pick_and, pick_or, if_and, if_or]
  refine fin_pure (by simp) ?_
  simp -implicitDefEqProofs [pur2_i, pur2_b, pur2_s, pur2_nil, pur2_sl, pur2_tup, rn2_tup, rn2_agg, rn2_osl, rn1_v, rn1_osl, rn1_agg, rn0_v, rn0_sl, rn0, pickObs, pur_v, pur_b, pur_s, pur_nil, pur_sl, deI, deIs_sl]

def F13 : Fun := ⟨fun xs => xs = [.sl (tR (deT (xs.getD 0 .top) : List Cls))] ∧ (fun (l : List Cls) => (l.length ≤ 1048576)) (deT (xs.getD 0 .top) : List Cls), fun xs => (fun (l : List Cls) => ((.osl 0 0, [tOb 44 8 l]) : X × List Ob)) (deT (xs.getD 0 .top) : List Cls)⟩
theorem F13_in {xs : List X} (h : F13.pre xs) : ∃ (l : List Cls), xs = [.sl (tR l)] ∧ (l.length ≤ 1048576) := ⟨_, h.1, h.2⟩
theorem F13_res (l : List Cls) : F13.res [.sl (tR l)] = (.osl 0 0, [tOb 44 8 l]) := by simp [F13]
theorem F13_mk (l : List Cls) (h : l.length ≤ 1048576) : F13.pre [.sl (tR l)] := by simpa [F13] using h
theorem c13 : GenCA K Tryd.prog 13 F13 := by
  refine contractA Tryd.mix K [(27, F27)] [] (by simp [c27]) (by simp) Tryd.func13 rfl (by decide) ?_
  intro xs hxs
  obtain ⟨l, rfl, hp⟩ := F13_in hxs
  rw [F13_res]
  refine ⟨by rw [Tryd.ntmps13]; simp, ?_⟩
  simp -implicitDefEqProofs [Tryd.f13, F27, List.lookup_cons, and_assoc, pick_and, pick_or, if_and, if_or, eMake]
  refine ⟨by omega, by omega, ?_⟩
  refine loopP_inv (fun k : Nat => ⟨23, tl [(0, .sl (tR l)), (3, .osl 0 0), (4, I k)], [tOb 44 8 (l.take k ++ List.replicate (l.length - k) Cls.z)]⟩) (fun k => k ≤ l.length) (fun k => l.length - k) 0 (Nat.zero_le _) ?_ ?_
  · simp only [tOb, List.take_zero, List.nil_append, Nat.sub_zero, ← tR_replicate]
    exact Wk.tl (by simp [hold, upd, tl_cons])
  intro k hk
  by_cases h : k < l.length
  · have hk' : k < min k l.length + (l.length - k) := by omega
    have hset := tR_set (l.take k ++ List.replicate (l.length - k) Cls.z) k l[k]
    rw [fillT Cls.z l k h] at hset
    simp only [Cls.rXe] at hset
    simp -implicitDefEqProofs [List.lookup_cons, and_assoc, pick_and, pick_or, if_and, if_or, h, F27, hk', tOb]
    refine ⟨k + 1, by omega, by omega, ?_⟩
    rw [hset]
    exact Wk.tl (by simp [hold, upd, tl_cons, w64_nat (show k < 4611686018427387904 by omega)])
  · simp -implicitDefEqProofs [List.lookup_cons, and_assoc, pick_and, pick_or, if_and, if_or, h, tOb]
    have : l.length - k = 0 := by omega
    rw [this, List.take_of_length_le (by omega), List.replicate_zero, List.append_nil]
    refine fin_own [0] (by simp [pickOk, -List.all_eq_true, tR_ok]) ?_
    simp -implicitDefEqProofs [pur2_i, pur2_b, pur2_s, pur2_nil, pur2_sl, pur2_tup, rn2_tup, rn2_agg, rn2_osl, rn1_v, rn1_osl, rn1_agg, rn0_v, rn0_sl, rn0, pickObs, pur_v, pur_b, pur_s, pur_nil, pur_sl, deI, deIs_sl, tOb]

def F40 : Fun := ⟨fun xs => xs = [.agg (rX (deA (xs.getD 0 .top) : Cls)), .agg (rX (deA (xs.getD 0 .top) : Cls))], fun _ => (B true, [])⟩
theorem c40 : GenCA K Tryd.prog 40 F40 := by
  refine contractA Tryd.mix K [] [] (by simp []) (by simp) Tryd.func40 rfl (by decide) ?_
  intro xs hxs
  obtain ⟨a, rfl⟩ : ∃ a : Cls, xs = [.agg (rX a), .agg (rX a)] := ⟨_, hxs⟩
  refine ⟨by rw [Tryd.ntmps40]; simp, ?_⟩
  simp -implicitDefEqProofs [Tryd.f40, List.lookup_cons, and_assoc, pick_and, pick_or, if_and, if_or]
  refine fin_pure (by simp) ?_
  simp -implicitDefEqProofs [pur2_i, pur2_b, pur2_s, pur2_nil, pur2_sl, pur2_tup, rn2_tup, rn2_agg, rn2_osl, rn1_v, rn1_osl, rn1_agg, rn0_v, rn0_sl, rn0, pickObs, pur_v, pur_b, pur_s, pur_nil, pur_sl, deI, deIs_sl, F40]

def F20 : Fun := ⟨fun xs => xs = [.sl (tR (deT (xs.getD 0 .top) : List Cls)), .sl (tR (deT (xs.getD 0 .top) : List Cls))] ∧ (deT (xs.getD 0 .top) : List Cls).length ≤ 1048576, fun _ => (B true, [])⟩
theorem c20 : GenCA K Tryd.prog 20 F20 := by
  refine contractA Tryd.mix K [(40, F40)] [] (by simp [c40]) (by simp) Tryd.func20 rfl (by decide) ?_
  intro xs hxs
  obtain ⟨l, rfl, hl⟩ : ∃ l : List Cls, xs = [.sl (tR l), .sl (tR l)] ∧ l.length ≤ 1048576 := ⟨_, hxs.1, hxs.2⟩
  refine ⟨by rw [Tryd.ntmps20]; simp, ?_⟩
  simp -implicitDefEqProofs [Tryd.f20, List.lookup_cons, and_assoc, pick_and, pick_or, if_and, if_or]
  refine loopP_inv (fun k : Nat => ⟨27, tl [(0, .sl (tR l)), (1, .sl (tR l)), (5, I k)], []⟩) (fun k => k ≤ l.length) (fun k => l.length - k) 0 (Nat.zero_le _) (Wk.tl (by simp [hold, upd, tl_cons])) ?_
  intro k hk
  by_cases h : k < l.length
  · simp -implicitDefEqProofs [List.lookup_cons, and_assoc, pick_and, pick_or, if_and, if_or, h]
    refine drawP_all _ (by decide) ?_
    simp -implicitDefEqProofs [List.lookup_cons, and_assoc, pick_and, pick_or, if_and, if_or, h, F40]
    refine ⟨k + 1, by omega, by omega, Wk.tl ?_⟩
    simp [hold, upd, tl_cons, w64_nat (show k < 4611686018427387904 by omega)]
  · have e : k = l.length := by omega
    subst e
    simp -implicitDefEqProofs [List.lookup_cons, and_assoc, pick_and, pick_or, if_and, if_or]
    refine fin_pure (by simp) ?_
    simp -implicitDefEqProofs [pur2_i, pur2_b, pur2_s, pur2_nil, pur2_sl, pur2_tup, rn2_tup, rn2_agg, rn2_osl, rn1_v, rn1_osl, rn1_agg, rn0_v, rn0_sl, rn0, pickObs, pur_v, pur_b, pur_s, pur_nil, pur_sl, deI, deIs_sl, F20]

def F28 : Fun := ⟨fun xs => xs = [.agg (rX (deA (xs.getD 0 .top) : Fil))] ∧ (fun (e : Fil) => (True)) (deA (xs.getD 0 .top) : Fil), fun xs => (fun (e : Fil) => ((.agg (rX e), []) : X × List Ob)) (deA (xs.getD 0 .top) : Fil)⟩
theorem F28_in {xs : List X} (h : F28.pre xs) : ∃ (e : Fil), xs = [.agg (rX e)] ∧ (True) := ⟨_, h.1, h.2⟩
theorem F28_res (e : Fil) : F28.res [.agg (rX e)] = (.agg (rX e), []) := by simp [F28]
theorem F28_mk (e : Fil) (h : True) : F28.pre [.agg (rX e)] := by simpa [F28] using h
theorem c28 : GenCA K Tryd.prog 28 F28 := by
  refine contractA Tryd.mix K [] [] (by simp) (by simp) Tryd.func28 rfl (by decide) ?_
  intro xs hxs
  obtain ⟨e, rfl, hp⟩ := F28_in hxs
  rw [F28_res]
  refine ⟨by rw [Tryd.ntmps28]; simp, ?_⟩
  simp -implicitDefEqProofs [Tryd.f28, List.lookup_cons, and_assoc, pick_and, pick_or, if_and, if_or]
  refine fin_pure (by simp) ?_
  simp -implicitDefEqProofs [pur2_i, pur2_b, pur2_s, pur2_nil, pur2_sl, pur2_tup, rn2_tup, rn2_agg, rn2_osl, rn1_v, rn1_osl, rn1_agg, rn0_v, rn0_sl, rn0, pickObs, pur_v, pur_b, pur_s, pur_nil, pur_sl, deI, deIs_sl]

def F14 : Fun := ⟨fun xs => xs = [.sl (tR (deT (xs.getD 0 .top) : List Fil))] ∧ (fun (l : List Fil) => (l.length ≤ 1048576)) (deT (xs.getD 0 .top) : List Fil), fun xs => (fun (l : List Fil) => ((.osl 0 0, [tOb 47 5 l]) : X × List Ob)) (deT (xs.getD 0 .top) : List Fil)⟩
theorem F14_in {xs : List X} (h : F14.pre xs) : ∃ (l : List Fil), xs = [.sl (tR l)] ∧ (l.length ≤ 1048576) := ⟨_, h.1, h.2⟩
theorem F14_res (l : List Fil) : F14.res [.sl (tR l)] = (.osl 0 0, [tOb 47 5 l]) := by simp [F14]
theorem F14_mk (l : List Fil) (h : l.length ≤ 1048576) : F14.pre [.sl (tR l)] := by simpa [F14] using h
theorem c14 : GenCA K Tryd.prog 14 F14 := by
  refine contractA Tryd.mix K [(28, F28)] [] (by simp [c28]) (by simp) Tryd.func14 rfl (by decide) ?_
  intro xs hxs
  obtain ⟨l, rfl, hp⟩ := F14_in hxs
  rw [F14_res]
  refine ⟨by rw [Tryd.ntmps14]; simp, ?_⟩
  simp -implicitDefEqProofs [Tryd.f14, F28, List.lookup_cons, and_assoc, pick_and, pick_or, if_and, if_or, eMake]
  refine ⟨by omega, by omega, ?_⟩
  refine loopP_inv (fun k : Nat => ⟨23, tl [(0, .sl (tR l)), (3, .osl 0 0), (4, I k)], [tOb 47 5 (l.take k ++ List.replicate (l.length - k) Fil.z)]⟩) (fun k => k ≤ l.length) (fun k => l.length - k) 0 (Nat.zero_le _) ?_ ?_
  · simp only [tOb, List.take_zero, List.nil_append, Nat.sub_zero, ← tR_replicate]
    exact Wk.tl (by simp [hold, upd, tl_cons])
  intro k hk
  by_cases h : k < l.length
  · have hk' : k < min k l.length + (l.length - k) := by omega
    have hset := tR_set (l.take k ++ List.replicate (l.length - k) Fil.z) k l[k]
    rw [fillT Fil.z l k h] at hset
    simp only [Fil.rXe] at hset
    simp -implicitDefEqProofs [List.lookup_cons, and_assoc, pick_and, pick_or, if_and, if_or, h, F28, hk', tOb]
    refine ⟨k + 1, by omega, by omega, ?_⟩
    rw [hset]
    exact Wk.tl (by simp [hold, upd, tl_cons, w64_nat (show k < 4611686018427387904 by omega)])
  · simp -implicitDefEqProofs [List.lookup_cons, and_assoc, pick_and, pick_or, if_and, if_or, h, tOb]
    have : l.length - k = 0 := by omega
    rw [this, List.take_of_length_le (by omega), List.replicate_zero, List.append_nil]
    refine fin_own [0] (by simp [pickOk, -List.all_eq_true, tR_ok]) ?_
    simp -implicitDefEqProofs [pur2_i, pur2_b, pur2_s, pur2_nil, pur2_sl, pur2_tup, rn2_tup, rn2_agg, rn2_osl, rn1_v, rn1_osl, rn1_agg, rn0_v, rn0_sl, rn0, pickObs, pur_v, pur_b, pur_s, pur_nil, pur_sl, deI, deIs_sl, tOb]

def F41 : Fun := ⟨fun xs => xs = [.agg (rX (deA (xs.getD 0 .top) : Fil)), .agg (rX (deA (xs.getD 0 .top) : Fil))], fun _ => (B true, [])⟩
theorem c41 : GenCA K Tryd.prog 41 F41 := by
  refine contractA Tryd.mix K [] [] (by simp []) (by simp) Tryd.func41 rfl (by decide) ?_
  intro xs hxs
  obtain ⟨a, rfl⟩ : ∃ a : Fil, xs = [.agg (rX a), .agg (rX a)] := ⟨_, hxs⟩
  refine ⟨by rw [Tryd.ntmps41]; simp, ?_⟩
  simp -implicitDefEqProofs [Tryd.f41, List.lookup_cons, and_assoc, pick_and, pick_or, if_and, if_or]
  refine fin_pure (by simp) ?_
  simp -implicitDefEqProofs [pur2_i, pur2_b, pur2_s, pur2_nil, pur2_sl, pur2_tup, rn2_tup, rn2_agg, rn2_osl, rn1_v, rn1_osl, rn1_agg, rn0_v, rn0_sl, rn0, pickObs, pur_v, pur_b, pur_s, pur_nil, pur_sl, deI, deIs_sl, F41]

def F21 : Fun := ⟨fun xs => xs = [.sl (tR (deT (xs.getD 0 .top) : List Fil)), .sl (tR (deT (xs.getD 0 .top) : List Fil))] ∧ (deT (xs.getD 0 .top) : List Fil).length ≤ 1048576, fun _ => (B true, [])⟩
theorem c21 : GenCA K Tryd.prog 21 F21 := by
  refine contractA Tryd.mix K [(41, F41)] [] (by simp [c41]) (by simp) Tryd.func21 rfl (by decide) ?_
  intro xs hxs
  obtain ⟨l, rfl, hl⟩ : ∃ l : List Fil, xs = [.sl (tR l), .sl (tR l)] ∧ l.length ≤ 1048576 := ⟨_, hxs.1, hxs.2⟩
  refine ⟨by rw [Tryd.ntmps21]; simp, ?_⟩
  simp -implicitDefEqProofs [Tryd.f21, List.lookup_cons, and_assoc, pick_and, pick_or, if_and, if_or]
  refine loopP_inv (fun k : Nat => ⟨27, tl [(0, .sl (tR l)), (1, .sl (tR l)), (5, I k)], []⟩) (fun k => k ≤ l.length) (fun k => l.length - k) 0 (Nat.zero_le _) (Wk.tl (by simp [hold, upd, tl_cons])) ?_
  intro k hk
  by_cases h : k < l.length
  · simp -implicitDefEqProofs [List.lookup_cons, and_assoc, pick_and, pick_or, if_and, if_or, h]
    refine drawP_all _ (by decide) ?_
    simp -implicitDefEqProofs [List.lookup_cons, and_assoc, pick_and, pick_or, if_and, if_or, h, F41]
    refine ⟨k + 1, by omega, by omega, Wk.tl ?_⟩
    simp [hold, upd, tl_cons, w64_nat (show k < 4611686018427387904 by omega)]
  · have e : k = l.length := by omega
    subst e
    simp -implicitDefEqProofs [List.lookup_cons, and_assoc, pick_and, pick_or, if_and, if_or]
    refine fin_pure (by simp) ?_
    simp -implicitDefEqProofs [pur2_i, pur2_b, pur2_s, pur2_nil, pur2_sl, pur2_tup, rn2_tup, rn2_agg, rn2_osl, rn1_v, rn1_osl, rn1_agg, rn0_v, rn0_sl, rn0, pickObs, pur_v, pur_b, pur_s, pur_nil, pur_sl, deI, deIs_sl, F21]

def F9 : Fun := ⟨fun xs => xs = [.sl (tR (deT (xs.getD 0 .top) : List Cls)), I (deI (xs.getD 1 .top) : Int)] ∧ (fun (l : List Cls) (m : Int) => (l.length ≤ 9223372036854775807 ∧ 0 ≤ m ∧ m ≤ 1048576)) (deT (xs.getD 0 .top) : List Cls) (deI (xs.getD 1 .top) : Int), fun xs => (fun (l : List Cls) (m : Int) => ((I (if m < l.length then -1 else m - l.length), []) : X × List Ob)) (deT (xs.getD 0 .top) : List Cls) (deI (xs.getD 1 .top) : Int)⟩
theorem F9_in {xs : List X} (h : F9.pre xs) : ∃ (l : List Cls) (m : Int), xs = [.sl (tR l), I m] ∧ (l.length ≤ 9223372036854775807 ∧ 0 ≤ m ∧ m ≤ 1048576) := ⟨_, _, h.1, h.2⟩
theorem F9_res (l : List Cls) (m : Int) : F9.res [.sl (tR l), I m] = (I (if m < l.length then -1 else m - l.length), []) := by simp [F9]
theorem F9_mk (l : List Cls) (m : Int) (h : l.length ≤ 9223372036854775807 ∧ 0 ≤ m ∧ m ≤ 1048576) : F9.pre [.sl (tR l), I m] := by simpa [F9] using h
theorem c9 : GenCA K Tryd.prog 9 F9 := by
  refine contractA Tryd.mix K [] [] (by simp) (by simp) Tryd.func9 rfl (by decide) ?_
  intro xs hxs
  obtain ⟨l, m, rfl, hp⟩ := F9_in hxs
  rw [F9_res]
  refine ⟨by rw [Tryd.ntmps9]; simp, ?_⟩
  have hw : IntKind.i64.wrap (m - l.length) = m - l.length := w64 (by omega) (by omega)
  by_cases h : m < l.length
  · have h' : m - l.length < 0 := by omega
    simp -implicitDefEqProofs [Tryd.f9, List.lookup_cons, and_assoc, pick_and, pick_or, if_and, if_or, hw, h']
    refine fin_pure (by simp) ?_
    simp -implicitDefEqProofs [pur2_i, pur2_b, pur2_s, pur2_nil, pur2_sl, pur2_tup, rn2_tup, rn2_agg, rn2_osl, rn1_v, rn1_osl, rn1_agg, rn0_v, rn0_sl, rn0, pickObs, pur_v, pur_b, pur_s, pur_nil, pur_sl, deI, deIs_sl, h]
  · have h' : ¬ m - l.length < 0 := by omega
    simp -implicitDefEqProofs [Tryd.f9, List.lookup_cons, and_assoc, pick_and, pick_or, if_and, if_or, hw, h']
    refine fin_pure (by simp) ?_
    simp -implicitDefEqProofs [pur2_i, pur2_b, pur2_s, pur2_nil, pur2_sl, pur2_tup, rn2_tup, rn2_agg, rn2_osl, rn1_v, rn1_osl, rn1_agg, rn0_v, rn0_sl, rn0, pickObs, pur_v, pur_b, pur_s, pur_nil, pur_sl, deI, deIs_sl, h]
def F10 : Fun := ⟨fun xs => xs = [.sl (tR (deT (xs.getD 0 .top) : List Fil)), I (deI (xs.getD 1 .top) : Int)] ∧ (fun (l : List Fil) (m : Int) => (l.length ≤ 9223372036854775807 ∧ 0 ≤ m ∧ m ≤ 1048576)) (deT (xs.getD 0 .top) : List Fil) (deI (xs.getD 1 .top) : Int), fun xs => (fun (l : List Fil) (m : Int) => ((I (if m < l.length then -1 else m - l.length), []) : X × List Ob)) (deT (xs.getD 0 .top) : List Fil) (deI (xs.getD 1 .top) : Int)⟩
theorem F10_in {xs : List X} (h : F10.pre xs) : ∃ (l : List Fil) (m : Int), xs = [.sl (tR l), I m] ∧ (l.length ≤ 9223372036854775807 ∧ 0 ≤ m ∧ m ≤ 1048576) := ⟨_, _, h.1, h.2⟩
theorem F10_res (l : List Fil) (m : Int) : F10.res [.sl (tR l), I m] = (I (if m < l.length then -1 else m - l.length), []) := by simp [F10]
theorem F10_mk (l : List Fil) (m : Int) (h : l.length ≤ 9223372036854775807 ∧ 0 ≤ m ∧ m ≤ 1048576) : F10.pre [.sl (tR l), I m] := by simpa [F10] using h
theorem c10 : GenCA K Tryd.prog 10 F10 := by
  refine contractA Tryd.mix K [] [] (by simp) (by simp) Tryd.func10 rfl (by decide) ?_
  intro xs hxs
  obtain ⟨l, m, rfl, hp⟩ := F10_in hxs
  rw [F10_res]
  refine ⟨by rw [Tryd.ntmps10]; simp, ?_⟩
  have hw : IntKind.i64.wrap (m - l.length) = m - l.length := w64 (by omega) (by omega)
  by_cases h : m < l.length
  · have h' : m - l.length < 0 := by omega
    simp -implicitDefEqProofs [Tryd.f10, List.lookup_cons, and_assoc, pick_and, pick_or, if_and, if_or, hw, h']
    refine fin_pure (by simp) ?_
    simp -implicitDefEqProofs [pur2_i, pur2_b, pur2_s, pur2_nil, pur2_sl, pur2_tup, rn2_tup, rn2_agg, rn2_osl, rn1_v, rn1_osl, rn1_agg, rn0_v, rn0_sl, rn0, pickObs, pur_v, pur_b, pur_s, pur_nil, pur_sl, deI, deIs_sl, h]
  · have h' : ¬ m - l.length < 0 := by omega
    simp -implicitDefEqProofs [Tryd.f10, List.lookup_cons, and_assoc, pick_and, pick_or, if_and, if_or, hw, h']
    refine fin_pure (by simp) ?_
    simp -implicitDefEqProofs [pur2_i, pur2_b, pur2_s, pur2_nil, pur2_sl, pur2_tup, rn2_tup, rn2_agg, rn2_osl, rn1_v, rn1_osl, rn1_agg, rn0_v, rn0_sl, rn0, pickObs, pur_v, pur_b, pur_s, pur_nil, pur_sl, deI, deIs_sl, h]
def cSz (c : Cfg) : Int := (c.name.size : Int) + c.cls.length + c.fil.length
def bigC (c : Cfg) : Prop := c.name.size ≤ 9223372036854775807 ∧ c.cls.length ≤ 9223372036854775807 ∧ c.fil.length ≤ 9223372036854775807
theorem okC_of {c : Cfg} {m : Int} (h : ¬ m < cSz c) (hm : m ≤ 1048576) : okC c := by
  unfold cSz at h
  exact ⟨by omega, by omega, by omega⟩
def F4 : Fun := ⟨fun xs => xs = [.agg (cX (deC (xs.getD 0 .top) : Cfg)), I (deI (xs.getD 1 .top) : Int)] ∧ (fun (c : Cfg) (m : Int) => (bigC c ∧ 0 ≤ m ∧ m ≤ 1048576)) (deC (xs.getD 0 .top) : Cfg) (deI (xs.getD 1 .top) : Int), fun xs => (fun (c : Cfg) (m : Int) => ((I (if m < cSz c then -1 else m - cSz c), []) : X × List Ob)) (deC (xs.getD 0 .top) : Cfg) (deI (xs.getD 1 .top) : Int)⟩
theorem F4_in {xs : List X} (h : F4.pre xs) : ∃ (c : Cfg) (m : Int), xs = [.agg (cX c), I m] ∧ (bigC c ∧ 0 ≤ m ∧ m ≤ 1048576) := ⟨_, _, h.1, h.2⟩
theorem F4_res (c : Cfg) (m : Int) : F4.res [.agg (cX c), I m] = (I (if m < cSz c then -1 else m - cSz c), []) := by simp [F4]
theorem F4_mk (c : Cfg) (m : Int) (h : bigC c ∧ 0 ≤ m ∧ m ≤ 1048576) : F4.pre [.agg (cX c), I m] := by simpa [F4] using h
theorem c4 : GenCA K Tryd.prog 4 F4 := by
  refine contractA Tryd.mix K [(9, F9), (10, F10)] [] (by simp [c9, c10]) (by simp) Tryd.func4 rfl (by decide) ?_
  intro xs hxs
  obtain ⟨c, m, rfl, hp⟩ := F4_in hxs
  rw [F4_res]
  refine ⟨by rw [Tryd.ntmps4]; simp, ?_⟩
  obtain ⟨⟨b1, b2, b3⟩, hm0, hm1⟩ := hp
  have hw1 : IntKind.i64.wrap (m - c.name.size) = m - c.name.size := w64 (by omega) (by omega)
  by_cases h1 : m - c.name.size < 0
  · have e : m < cSz c := by unfold cSz; omega
    simp -implicitDefEqProofs [Tryd.f4, F9, F10, List.lookup_cons, and_assoc, pick_and, pick_or, if_and, if_or, hw1, h1]
    refine fin_pure (by simp) ?_
    simp -implicitDefEqProofs [pur2_i, pur2_b, pur2_s, pur2_nil, pur2_sl, pur2_tup, rn2_tup, rn2_agg, rn2_osl, rn1_v, rn1_osl, rn1_agg, rn0_v, rn0_sl, rn0, pickObs, pur_v, pur_b, pur_s, pur_nil, pur_sl, deI, deIs_sl, e]
  have q1 : 0 ≤ m - c.name.size := by omega
  have q1' : (c.name.size : Int) ≤ m := by omega
  have q2 : m - c.name.size ≤ 1048576 := by omega
  by_cases h2 : m - c.name.size < c.cls.length
  · have e : m < cSz c := by unfold cSz; omega
    simp -implicitDefEqProofs [Tryd.f4, F9, F10, List.lookup_cons, and_assoc, pick_and, pick_or, if_and, if_or, hw1, h1, b2, q1, q1', q2, h2]
    refine fin_pure (by simp) ?_
    simp -implicitDefEqProofs [pur2_i, pur2_b, pur2_s, pur2_nil, pur2_sl, pur2_tup, rn2_tup, rn2_agg, rn2_osl, rn1_v, rn1_osl, rn1_agg, rn0_v, rn0_sl, rn0, pickObs, pur_v, pur_b, pur_s, pur_nil, pur_sl, deI, deIs_sl, e]
  have r1 : 0 ≤ m - c.name.size - c.cls.length := by omega
  have r1' : ¬ m - c.name.size - c.cls.length < 0 := by omega
  have r1'' : (c.cls.length : Int) ≤ m - c.name.size := by omega
  have r2 : m - c.name.size - c.cls.length ≤ 1048576 := by omega
  by_cases h3 : m - c.name.size - c.cls.length < c.fil.length
  · have e : m < cSz c := by unfold cSz; omega
    simp -implicitDefEqProofs [Tryd.f4, F9, F10, List.lookup_cons, and_assoc, pick_and, pick_or, if_and, if_or, hw1, h1, b2, b3, q1, q1', q2, h2, r1, r1', r1'', r2, h3]
    refine fin_pure (by simp) ?_
    simp -implicitDefEqProofs [pur2_i, pur2_b, pur2_s, pur2_nil, pur2_sl, pur2_tup, rn2_tup, rn2_agg, rn2_osl, rn1_v, rn1_osl, rn1_agg, rn0_v, rn0_sl, rn0, pickObs, pur_v, pur_b, pur_s, pur_nil, pur_sl, deI, deIs_sl, e]
  have s1 : ¬ m - c.name.size - c.cls.length - c.fil.length < 0 := by omega
  have e : ¬ m < cSz c := by unfold cSz; omega
  simp -implicitDefEqProofs [Tryd.f4, F9, F10, List.lookup_cons, and_assoc, pick_and, pick_or, if_and, if_or, hw1, h1, b2, b3, q1, q1', q2, h2, r1, r1', r1'', r2, h3, s1]
  refine fin_pure (by simp) ?_
  simp -implicitDefEqProofs [pur2_i, pur2_b, pur2_s, pur2_nil, pur2_sl, pur2_tup, rn2_tup, rn2_agg, rn2_osl, rn1_v, rn1_osl, rn1_agg, rn0_v, rn0_sl, rn0, pickObs, pur_v, pur_b, pur_s, pur_nil, pur_sl, deI, deIs_sl, e, cSz]
  omega

def cO (c : Cfg) : X := .agg [.v (.string c.name), .osl 0 0, .osl 1 0, I c.dflt]
def cOb (c : Cfg) : List Ob := [tOb 44 8 c.cls, tOb 47 5 c.fil]
def F6 : Fun := ⟨fun xs => xs = [.agg (cX (deC (xs.getD 0 .top) : Cfg))] ∧ (fun (c : Cfg) => (okC c)) (deC (xs.getD 0 .top) : Cfg), fun xs => (fun (c : Cfg) => ((cO c, cOb c) : X × List Ob)) (deC (xs.getD 0 .top) : Cfg)⟩
theorem F6_in {xs : List X} (h : F6.pre xs) : ∃ (c : Cfg), xs = [.agg (cX c)] ∧ (okC c) := ⟨_, h.1, h.2⟩
theorem F6_res (c : Cfg) : F6.res [.agg (cX c)] = (cO c, cOb c) := by simp [F6]
theorem F6_mk (c : Cfg) (h : okC c) : F6.pre [.agg (cX c)] := by simpa [F6] using h
theorem c6 : GenCA K Tryd.prog 6 F6 := by
  refine contractA Tryd.mix K [(13, F13), (14, F14)] [] (by simp [c13, c14]) (by simp) Tryd.func6 rfl (by decide) ?_
  intro xs hxs
  obtain ⟨c, rfl, hp⟩ := F6_in hxs
  rw [F6_res]
  refine ⟨by rw [Tryd.ntmps6]; simp, ?_⟩
  obtain ⟨h1, h2, h3⟩ := hp
  simp -implicitDefEqProofs [Tryd.f6, F13, F14, List.lookup_cons, and_assoc, pick_and, pick_or, if_and, if_or, h1, h2, tOb]
  refine fin_own [3, 4] (by simp [pickOk, -List.all_eq_true, tR_ok]) ?_
  simp -implicitDefEqProofs [pur2_i, pur2_b, pur2_s, pur2_nil, pur2_sl, pur2_tup, rn2_tup, rn2_agg, rn2_osl, rn1_v, rn1_osl, rn1_agg, rn0_v, rn0_sl, rn0, pickObs, pur_v, pur_b, pur_s, pur_nil, pur_sl, deI, deIs_sl, cO, cOb, tOb]
  exact ⟨rfl, rfl⟩
def F8 : Fun := ⟨fun xs => xs = [.agg (cX (deC (xs.getD 0 .top))), .agg (cX (deC (xs.getD 0 .top)))] ∧ okC (deC (xs.getD 0 .top)), fun _ => (B true, [])⟩
theorem c8 : GenCA K Tryd.prog 8 F8 := by
  refine contractA Tryd.mix K [(20, F20), (21, F21)] [] (by simp [c20, c21]) (by simp) Tryd.func8 rfl (by decide) ?_
  intro xs hxs
  obtain ⟨c, rfl, hp⟩ : ∃ c : Cfg, xs = [.agg (cX c), .agg (cX c)] ∧ okC c := ⟨_, hxs.1, hxs.2⟩
  refine ⟨by rw [Tryd.ntmps8]; simp, ?_⟩
  simp -implicitDefEqProofs [Tryd.f8, List.lookup_cons, and_assoc, pick_and, pick_or, if_and, if_or, F20, F21, hp.1, hp.2.1]
  refine fin_pure (by simp) ?_
  simp -implicitDefEqProofs [pur2_i, pur2_b, pur2_s, pur2_nil, pur2_sl, pur2_tup, rn2_tup, rn2_agg, rn2_osl, rn1_v, rn1_osl, rn1_agg, rn0_v, rn0_sl, rn0, pickObs, pur_v, pur_b, pur_s, pur_nil, pur_sl, deI, deIs_sl, F8]

def obl (obs : List Ob) (i : Nat) : Nat := ((obs[i]?).map fun ob => ob.rows.length).getD 0
def cMk (k : Int) (n m : Nat) : List Ob := [tOb 44 8 (Cls.mkL k n), tOb 47 5 (Fil.mkL (k + 8 * n) m)]
end Go.Proofs
