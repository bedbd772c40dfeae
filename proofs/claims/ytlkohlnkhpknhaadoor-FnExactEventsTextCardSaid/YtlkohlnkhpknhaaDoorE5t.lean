/-
  What is proved here: contracts of the law's own functions on events. Condition: none.
-/
import Derived.Test.YtlkohlnkhpknhaaDoorE1t
namespace Go.Proofs
open Go.Abs
set_option linter.unusedSimpArgs false
set_option linter.unnecessarySimpa false
set_option linter.unusedVariables false
set_option maxHeartbeats 4000000
set_option maxRecDepth 20000


def Evt.mk' (k : Int) : Evt := ⟨k, k + 1, k + 2, k + 3, k + 4⟩
def Evt.mkL (k : Int) (n : Nat) : List Evt := (List.range n).map fun i : Nat => Evt.mk' (k + 5 * (i : Int))
@[simp] theorem Evt.mkL_len (k : Int) (n : Nat) : (Evt.mkL k n).length = n := by simp [Evt.mkL]
@[simp] theorem Evt.mkL_zero (k : Int) : Evt.mkL k 0 = [] := rfl
theorem Evt.mkL_set (k : Int) (l : List Evt) (j : Nat) (h : j < l.length) : (Evt.mkL k j ++ l.drop j).set j (Evt.mk' (k + 5 * (j : Int))) = Evt.mkL k (j + 1) ++ l.drop (j + 1) := by
  rw [List.set_append_right _ _ (by simp [Evt.mkL_len]), Evt.mkL_len, Nat.sub_self, List.drop_eq_getElem_cons h, List.set_cons_zero]
  simp [Evt.mkL, List.range_succ]
theorem Evt.mkL_get (k : Int) (n j : Nat) (h : j < (Evt.mkL k n).length) : (Evt.mkL k n)[j] = Evt.mk' (k + 5 * (j : Int)) := by simp [Evt.mkL]

def F34 : Fun := ⟨fun xs => xs = [.agg (rX (deA (xs.getD 0 .top) : Evt))] ∧ (fun (e : Evt) => (True)) (deA (xs.getD 0 .top) : Evt), fun xs => (fun (e : Evt) => ((.agg (rX e), []) : X × List Ob)) (deA (xs.getD 0 .top) : Evt)⟩
theorem F34_in {xs : List X} (h : F34.pre xs) : ∃ (e : Evt), xs = [.agg (rX e)] ∧ (True) := ⟨_, h.1, h.2⟩
theorem F34_res (e : Evt) : F34.res [.agg (rX e)] = (.agg (rX e), []) := by simp [F34]
theorem F34_mk (e : Evt) (h : True) : F34.pre [.agg (rX e)] := by simpa [F34] using h
theorem c34 : GenCA K Tryd.prog 34 F34 := by
  refine contractA Tryd.mix K [] [] (by simp) (by simp) Tryd.func34 rfl (by decide) ?_
  intro xs hxs
  obtain ⟨e, rfl, hp⟩ := F34_in hxs
  rw [F34_res]
  refine ⟨by rw [Tryd.ntmps34]; simp, ?_⟩
  simp -implicitDefEqProofs [Tryd.f34, List.lookup_cons, and_assoc, pick_and, pick_or, if_and, if_or]
  refine fin_pure (by simp) ?_
  simp -implicitDefEqProofs [pur2_i, pur2_b, pur2_s, pur2_nil, pur2_sl, pur2_tup, rn2_tup, rn2_agg, rn2_osl, rn1_v, rn1_osl, rn1_agg, rn0_v, rn0_sl, rn0, pickObs, pur_v, pur_b, pur_s, pur_nil, pur_sl, deI, deIs_sl]

def F15 : Fun := ⟨fun xs => xs = [.sl (tR (deT (xs.getD 0 .top) : List Evt))] ∧ (fun (l : List Evt) => (l.length ≤ 1048576)) (deT (xs.getD 0 .top) : List Evt), fun xs => (fun (l : List Evt) => ((.osl 0 0, [tOb 59 5 l]) : X × List Ob)) (deT (xs.getD 0 .top) : List Evt)⟩
theorem F15_in {xs : List X} (h : F15.pre xs) : ∃ (l : List Evt), xs = [.sl (tR l)] ∧ (l.length ≤ 1048576) := ⟨_, h.1, h.2⟩
theorem F15_res (l : List Evt) : F15.res [.sl (tR l)] = (.osl 0 0, [tOb 59 5 l]) := by simp [F15]
theorem F15_mk (l : List Evt) (h : l.length ≤ 1048576) : F15.pre [.sl (tR l)] := by simpa [F15] using h
theorem c15 : GenCA K Tryd.prog 15 F15 := by
  refine contractA Tryd.mix K [(34, F34)] [] (by simp [c34]) (by simp) Tryd.func15 rfl (by decide) ?_
  intro xs hxs
  obtain ⟨l, rfl, hp⟩ := F15_in hxs
  rw [F15_res]
  refine ⟨by rw [Tryd.ntmps15]; simp, ?_⟩
  simp -implicitDefEqProofs [Tryd.f15, F34, List.lookup_cons, and_assoc, pick_and, pick_or, if_and, if_or, eMake]
  refine ⟨by omega, by omega, ?_⟩
  refine loopP_inv (fun k : Nat => ⟨23, tl [(0, .sl (tR l)), (3, .osl 0 0), (4, I k)], [tOb 59 5 (l.take k ++ List.replicate (l.length - k) Evt.z)]⟩) (fun k => k ≤ l.length) (fun k => l.length - k) 0 (Nat.zero_le _) ?_ ?_
  · simp only [tOb, List.take_zero, List.nil_append, Nat.sub_zero, ← tR_replicate]
    exact Wk.tl (by simp [hold, upd, tl_cons])
  intro k hk
  by_cases h : k < l.length
  · have hk' : k < min k l.length + (l.length - k) := by omega
    have hset := tR_set (l.take k ++ List.replicate (l.length - k) Evt.z) k l[k]
    rw [fillT Evt.z l k h] at hset
    simp only [Evt.rXe] at hset
    simp -implicitDefEqProofs [List.lookup_cons, and_assoc, pick_and, pick_or, if_and, if_or, h, F34, hk', tOb]
    refine ⟨k + 1, by omega, by omega, ?_⟩
    rw [hset]
    exact Wk.tl (by simp [hold, upd, tl_cons, w64_nat (show k < 4611686018427387904 by omega)])
  · simp -implicitDefEqProofs [List.lookup_cons, and_assoc, pick_and, pick_or, if_and, if_or, h, tOb]
    have : l.length - k = 0 := by omega
    rw [this, List.take_of_length_le (by omega), List.replicate_zero, List.append_nil]
    refine fin_own [0] (by simp [pickOk, -List.all_eq_true, tR_ok]) ?_
    simp -implicitDefEqProofs [pur2_i, pur2_b, pur2_s, pur2_nil, pur2_sl, pur2_tup, rn2_tup, rn2_agg, rn2_osl, rn1_v, rn1_osl, rn1_agg, rn0_v, rn0_sl, rn0, pickObs, pur_v, pur_b, pur_s, pur_nil, pur_sl, deI, deIs_sl, tOb]

def F38 : Fun := ⟨fun xs => xs = [.agg (rX (deA (xs.getD 0 .top) : Evt)), .agg (rX (deA (xs.getD 0 .top) : Evt))], fun _ => (B true, [])⟩
theorem c38 : GenCA K Tryd.prog 38 F38 := by
  refine contractA Tryd.mix K [] [] (by simp []) (by simp) Tryd.func38 rfl (by decide) ?_
  intro xs hxs
  obtain ⟨a, rfl⟩ : ∃ a : Evt, xs = [.agg (rX a), .agg (rX a)] := ⟨_, hxs⟩
  refine ⟨by rw [Tryd.ntmps38]; simp, ?_⟩
  simp -implicitDefEqProofs [Tryd.f38, List.lookup_cons, and_assoc, pick_and, pick_or, if_and, if_or]
  refine fin_pure (by simp) ?_
  simp -implicitDefEqProofs [pur2_i, pur2_b, pur2_s, pur2_nil, pur2_sl, pur2_tup, rn2_tup, rn2_agg, rn2_osl, rn1_v, rn1_osl, rn1_agg, rn0_v, rn0_sl, rn0, pickObs, pur_v, pur_b, pur_s, pur_nil, pur_sl, deI, deIs_sl, F38]

def F17 : Fun := ⟨fun xs => xs = [.sl (tR (deT (xs.getD 0 .top) : List Evt)), .sl (tR (deT (xs.getD 0 .top) : List Evt))] ∧ (deT (xs.getD 0 .top) : List Evt).length ≤ 1048576, fun _ => (B true, [])⟩
theorem c17 : GenCA K Tryd.prog 17 F17 := by
  refine contractA Tryd.mix K [(38, F38)] [] (by simp [c38]) (by simp) Tryd.func17 rfl (by decide) ?_
  intro xs hxs
  obtain ⟨l, rfl, hl⟩ : ∃ l : List Evt, xs = [.sl (tR l), .sl (tR l)] ∧ l.length ≤ 1048576 := ⟨_, hxs.1, hxs.2⟩
  refine ⟨by rw [Tryd.ntmps17]; simp, ?_⟩
  simp -implicitDefEqProofs [Tryd.f17, List.lookup_cons, and_assoc, pick_and, pick_or, if_and, if_or]
  refine loopP_inv (fun k : Nat => ⟨27, tl [(0, .sl (tR l)), (1, .sl (tR l)), (5, I k)], []⟩) (fun k => k ≤ l.length) (fun k => l.length - k) 0 (Nat.zero_le _) (Wk.tl (by simp [hold, upd, tl_cons])) ?_
  intro k hk
  by_cases h : k < l.length
  · simp -implicitDefEqProofs [List.lookup_cons, and_assoc, pick_and, pick_or, if_and, if_or, h]
    refine drawP_all _ (by decide) ?_
    simp -implicitDefEqProofs [List.lookup_cons, and_assoc, pick_and, pick_or, if_and, if_or, h, F38]
    refine ⟨k + 1, by omega, by omega, Wk.tl ?_⟩
    simp [hold, upd, tl_cons, w64_nat (show k < 4611686018427387904 by omega)]
  · have e : k = l.length := by omega
    subst e
    simp -implicitDefEqProofs [List.lookup_cons, and_assoc, pick_and, pick_or, if_and, if_or]
    refine fin_pure (by simp) ?_
    simp -implicitDefEqProofs [pur2_i, pur2_b, pur2_s, pur2_nil, pur2_sl, pur2_tup, rn2_tup, rn2_agg, rn2_osl, rn1_v, rn1_osl, rn1_agg, rn0_v, rn0_sl, rn0, pickObs, pur_v, pur_b, pur_s, pur_nil, pur_sl, deI, deIs_sl, F17]

def F13 : Fun := ⟨fun xs => xs = [.sl (tR (deT (xs.getD 0 .top) : List Evt)), I (deI (xs.getD 1 .top) : Int)] ∧ (fun (l : List Evt) (m : Int) => (l.length ≤ 9223372036854775807 ∧ 0 ≤ m ∧ m ≤ 1048576)) (deT (xs.getD 0 .top) : List Evt) (deI (xs.getD 1 .top) : Int), fun xs => (fun (l : List Evt) (m : Int) => ((I (if m < l.length then -1 else m - l.length), []) : X × List Ob)) (deT (xs.getD 0 .top) : List Evt) (deI (xs.getD 1 .top) : Int)⟩
theorem F13_in {xs : List X} (h : F13.pre xs) : ∃ (l : List Evt) (m : Int), xs = [.sl (tR l), I m] ∧ (l.length ≤ 9223372036854775807 ∧ 0 ≤ m ∧ m ≤ 1048576) := ⟨_, _, h.1, h.2⟩
theorem F13_res (l : List Evt) (m : Int) : F13.res [.sl (tR l), I m] = (I (if m < l.length then -1 else m - l.length), []) := by simp [F13]
theorem F13_mk (l : List Evt) (m : Int) (h : l.length ≤ 9223372036854775807 ∧ 0 ≤ m ∧ m ≤ 1048576) : F13.pre [.sl (tR l), I m] := by simpa [F13] using h
theorem c13 : GenCA K Tryd.prog 13 F13 := by
  refine contractA Tryd.mix K [] [] (by simp) (by simp) Tryd.func13 rfl (by decide) ?_
  intro xs hxs
  obtain ⟨l, m, rfl, hp⟩ := F13_in hxs
  rw [F13_res]
  refine ⟨by rw [Tryd.ntmps13]; simp, ?_⟩
  have hw : IntKind.i64.wrap (m - l.length) = m - l.length := w64 (by omega) (by omega)
  by_cases h : m < l.length
  · have h' : m - l.length < 0 := by omega
    simp -implicitDefEqProofs [Tryd.f13, List.lookup_cons, and_assoc, pick_and, pick_or, if_and, if_or, hw, h']
    refine fin_pure (by simp) ?_
    simp -implicitDefEqProofs [pur2_i, pur2_b, pur2_s, pur2_nil, pur2_sl, pur2_tup, rn2_tup, rn2_agg, rn2_osl, rn1_v, rn1_osl, rn1_agg, rn0_v, rn0_sl, rn0, pickObs, pur_v, pur_b, pur_s, pur_nil, pur_sl, deI, deIs_sl, h]
  · have h' : ¬ m - l.length < 0 := by omega
    simp -implicitDefEqProofs [Tryd.f13, List.lookup_cons, and_assoc, pick_and, pick_or, if_and, if_or, hw, h']
    refine fin_pure (by simp) ?_
    simp -implicitDefEqProofs [pur2_i, pur2_b, pur2_s, pur2_nil, pur2_sl, pur2_tup, rn2_tup, rn2_agg, rn2_osl, rn1_v, rn1_osl, rn1_agg, rn0_v, rn0_sl, rn0, pickObs, pur_v, pur_b, pur_s, pur_nil, pur_sl, deI, deIs_sl, h]
end Go.Proofs
