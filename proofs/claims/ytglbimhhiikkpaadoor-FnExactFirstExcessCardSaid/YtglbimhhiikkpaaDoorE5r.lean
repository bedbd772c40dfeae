/-
  What is proved here: contracts of the law's own functions on events. Condition: none.
-/
import Derived.Test.YtglbimhhiikkpaaDoorE1r
namespace Go.Proofs
open Go.Abs
set_option linter.unusedSimpArgs false
set_option linter.unnecessarySimpa false
set_option linter.unusedVariables false
set_option maxHeartbeats 4000000
set_option maxRecDepth 20000


def Evt.mk' (k : Int) : Evt := ⟨k, k + 1, k + 2, k + 3, k + 4⟩
def Evt.mkL (k : Int) (n : Nat) : List Evt := (List.range n).map fun i : Nat => Evt.mk' (k + 5 * (i : Int))
@[simp] theorem Evt.mkL_len (k : Int) (n : Nat) : (Evt.mkL k n).length = n := by simp [Evt.mkL]
@[simp] theorem Evt.mkL_zero (k : Int) : Evt.mkL k 0 = [] := rfl
theorem Evt.mkL_set (k : Int) (l : List Evt) (j : Nat) (h : j < l.length) : (Evt.mkL k j ++ l.drop j).set j (Evt.mk' (k + 5 * (j : Int))) = Evt.mkL k (j + 1) ++ l.drop (j + 1) := by
  rw [List.set_append_right _ _ (by simp [Evt.mkL_len]), Evt.mkL_len, Nat.sub_self, List.drop_eq_getElem_cons h, List.set_cons_zero]
  simp [Evt.mkL, List.range_succ]
theorem Evt.mkL_get (k : Int) (n j : Nat) (h : j < (Evt.mkL k n).length) : (Evt.mkL k n)[j] = Evt.mk' (k + 5 * (j : Int)) := by simp [Evt.mkL]

def F52 : Fun := ⟨fun xs => xs = [.agg (rX (deA (xs.getD 0 .top) : Evt))] ∧ (fun (e : Evt) => (True)) (deA (xs.getD 0 .top) : Evt), fun xs => (fun (e : Evt) => ((.agg (rX e), []) : X × List Ob)) (deA (xs.getD 0 .top) : Evt)⟩
theorem F52_in {xs : List X} (h : F52.pre xs) : ∃ (e : Evt), xs = [.agg (rX e)] ∧ (True) := ⟨_, h.1, h.2⟩
theorem F52_res (e : Evt) : F52.res [.agg (rX e)] = (.agg (rX e), []) := by simp [F52]
theorem F52_mk (e : Evt) (h : True) : F52.pre [.agg (rX e)] := by simpa [F52] using h
theorem c52 : GenCA K Tryd.prog 52 F52 := by
  refine contractA Tryd.mix K [] [] (by simp) (by simp) Tryd.func52 rfl (by decide) ?_
  intro xs hxs
  obtain ⟨e, rfl, hp⟩ := F52_in hxs
  rw [F52_res]
  refine ⟨by rw [Tryd.ntmps52]; simp, ?_⟩
  simp -implicitDefEqProofs [Tryd.f52, List.lookup_cons, and_assoc, pick_and, pick_or, if_and, if_or]
  refine fin_pure (by simp) ?_
  simp -implicitDefEqProofs [pur2_i, pur2_b, pur2_s, pur2_nil, pur2_sl, pur2_tup, rn2_tup, rn2_agg, rn2_osl, rn1_v, rn1_osl, rn1_agg, rn0_v, rn0_sl, rn0, pickObs, pur_v, pur_b, pur_s, pur_nil, pur_sl, deI, deIs_sl]

def F20 : Fun := ⟨fun xs => xs = [.sl (tR (deT (xs.getD 0 .top) : List Evt))] ∧ (fun (l : List Evt) => (l.length ≤ 1048576)) (deT (xs.getD 0 .top) : List Evt), fun xs => (fun (l : List Evt) => ((.osl 0 0, [tOb 87 5 l]) : X × List Ob)) (deT (xs.getD 0 .top) : List Evt)⟩
theorem F20_in {xs : List X} (h : F20.pre xs) : ∃ (l : List Evt), xs = [.sl (tR l)] ∧ (l.length ≤ 1048576) := ⟨_, h.1, h.2⟩
theorem F20_res (l : List Evt) : F20.res [.sl (tR l)] = (.osl 0 0, [tOb 87 5 l]) := by simp [F20]
theorem F20_mk (l : List Evt) (h : l.length ≤ 1048576) : F20.pre [.sl (tR l)] := by simpa [F20] using h
theorem c20 : GenCA K Tryd.prog 20 F20 := by
  refine contractA Tryd.mix K [(52, F52)] [] (by simp [c52]) (by simp) Tryd.func20 rfl (by decide) ?_
  intro xs hxs
  obtain ⟨l, rfl, hp⟩ := F20_in hxs
  rw [F20_res]
  refine ⟨by rw [Tryd.ntmps20]; simp, ?_⟩
  simp -implicitDefEqProofs [Tryd.f20, F52, List.lookup_cons, and_assoc, pick_and, pick_or, if_and, if_or, eMake]
  refine ⟨by omega, by omega, ?_⟩
  refine loopP_inv (fun k : Nat => ⟨23, tl [(0, .sl (tR l)), (3, .osl 0 0), (4, I k)], [tOb 87 5 (l.take k ++ List.replicate (l.length - k) Evt.z)]⟩) (fun k => k ≤ l.length) (fun k => l.length - k) 0 (Nat.zero_le _) ?_ ?_
  · simp only [tOb, List.take_zero, List.nil_append, Nat.sub_zero, ← tR_replicate]
    exact Wk.tl (by simp [hold, upd, tl_cons])
  intro k hk
  by_cases h : k < l.length
  · have hk' : k < min k l.length + (l.length - k) := by omega
    have hset := tR_set (l.take k ++ List.replicate (l.length - k) Evt.z) k l[k]
    rw [fillT Evt.z l k h] at hset
    simp only [Evt.rXe] at hset
    simp -implicitDefEqProofs [List.lookup_cons, and_assoc, pick_and, pick_or, if_and, if_or, h, F52, hk', tOb]
    refine ⟨k + 1, by omega, by omega, ?_⟩
    rw [hset]
    exact Wk.tl (by simp [hold, upd, tl_cons, w64_nat (show k < 4611686018427387904 by omega)])
  · simp -implicitDefEqProofs [List.lookup_cons, and_assoc, pick_and, pick_or, if_and, if_or, h, tOb]
    have : l.length - k = 0 := by omega
    rw [this, List.take_of_length_le (by omega), List.replicate_zero, List.append_nil]
    refine fin_own [0] (by simp [pickOk, -List.all_eq_true, tR_ok]) ?_
    simp -implicitDefEqProofs [pur2_i, pur2_b, pur2_s, pur2_nil, pur2_sl, pur2_tup, rn2_tup, rn2_agg, rn2_osl, rn1_v, rn1_osl, rn1_agg, rn0_v, rn0_sl, rn0, pickObs, pur_v, pur_b, pur_s, pur_nil, pur_sl, deI, deIs_sl, tOb]

def F55 : Fun := ⟨fun xs => xs = [.agg (rX (deA (xs.getD 0 .top) : Evt)), .agg (rX (deA (xs.getD 0 .top) : Evt))], fun _ => (B true, [])⟩
theorem c55 : GenCA K Tryd.prog 55 F55 := by
  refine contractA Tryd.mix K [] [] (by simp []) (by simp) Tryd.func55 rfl (by decide) ?_
  intro xs hxs
  obtain ⟨a, rfl⟩ : ∃ a : Evt, xs = [.agg (rX a), .agg (rX a)] := ⟨_, hxs⟩
  refine ⟨by rw [Tryd.ntmps55]; simp, ?_⟩
  simp -implicitDefEqProofs [Tryd.f55, List.lookup_cons, and_assoc, pick_and, pick_or, if_and, if_or]
  refine fin_pure (by simp) ?_
  simp -implicitDefEqProofs [pur2_i, pur2_b, pur2_s, pur2_nil, pur2_sl, pur2_tup, rn2_tup, rn2_agg, rn2_osl, rn1_v, rn1_osl, rn1_agg, rn0_v, rn0_sl, rn0, pickObs, pur_v, pur_b, pur_s, pur_nil, pur_sl, deI, deIs_sl, F55]

def F22 : Fun := ⟨fun xs => xs = [.sl (tR (deT (xs.getD 0 .top) : List Evt)), .sl (tR (deT (xs.getD 0 .top) : List Evt))] ∧ (deT (xs.getD 0 .top) : List Evt).length ≤ 1048576, fun _ => (B true, [])⟩
theorem c22 : GenCA K Tryd.prog 22 F22 := by
  refine contractA Tryd.mix K [(55, F55)] [] (by simp [c55]) (by simp) Tryd.func22 rfl (by decide) ?_
  intro xs hxs
  obtain ⟨l, rfl, hl⟩ : ∃ l : List Evt, xs = [.sl (tR l), .sl (tR l)] ∧ l.length ≤ 1048576 := ⟨_, hxs.1, hxs.2⟩
  refine ⟨by rw [Tryd.ntmps22]; simp, ?_⟩
  simp -implicitDefEqProofs [Tryd.f22, List.lookup_cons, and_assoc, pick_and, pick_or, if_and, if_or]
  refine loopP_inv (fun k : Nat => ⟨27, tl [(0, .sl (tR l)), (1, .sl (tR l)), (5, I k)], []⟩) (fun k => k ≤ l.length) (fun k => l.length - k) 0 (Nat.zero_le _) (Wk.tl (by simp [hold, upd, tl_cons])) ?_
  intro k hk
  by_cases h : k < l.length
  · simp -implicitDefEqProofs [List.lookup_cons, and_assoc, pick_and, pick_or, if_and, if_or, h]
    refine drawP_all _ (by decide) ?_
    simp -implicitDefEqProofs [List.lookup_cons, and_assoc, pick_and, pick_or, if_and, if_or, h, F55]
    refine ⟨k + 1, by omega, by omega, Wk.tl ?_⟩
    simp [hold, upd, tl_cons, w64_nat (show k < 4611686018427387904 by omega)]
  · have e : k = l.length := by omega
    subst e
    simp -implicitDefEqProofs [List.lookup_cons, and_assoc, pick_and, pick_or, if_and, if_or]
    refine fin_pure (by simp) ?_
    simp -implicitDefEqProofs [pur2_i, pur2_b, pur2_s, pur2_nil, pur2_sl, pur2_tup, rn2_tup, rn2_agg, rn2_osl, rn1_v, rn1_osl, rn1_agg, rn0_v, rn0_sl, rn0, pickObs, pur_v, pur_b, pur_s, pur_nil, pur_sl, deI, deIs_sl, F22]

def M37 : MFun := ⟨[true], fun xs obs => (∃ (l : List Evt) (k : Int), xs = [.osl 0 0, I k] ∧ obs = [tOb 87 5 l] ∧ l.length ≤ 1048576 ∧ 0 ≤ k ∧ k ≤ 1099511627776) ∨ (∃ k : Int, xs = [.sl [], I k] ∧ obs = [] ∧ 0 ≤ k ∧ k ≤ 1099511627776),
  fun xs obs => (I (deI (xs.getD 1 .top) + 5 * ((obs.map fun ob => ob.rows.length).sum : Nat)), obs.map fun ob => tOb 87 5 (Evt.mkL (deI (xs.getD 1 .top)) ob.rows.length))⟩
theorem m37 : GenMA K Tryd.prog 37 M37 := by
  refine contractMA Tryd.mix K [] [] (by simp) (by simp) Tryd.func37 rfl (by decide) ?_
  rintro xs obs us (⟨l, k, rfl, rfl, hl, hk0, hk1⟩ | ⟨k, rfl, rfl, hk0, hk1⟩) hu
  · obtain ⟨u, rfl⟩ : ∃ u, us = [u] := by simpa [List.length_eq_one_iff] using hu
    refine ⟨⟨by rw [Tryd.ntmps37]; simp, by simp, ?_⟩, ?_⟩
    · rintro (_ | j) ob hob
      · simp at hob; subst hob; exact ⟨_, rfl, rfl, rfl, rfl, rfl, rfl⟩
      · simp at hob
    simp -implicitDefEqProofs [Tryd.f37, List.lookup_cons, and_assoc, pick_and, pick_or, if_and, if_or, tOb]
    refine loopP_inv (fun j : Nat => ⟨48, tl [(0, .osl 0 0), (1, I (k + 5 * j)), (5, I j), (1000, .pin 0 0 u)], [tOb 87 5 (Evt.mkL k j ++ l.drop j)]⟩) (fun j => j ≤ l.length) (fun j => l.length - j) 0 (Nat.zero_le _) ?_ ?_
    · simp only [Evt.mkL, List.range_zero, List.map_nil, List.nil_append, List.drop_zero]
      exact Wk.tl (by simp [hold, upd, tl_cons])
    intro j hj
    have hlen : (Evt.mkL k j ++ l.drop j).length = l.length := by simp [Evt.mkL_len]; omega
    by_cases h : j < l.length
    · have hset := tR_set (Evt.mkL k j ++ l.drop j) j (Evt.mk' (k + 5 * (j : Int)))
      rw [Evt.mkL_set k l j h] at hset
      generalize hL : Evt.mkL k j ++ l.drop j = L at hset hlen
      have hjL : j < L.length := by omega
      generalize hq : k + 5 * (j : Int) = q at hset
      have hw : ∀ z : Int, 0 ≤ z → z ≤ 64 → IntKind.i64.wrap (q + z) = q + z := fun z h1 h2 => w64 (by omega) (by omega)
      simp only [Evt.rXe, Evt.mk'] at hset
      simp -implicitDefEqProofs [List.lookup_cons, and_assoc, pick_and, pick_or, if_and, if_or, h, hjL, tOb, hw, Int.add_assoc]
      refine ⟨j + 1, by omega, by omega, ?_⟩
      rw [hset]
      exact Wk.tl (by simp [hold, upd, tl_cons, w64_nat (show j < 4611686018427387904 by omega)]; omega)
    · have e : j = l.length := by omega
      subst e
      simp -implicitDefEqProofs [List.lookup_cons, and_assoc, pick_and, pick_or, if_and, if_or, tOb, Evt.mkL_len]
      refine finM1 0 [] (tOb 87 5 (Evt.mkL k l.length)) (by simp [pickOk, -List.all_eq_true, tR_ok]) (by simp [tOb]) (by simp [tOb, upd, tl_cons]) ?_
      simp -implicitDefEqProofs [pur2_i, pur2_b, pur2_s, pur2_nil, pur2_sl, pur2_tup, rn2_tup, rn2_agg, rn2_osl, rn1_v, rn1_osl, rn1_agg, rn0_v, rn0_sl, rn0, pickObs, pur_v, pur_b, pur_s, pur_nil, pur_sl, deI, deIs_sl, M37, tOb, rn2_I]
  · obtain rfl : us = [] := by simpa using hu
    refine ⟨⟨by rw [Tryd.ntmps37]; simp, by simp, by simp⟩, ?_⟩
    simp -implicitDefEqProofs [Tryd.f37, List.lookup_cons, and_assoc, pick_and, pick_or, if_and, if_or]
    refine loopP_inv (fun _ : Nat => ⟨48, tl [(0, .sl []), (1, I k), (5, I 0)], []⟩) (fun _ => True) (fun _ => 0) 0 trivial (Wk.tl (by simp [hold, upd, tl_cons])) ?_
    intro j _
    simp -implicitDefEqProofs [List.lookup_cons, and_assoc, pick_and, pick_or, if_and, if_or]
    refine finM0 [] (by simp [pickOk]) ?_
    simp -implicitDefEqProofs [pur2_i, pur2_b, pur2_s, pur2_nil, pur2_sl, pur2_tup, rn2_tup, rn2_agg, rn2_osl, rn1_v, rn1_osl, rn1_agg, rn0_v, rn0_sl, rn0, pickObs, pur_v, pur_b, pur_s, pur_nil, pur_sl, deI, deIs_sl, M37, rn2_I]

def F18 : Fun := ⟨fun xs => xs = [.sl (tR (deT (xs.getD 0 .top) : List Evt)), I (deI (xs.getD 1 .top) : Int)] ∧ (fun (l : List Evt) (m : Int) => (l.length ≤ 9223372036854775807 ∧ 0 ≤ m ∧ m ≤ 1048576)) (deT (xs.getD 0 .top) : List Evt) (deI (xs.getD 1 .top) : Int), fun xs => (fun (l : List Evt) (m : Int) => ((I (if m < l.length then -1 else m - l.length), []) : X × List Ob)) (deT (xs.getD 0 .top) : List Evt) (deI (xs.getD 1 .top) : Int)⟩
theorem F18_in {xs : List X} (h : F18.pre xs) : ∃ (l : List Evt) (m : Int), xs = [.sl (tR l), I m] ∧ (l.length ≤ 9223372036854775807 ∧ 0 ≤ m ∧ m ≤ 1048576) := ⟨_, _, h.1, h.2⟩
theorem F18_res (l : List Evt) (m : Int) : F18.res [.sl (tR l), I m] = (I (if m < l.length then -1 else m - l.length), []) := by simp [F18]
theorem F18_mk (l : List Evt) (m : Int) (h : l.length ≤ 9223372036854775807 ∧ 0 ≤ m ∧ m ≤ 1048576) : F18.pre [.sl (tR l), I m] := by simpa [F18] using h
theorem c18 : GenCA K Tryd.prog 18 F18 := by
  refine contractA Tryd.mix K [] [] (by simp) (by simp) Tryd.func18 rfl (by decide) ?_
  intro xs hxs
  obtain ⟨l, m, rfl, hp⟩ := F18_in hxs
  rw [F18_res]
  refine ⟨by rw [Tryd.ntmps18]; simp, ?_⟩
  have hw : IntKind.i64.wrap (m - l.length) = m - l.length := w64 (by omega) (by omega)
  by_cases h : m < l.length
  · have h' : m - l.length < 0 := by omega
    simp -implicitDefEqProofs [Tryd.f18, List.lookup_cons, and_assoc, pick_and, pick_or, if_and, if_or, hw, h']
    refine fin_pure (by simp) ?_
    simp -implicitDefEqProofs [pur2_i, pur2_b, pur2_s, pur2_nil, pur2_sl, pur2_tup, rn2_tup, rn2_agg, rn2_osl, rn1_v, rn1_osl, rn1_agg, rn0_v, rn0_sl, rn0, pickObs, pur_v, pur_b, pur_s, pur_nil, pur_sl, deI, deIs_sl, h]
  · have h' : ¬ m - l.length < 0 := by omega
    simp -implicitDefEqProofs [Tryd.f18, List.lookup_cons, and_assoc, pick_and, pick_or, if_and, if_or, hw, h']
    refine fin_pure (by simp) ?_
    simp -implicitDefEqProofs [pur2_i, pur2_b, pur2_s, pur2_nil, pur2_sl, pur2_tup, rn2_tup, rn2_agg, rn2_osl, rn1_v, rn1_osl, rn1_agg, rn0_v, rn0_sl, rn0, pickObs, pur_v, pur_b, pur_s, pur_nil, pur_sl, deI, deIs_sl, h]
end Go.Proofs
