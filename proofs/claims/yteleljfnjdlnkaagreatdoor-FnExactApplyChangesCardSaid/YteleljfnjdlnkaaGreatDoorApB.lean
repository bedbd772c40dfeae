/-
  What is proved here: contracts of the law's copy of a change and of its size. Condition: none.
  What is proved here: contracts of the law's size and copy of a list of changes. Condition: none.
-/
import Derived.Test.YteleljfnjdlnkaaGreatDoorLCx
import Derived.Test.YteleljfnjdlnkaaGreatDoorQK1x
import Derived.Test.YteleljfnjdlnkaaGreatDoorD0x
import Derived.Test.YteleljfnjdlnkaaGreatDoorAP9ax
namespace Go.Proofs
open Go.Abs
set_option linter.unusedSimpArgs false
set_option linter.unnecessarySimpa false
set_option linter.unusedVariables false
set_option maxHeartbeats 8000000
set_option maxRecDepth 20000
def F30 : Fun := ⟨fun xs => xs = [.agg (rX (deA (xs.getD 0 .top) : Chg))] ∧ (fun (x : Chg) => (True)) (deA (xs.getD 0 .top) : Chg), fun xs => (fun (x : Chg) => ((.agg (rX x), []) : X × List Ob)) (deA (xs.getD 0 .top) : Chg)⟩
theorem F30_in {xs : List X} (h : F30.pre xs) : ∃ (x : Chg), xs = [.agg (rX x)] ∧ (True) := ⟨_, h.1, h.2⟩
theorem F30_res (x : Chg) : F30.res [.agg (rX x)] = (.agg (rX x), []) := by simp [F30]
theorem F30_mk (x : Chg) (h : True) : F30.pre [.agg (rX x)] := by simpa [F30] using h
theorem c30 : GenCA K Tryz.prog 30 F30 := by
  refine contractA Tryz.mix K [(59, F59), (60, F60)] [] (by simp [c59, c60]) (by simp) Tryz.func30 rfl (by decide) ?_
  intro xs hxs
  obtain ⟨x, rfl, hp⟩ := F30_in hxs
  rw [F30_res]
  refine ⟨by rw [Tryz.ntmps30]; simp, ?_⟩
  simp -implicitDefEqProofs [Tryz.f30, F59, F60, List.lookup_cons, and_assoc, pick_and, pick_or, if_and, if_or]
  refine fin_pure (by simp) ?_
  simp -implicitDefEqProofs [pur2_i, pur2_b, pur2_s, pur2_nil, pur2_sl, pur2_tup, rn2_tup, rn2_agg, rn2_osl, rn1_v, rn1_osl, rn1_agg, rn0_v, rn0_sl, rn0, pickObs, pur_v, pur_b, pur_s, pur_nil, pur_sl, deI, deIs_sl]
def F24 : Fun := ⟨fun xs => xs = [.agg (rX (deA (xs.getD 0 .top) : Chg)), I (deI (xs.getD 1 .top) : Int)] ∧ (fun (x : Chg) (m : Int) => (x.nm.size ≤ 9223372036854775807 ∧ 0 ≤ m ∧ m ≤ 1048576)) (deA (xs.getD 0 .top) : Chg) (deI (xs.getD 1 .top) : Int), fun xs => (fun (x : Chg) (m : Int) => ((I (if m < x.nm.size then -1 else m - x.nm.size), []) : X × List Ob)) (deA (xs.getD 0 .top) : Chg) (deI (xs.getD 1 .top) : Int)⟩
theorem F24_in {xs : List X} (h : F24.pre xs) : ∃ (x : Chg) (m : Int), xs = [.agg (rX x), I m] ∧ (x.nm.size ≤ 9223372036854775807 ∧ 0 ≤ m ∧ m ≤ 1048576) := ⟨_, _, h.1, h.2⟩
theorem F24_res (x : Chg) (m : Int) : F24.res [.agg (rX x), I m] = (I (if m < x.nm.size then -1 else m - x.nm.size), []) := by simp [F24]
theorem F24_mk (x : Chg) (m : Int) (h : x.nm.size ≤ 9223372036854775807 ∧ 0 ≤ m ∧ m ≤ 1048576) : F24.pre [.agg (rX x), I m] := by simpa [F24] using h
theorem c24 : GenCA K Tryz.prog 24 F24 := by
  refine contractA Tryz.mix K [] [] (by simp) (by simp) Tryz.func24 rfl (by decide) ?_
  intro xs hxs
  obtain ⟨x, m, rfl, hp⟩ := F24_in hxs
  rw [F24_res]
  refine ⟨by rw [Tryz.ntmps24]; simp, ?_⟩
  have hw : IntKind.i64.wrap (m - x.nm.size) = m - x.nm.size := w64 (by omega) (by omega)
  by_cases h : m < x.nm.size
  · have h' : m - x.nm.size < 0 := by omega
    simp -implicitDefEqProofs [Tryz.f24, List.lookup_cons, and_assoc, pick_and, pick_or, if_and, if_or, hw, h']
    refine fin_pure (by simp) ?_
    simp -implicitDefEqProofs [pur2_i, pur2_b, pur2_s, pur2_nil, pur2_sl, pur2_tup, rn2_tup, rn2_agg, rn2_osl, rn1_v, rn1_osl, rn1_agg, rn0_v, rn0_sl, rn0, pickObs, pur_v, pur_b, pur_s, pur_nil, pur_sl, deI, deIs_sl, h]
  · have h' : ¬ m - x.nm.size < 0 := by omega
    simp -implicitDefEqProofs [Tryz.f24, List.lookup_cons, and_assoc, pick_and, pick_or, if_and, if_or, hw, h']
    refine fin_pure (by simp) ?_
    simp -implicitDefEqProofs [pur2_i, pur2_b, pur2_s, pur2_nil, pur2_sl, pur2_tup, rn2_tup, rn2_agg, rn2_osl, rn1_v, rn1_osl, rn1_agg, rn0_v, rn0_sl, rn0, pickObs, pur_v, pur_b, pur_s, pur_nil, pur_sl, deI, deIs_sl, h]
end Go.Proofs

namespace Go.Proofs
open Go.Abs
set_option linter.unusedSimpArgs false
set_option linter.unnecessarySimpa false
set_option linter.unusedVariables false
set_option maxHeartbeats 8000000
set_option maxRecDepth 20000

def szN (l : List Chg) : Int := (l.map fun x => (x.nm.size : Int)).sum
def chSz (l : List Chg) : Int := l.length + szN l
theorem szN_pos : ∀ l : List Chg, 0 ≤ szN l
  | [] => by simp [szN]
  | x :: l => by
    have := szN_pos l
    simp only [szN, List.map_cons, List.sum_cons] at this ⊢
    omega
theorem szN_app (a b : List Chg) : szN (a ++ b) = szN a + szN b := by simp [szN]
theorem szN_one (x : Chg) : szN [x] = x.nm.size := by simp [szN]
theorem szN_succ (l : List Chg) (k : Nat) (h : k < l.length) : szN (l.take (k + 1)) = szN (l.take k) + l[k].nm.size := by
  rw [takeS l k h, szN_app, szN_one]
theorem szN_le (l : List Chg) (k : Nat) : szN (l.take k) ≤ szN l := by
  have e : szN l = szN (l.take k) + szN (l.drop k) := by rw [← szN_app, List.take_append_drop]
  have := szN_pos (l.drop k)
  omega
def bigH (l : List Chg) : Prop := l.length ≤ 9223372036854775807 ∧ ∀ x ∈ l, x.nm.size ≤ 9223372036854775807
def F7 : Fun := ⟨fun xs => xs = [.sl (tR (deT (xs.getD 0 .top) : List Chg)), I (deI (xs.getD 1 .top) : Int)] ∧ (fun (l : List Chg) (m : Int) => (bigH l ∧ 0 ≤ m ∧ m ≤ 1048576)) (deT (xs.getD 0 .top) : List Chg) (deI (xs.getD 1 .top) : Int), fun xs => (fun (l : List Chg) (m : Int) => ((I (if m < chSz l then -1 else m - chSz l), []) : X × List Ob)) (deT (xs.getD 0 .top) : List Chg) (deI (xs.getD 1 .top) : Int)⟩
theorem F7_in {xs : List X} (h : F7.pre xs) : ∃ (l : List Chg) (m : Int), xs = [.sl (tR l), I m] ∧ (bigH l ∧ 0 ≤ m ∧ m ≤ 1048576) := ⟨_, _, h.1, h.2⟩
theorem F7_res (l : List Chg) (m : Int) : F7.res [.sl (tR l), I m] = (I (if m < chSz l then -1 else m - chSz l), []) := by simp [F7]
theorem F7_mk (l : List Chg) (m : Int) (h : bigH l ∧ 0 ≤ m ∧ m ≤ 1048576) : F7.pre [.sl (tR l), I m] := by simpa [F7] using h
theorem c7 : GenCA K Tryz.prog 7 F7 := by
  refine contractA Tryz.mix K [(24, F24)] [] (by simp [c24]) (by simp) Tryz.func7 rfl (by decide) ?_
  intro xs hxs
  obtain ⟨l, m, rfl, hp⟩ := F7_in hxs
  rw [F7_res]
  refine ⟨by rw [Tryz.ntmps7]; simp, ?_⟩
  obtain ⟨⟨h1, h2⟩, h3, h4⟩ := hp
  have hw : IntKind.i64.wrap (m - l.length) = m - l.length := w64 (by omega) (by omega)
  have hpos := szN_pos l
  by_cases hb : m - l.length < 0
  · have hr : m < chSz l := by unfold chSz; omega
    simp -implicitDefEqProofs [Tryz.f7, F24, List.lookup_cons, and_assoc, pick_and, pick_or, if_and, if_or, hw, hb]
    refine fin_pure (by simp) ?_
    simp -implicitDefEqProofs [pur2_i, pur2_b, pur2_s, pur2_nil, pur2_sl, pur2_tup, rn2_tup, rn2_agg, rn2_osl, rn1_v, rn1_osl, rn1_agg, rn0_v, rn0_sl, rn0, pickObs, pur_v, pur_b, pur_s, pur_nil, pur_sl, deI, deIs_sl, hr]
  simp -implicitDefEqProofs [Tryz.f7, F24, List.lookup_cons, and_assoc, pick_and, pick_or, if_and, if_or, hw, hb]
  refine loopP_inv (fun k : Nat => ⟨27, tl [(0, .sl (tR l)), (1, I (m - l.length - szN (l.take k))), (5, I k)], []⟩) (fun k => k ≤ l.length ∧ l.length + szN (l.take k) ≤ m) (fun k => l.length - k) 0 ⟨Nat.zero_le _, by simp [szN]; omega⟩ ?_ ?_
  · simp only [List.take_zero, szN, List.map_nil, List.sum_nil, Int.sub_zero]
    exact Wk.tl (by simp [hold, upd, tl_cons])
  rintro k ⟨hk, ha⟩
  have n0 := szN_pos (l.take k)
  have n1 := szN_le l
  by_cases h : k < l.length
  · have hx := h2 l[k] (List.getElem_mem h)
    have hs := szN_succ l k h
    obtain ⟨q, hq⟩ : ∃ q, q = m - l.length - szN (l.take k) := ⟨_, rfl⟩
    rw [← hq]
    have q0 : 0 ≤ q := by omega
    have q1 : q ≤ 1048576 := by omega
    have hwk := w64n (show k < 4611686018427387904 by omega)
    by_cases hz : q < l[k].nm.size
    · have hr : m < chSz l := by have := n1 (k + 1); unfold chSz; omega
      simp -implicitDefEqProofs [List.lookup_cons, and_assoc, pick_and, pick_or, if_and, if_or, h, hx, q0, q1, hz]
      refine fin_pure (by simp) ?_
      simp -implicitDefEqProofs [pur2_i, pur2_b, pur2_s, pur2_nil, pur2_sl, pur2_tup, rn2_tup, rn2_agg, rn2_osl, rn1_v, rn1_osl, rn1_agg, rn0_v, rn0_sl, rn0, pickObs, pur_v, pur_b, pur_s, pur_nil, pur_sl, deI, deIs_sl, hr]
    · have hz' : ¬ q - l[k].nm.size < 0 := by omega
      simp -implicitDefEqProofs [List.lookup_cons, and_assoc, pick_and, pick_or, if_and, if_or, h, hx, q0, q1, hz, hz', hwk]
      refine ⟨k + 1, by omega, by rw [hs]; omega, by omega, ?_⟩
      have e : m - (l.length : Int) - szN (l.take (k + 1)) = q - l[k].nm.size := by rw [hs, hq]; omega
      rw [e]
      exact Wk.tl (by simp [hold, upd, tl_cons])
  · have e : k = l.length := by omega
    subst e
    rw [List.take_length] at *
    have hr : ¬ m < chSz l := by unfold chSz; omega
    simp -implicitDefEqProofs [List.lookup_cons, and_assoc, pick_and, pick_or, if_and, if_or]
    refine fin_pure (by simp) ?_
    simp -implicitDefEqProofs [pur2_i, pur2_b, pur2_s, pur2_nil, pur2_sl, pur2_tup, rn2_tup, rn2_agg, rn2_osl, rn1_v, rn1_osl, rn1_agg, rn0_v, rn0_sl, rn0, pickObs, pur_v, pur_b, pur_s, pur_nil, pur_sl, deI, deIs_sl, hr]
    unfold chSz; omega
def F10 : Fun := ⟨fun xs => xs = [.sl (tR (deT (xs.getD 0 .top) : List Chg))] ∧ (fun (l : List Chg) => (l.length ≤ 1048576)) (deT (xs.getD 0 .top) : List Chg), fun xs => (fun (l : List Chg) => ((.osl 0 0, [tOb 61 16 l]) : X × List Ob)) (deT (xs.getD 0 .top) : List Chg)⟩
theorem F10_in {xs : List X} (h : F10.pre xs) : ∃ (l : List Chg), xs = [.sl (tR l)] ∧ (l.length ≤ 1048576) := ⟨_, h.1, h.2⟩
theorem F10_res (l : List Chg) : F10.res [.sl (tR l)] = (.osl 0 0, [tOb 61 16 l]) := by simp [F10]
theorem F10_mk (l : List Chg) (h : l.length ≤ 1048576) : F10.pre [.sl (tR l)] := by simpa [F10] using h
theorem c10 : GenCA K Tryz.prog 10 F10 := by
  refine contractA Tryz.mix K [(30, F30)] [] (by simp [c30]) (by simp) Tryz.func10 rfl (by decide) ?_
  intro xs hxs
  obtain ⟨l, rfl, hp⟩ := F10_in hxs
  rw [F10_res]
  refine ⟨by rw [Tryz.ntmps10]; simp, ?_⟩
  simp -implicitDefEqProofs [Tryz.f10, F30, List.lookup_cons, and_assoc, pick_and, pick_or, if_and, if_or, eMake]
  refine ⟨by omega, by omega, ?_⟩
  refine loopP_inv (fun k : Nat => ⟨23, tl [(0, .sl (tR l)), (3, .osl 0 0), (4, I k)], [tOb 61 16 (l.take k ++ List.replicate (l.length - k) Chg.z)]⟩) (fun k => k ≤ l.length) (fun k => l.length - k) 0 (Nat.zero_le _) ?_ ?_
  · simp only [tOb, List.take_zero, List.nil_append, Nat.sub_zero, ← tR_replicate]
    exact Wk.tl (by simp [hold, upd, tl_cons])
  intro k hk
  by_cases h : k < l.length
  · have hk' : k < min k l.length + (l.length - k) := by omega
    have hset := tR_set (l.take k ++ List.replicate (l.length - k) Chg.z) k l[k]
    rw [fillT Chg.z l k h] at hset
    simp only [Chg.rXe] at hset
    simp -implicitDefEqProofs [List.lookup_cons, and_assoc, pick_and, pick_or, if_and, if_or, h, F30, hk', tOb]
    refine ⟨k + 1, by omega, by omega, ?_⟩
    rw [hset]
    exact Wk.tl (by simp [hold, upd, tl_cons, w64_nat (show k < 4611686018427387904 by omega)])
  · simp -implicitDefEqProofs [List.lookup_cons, and_assoc, pick_and, pick_or, if_and, if_or, h, tOb]
    have : l.length - k = 0 := by omega
    rw [this, List.take_of_length_le (by omega), List.replicate_zero, List.append_nil]
    refine fin_own [0] (by simp [pickOk, -List.all_eq_true, tR_ok]) ?_
    simp -implicitDefEqProofs [pur2_i, pur2_b, pur2_s, pur2_nil, pur2_sl, pur2_tup, rn2_tup, rn2_agg, rn2_osl, rn1_v, rn1_osl, rn1_agg, rn0_v, rn0_sl, rn0, pickObs, pur_v, pur_b, pur_s, pur_nil, pur_sl, deI, deIs_sl, tOb]

end Go.Proofs
