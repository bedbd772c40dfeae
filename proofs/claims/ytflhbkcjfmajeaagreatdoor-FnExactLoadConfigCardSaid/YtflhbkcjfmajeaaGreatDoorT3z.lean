/-
  What is proved here: the texts of numbers with a unit, on both sides. Condition: none.
-/
import Derived.Test.YtflhbkcjfmajeaaGreatDoorT2z
namespace Go.Proofs
open Go.Abs
set_option linter.unusedSimpArgs false
set_option linter.unnecessarySimpa false
set_option linter.unusedVariables false
set_option maxHeartbeats 4000000
set_option maxRecDepth 20000

def numB (n : Nat) : ByteArray := if 0 < n ∧ n % 1000000 = 0 then decB (n / 1000000) ++ ⟨#[109]⟩ else if 0 < n ∧ n % 1000 = 0 then decB (n / 1000) ++ ⟨#[107]⟩ else decB n
theorem numB_size (n : Nat) (h : n ≤ 1000000000) : (numB n).size ≤ 20 := by
  have e1 : (ByteArray.mk #[109]).size = 1 := rfl
  have e2 : (ByteArray.mk #[107]).size = 1 := rfl
  unfold numB
  split
  · rw [ByteArray.size_append, e1]; have := decB_size (n / 1000000) (by omega); omega
  · split
    · rw [ByteArray.size_append, e2]; have := decB_size (n / 1000) (by omega); omega
    · have := decB_size n (by omega); omega
theorem mod_at (n d : Nat) : (n : Int).tmod (d : Int) = ((n % d : Nat) : Int) := (Int.ofNat_tmod n d).symm
def F109 : Fun := ⟨fun xs => xs = [I (deI (xs.getD 0 .top) : Int)] ∧ (fun (n : Int) => (0 ≤ n ∧ n ≤ 1000000000)) (deI (xs.getD 0 .top) : Int), fun xs => (fun (n : Int) => ((.v (.string (numB n.toNat)), []) : X × List Ob)) (deI (xs.getD 0 .top) : Int)⟩
theorem F109_in {xs : List X} (h : F109.pre xs) : ∃ (n : Int), xs = [I n] ∧ (0 ≤ n ∧ n ≤ 1000000000) := ⟨_, h.1, h.2⟩
theorem F109_res (n : Int) : F109.res [I n] = (.v (.string (numB n.toNat)), []) := by simp [F109]
theorem F109_mk (n : Int) (h : 0 ≤ n ∧ n ≤ 1000000000) : F109.pre [I n] := by simpa [F109] using h
theorem c109 : GenCA K Tryz.prog 109 F109 := by
  refine contractA Tryz.mix K [(84, F84)] [] (by simp [c84]) (by simp) Tryz.func109 rfl (by decide) ?_
  intro xs hxs
  obtain ⟨n, rfl, hp⟩ := F109_in hxs
  rw [F109_res]
  refine ⟨by rw [Tryz.ntmps109]; simp, ?_⟩
  obtain ⟨h0, h1⟩ := hp
  obtain ⟨n, rfl⟩ := Int.eq_ofNat_of_zero_le h0
  have e1 : (ByteArray.mk #[109]).size = 1 := rfl
  have e2 : (ByteArray.mk #[107]).size = 1 := rfl
  obtain ⟨m6, hm6⟩ : ∃ m, n % 1000000 = m := ⟨_, rfl⟩
  obtain ⟨m3, hm3⟩ : ∃ m, n % 1000 = m := ⟨_, rfl⟩
  have t6 : (n : Int).tmod 1000000 = (m6 : Int) := by rw [← hm6]; exact mod_at n 1000000
  have t3 : (n : Int).tmod 1000 = (m3 : Int) := by rw [← hm3]; exact mod_at n 1000
  have w6 : IntKind.i64.wrap ((n : Int) / 1000000) = (n : Int) / 1000000 := w64 (by omega) (by omega)
  have w3 : IntKind.i64.wrap ((n : Int) / 1000) = (n : Int) / 1000 := w64 (by omega) (by omega)
  have a6 : (0 : Int) ≤ (n : Int) / 1000000 := by omega
  have a3 : (0 : Int) ≤ (n : Int) / 1000 := by omega
  have b6 : (n : Int) / 1000000 ≤ 9223372036854775807 := by omega
  have b3 : (n : Int) / 1000 ≤ 9223372036854775807 := by omega
  have b0 : (n : Int) ≤ 9223372036854775807 := by omega
  have c6 : ((n : Int) / 1000000).toNat = n / 1000000 := by omega
  have c3 : ((n : Int) / 1000).toNat = n / 1000 := by omega
  have z6 := decB_size (n / 1000000) (by omega)
  have z3 := decB_size (n / 1000) (by omega)
  have y6 : (decB (n / 1000000)).size + 1 ≤ 9223372036854775807 := by omega
  have y3 : (decB (n / 1000)).size + 1 ≤ 9223372036854775807 := by omega
  by_cases hn : 0 < n
  · by_cases h6 : m6 = 0
    · have hR : numB n = decB (n / 1000000) ++ ⟨#[109]⟩ := by unfold numB; rw [if_pos ⟨hn, by omega⟩]
      simp -implicitDefEqProofs [Tryz.f109, F84, List.lookup_cons, and_assoc, pick_and, pick_or, if_and, if_or, hn, t6, h6, w6, a6, b6, c6, y6, e1]
      refine fin_pure (by simp) ?_
      simp -implicitDefEqProofs [pur2_i, pur2_b, pur2_s, pur2_nil, pur2_sl, pur2_tup, rn2_tup, rn2_agg, rn2_osl, rn1_v, rn1_osl, rn1_agg, rn0_v, rn0_sl, rn0, pickObs, pur_v, pur_b, pur_s, pur_nil, pur_sl, deI, deIs_sl, hR]
    · by_cases h3 : m3 = 0
      · have hR : numB n = decB (n / 1000) ++ ⟨#[107]⟩ := by unfold numB; rw [if_neg (by omega), if_pos ⟨hn, by omega⟩]
        simp -implicitDefEqProofs [Tryz.f109, F84, List.lookup_cons, and_assoc, pick_and, pick_or, if_and, if_or, hn, t6, h6, t3, h3, w3, a3, b3, c3, y3, e2]
        refine fin_pure (by simp) ?_
        simp -implicitDefEqProofs [pur2_i, pur2_b, pur2_s, pur2_nil, pur2_sl, pur2_tup, rn2_tup, rn2_agg, rn2_osl, rn1_v, rn1_osl, rn1_agg, rn0_v, rn0_sl, rn0, pickObs, pur_v, pur_b, pur_s, pur_nil, pur_sl, deI, deIs_sl, hR]
      · have hR : numB n = decB n := by unfold numB; rw [if_neg (by omega), if_neg (by omega)]
        simp -implicitDefEqProofs [Tryz.f109, F84, List.lookup_cons, and_assoc, pick_and, pick_or, if_and, if_or, hn, t6, h6, t3, h3, b0]
        refine fin_pure (by simp) ?_
        simp -implicitDefEqProofs [pur2_i, pur2_b, pur2_s, pur2_nil, pur2_sl, pur2_tup, rn2_tup, rn2_agg, rn2_osl, rn1_v, rn1_osl, rn1_agg, rn0_v, rn0_sl, rn0, pickObs, pur_v, pur_b, pur_s, pur_nil, pur_sl, deI, deIs_sl, hR]
  · have hR : numB n = decB n := by unfold numB; rw [if_neg (by omega), if_neg (by omega)]
    simp -implicitDefEqProofs [Tryz.f109, F84, List.lookup_cons, and_assoc, pick_and, pick_or, if_and, if_or, hn, b0]
    refine fin_pure (by simp) ?_
    simp -implicitDefEqProofs [pur2_i, pur2_b, pur2_s, pur2_nil, pur2_sl, pur2_tup, rn2_tup, rn2_agg, rn2_osl, rn1_v, rn1_osl, rn1_agg, rn0_v, rn0_sl, rn0, pickObs, pur_v, pur_b, pur_s, pur_nil, pur_sl, deI, deIs_sl, hR]
/-! ### the reference's -/
end Go.Proofs
