/-
  What is proved here: the texts of numbers with a unit, on both sides. Condition: none.
-/
import Derived.Test.YtbiakbagcdghlaaDoorT2v
namespace Go.Proofs
open Go.Abs
set_option linter.unusedSimpArgs false
set_option linter.unnecessarySimpa false
set_option linter.unusedVariables false
set_option maxHeartbeats 4000000
set_option maxRecDepth 20000

def numB (n : Nat) : ByteArray := if 0 < n ∧ n % 1000000 = 0 then decB (n / 1000000) ++ ⟨#[109]⟩ else if 0 < n ∧ n % 1000 = 0 then decB (n / 1000) ++ ⟨#[107]⟩ else decB n
theorem numB_size (n : Nat) (h : n ≤ 1000000000) : (numB n).size ≤ 20 := by
  have e1 : (ByteArray.mk #[109]).size = 1 := rfl
  have e2 : (ByteArray.mk #[107]).size = 1 := rfl
  unfold numB
  split
  · rw [ByteArray.size_append, e1]; have := decB_size (n / 1000000) (by omega); omega
  · split
    · rw [ByteArray.size_append, e2]; have := decB_size (n / 1000) (by omega); omega
    · have := decB_size n (by omega); omega
theorem mod_at (n d : Nat) : (n : Int).tmod (d : Int) = ((n % d : Nat) : Int) := (Int.ofNat_tmod n d).symm
def F16 : Fun := ⟨fun xs => xs = [I (deI (xs.getD 0 .top) : Int)] ∧ (fun (n : Int) => (0 ≤ n ∧ n ≤ 1000000000)) (deI (xs.getD 0 .top) : Int), fun xs => (fun (n : Int) => ((.v (.string (numB n.toNat)), []) : X × List Ob)) (deI (xs.getD 0 .top) : Int)⟩
theorem F16_in {xs : List X} (h : F16.pre xs) : ∃ (n : Int), xs = [I n] ∧ (0 ≤ n ∧ n ≤ 1000000000) := ⟨_, h.1, h.2⟩
theorem F16_res (n : Int) : F16.res [I n] = (.v (.string (numB n.toNat)), []) := by simp [F16]
theorem F16_mk (n : Int) (h : 0 ≤ n ∧ n ≤ 1000000000) : F16.pre [I n] := by simpa [F16] using h
theorem c16 : GenCA K Tryd.prog 16 F16 := by
  refine contractA Tryd.mix K [(34, F34)] [] (by simp [c34]) (by simp) Tryd.func16 rfl (by decide) ?_
  intro xs hxs
  obtain ⟨n, rfl, hp⟩ := F16_in hxs
  rw [F16_res]
  refine ⟨by rw [Tryd.ntmps16]; simp, ?_⟩
  obtain ⟨h0, h1⟩ := hp
  obtain ⟨n, rfl⟩ := Int.eq_ofNat_of_zero_le h0
  have e1 : (ByteArray.mk #[109]).size = 1 := rfl
  have e2 : (ByteArray.mk #[107]).size = 1 := rfl
  obtain ⟨m6, hm6⟩ : ∃ m, n % 1000000 = m := ⟨_, rfl⟩
  obtain ⟨m3, hm3⟩ : ∃ m, n % 1000 = m := ⟨_, rfl⟩
  have t6 : (n : Int).tmod 1000000 = (m6 : Int) := by rw [← hm6]; exact mod_at n 1000000
  have t3 : (n : Int).tmod 1000 = (m3 : Int) := by rw [← hm3]; exact mod_at n 1000
  have w6 : IntKind.i64.wrap ((n : Int) / 1000000) = (n : Int) / 1000000 := w64 (by omega) (by omega)
  have w3 : IntKind.i64.wrap ((n : Int) / 1000) = (n : Int) / 1000 := w64 (by omega) (by omega)
  have a6 : (0 : Int) ≤ (n : Int) / 1000000 := by omega
  have a3 : (0 : Int) ≤ (n : Int) / 1000 := by omega
  have b6 : (n : Int) / 1000000 ≤ 9223372036854775807 := by omega
  have b3 : (n : Int) / 1000 ≤ 9223372036854775807 := by omega
  have b0 : (n : Int) ≤ 9223372036854775807 := by omega
  have c6 : ((n : Int) / 1000000).toNat = n / 1000000 := by omega
  have c3 : ((n : Int) / 1000).toNat = n / 1000 := by omega
  have z6 := decB_size (n / 1000000) (by omega)
  have z3 := decB_size (n / 1000) (by omega)
  have y6 : (decB (n / 1000000)).size + 1 ≤ 9223372036854775807 := by omega
  have y3 : (decB (n / 1000)).size + 1 ≤ 9223372036854775807 := by omega
  by_cases hn : 0 < n
  · by_cases h6 : m6 = 0
    · have hR : numB n = decB (n / 1000000) ++ ⟨#[109]⟩ := by unfold numB; rw [if_pos ⟨hn, by omega⟩]
      simp -implicitDefEqProofs [Tryd.f16, F34, List.lookup_cons, and_assoc, pick_and, pick_or, if_and, if_or, hn, t6, h6, w6, a6, b6, c6, y6, e1]
      refine fin_pure (by simp) ?_
      simp -implicitDefEqProofs [pur2_i, pur2_b, pur2_s, pur2_nil, pur2_sl, pur2_tup, rn2_tup, rn2_agg, rn2_osl, rn1_v, rn1_osl, rn1_agg, rn0_v, rn0_sl, rn0, pickObs, pur_v, pur_b, pur_s, pur_nil, pur_sl, deI, deIs_sl, hR]
    · by_cases h3 : m3 = 0
      · have hR : numB n = decB (n / 1000) ++ ⟨#[107]⟩ := by unfold numB; rw [if_neg (by omega), if_pos ⟨hn, by omega⟩]
        simp -implicitDefEqProofs [Tryd.f16, F34, List.lookup_cons, and_assoc, pick_and, pick_or, if_and, if_or, hn, t6, h6, t3, h3, w3, a3, b3, c3, y3, e2]
        refine fin_pure (by simp) ?_
        simp -implicitDefEqProofs [pur2_i, pur2_b, pur2_s, pur2_nil, pur2_sl, pur2_tup, rn2_tup, rn2_agg, rn2_osl, rn1_v, rn1_osl, rn1_agg, rn0_v, rn0_sl, rn0, pickObs, pur_v, pur_b, pur_s, pur_nil, pur_sl, deI, deIs_sl, hR]
      · have hR : numB n = decB n := by unfold numB; rw [if_neg (by omega), if_neg (by omega)]
        simp -implicitDefEqProofs [Tryd.f16, F34, List.lookup_cons, and_assoc, pick_and, pick_or, if_and, if_or, hn, t6, h6, t3, h3, b0]
        refine fin_pure (by simp) ?_
        simp -implicitDefEqProofs [pur2_i, pur2_b, pur2_s, pur2_nil, pur2_sl, pur2_tup, rn2_tup, rn2_agg, rn2_osl, rn1_v, rn1_osl, rn1_agg, rn0_v, rn0_sl, rn0, pickObs, pur_v, pur_b, pur_s, pur_nil, pur_sl, deI, deIs_sl, hR]
  · have hR : numB n = decB n := by unfold numB; rw [if_neg (by omega), if_neg (by omega)]
    simp -implicitDefEqProofs [Tryd.f16, F34, List.lookup_cons, and_assoc, pick_and, pick_or, if_and, if_or, hn, b0]
    refine fin_pure (by simp) ?_
    simp -implicitDefEqProofs [pur2_i, pur2_b, pur2_s, pur2_nil, pur2_sl, pur2_tup, rn2_tup, rn2_agg, rn2_osl, rn1_v, rn1_osl, rn1_agg, rn0_v, rn0_sl, rn0, pickObs, pur_v, pur_b, pur_s, pur_nil, pur_sl, deI, deIs_sl, hR]
def F37 : Fun := ⟨fun xs => xs = [.sl (iR (deIs (xs.getD 0 .top) : List Int))] ∧ (fun (l : List Int) => (l.length ≤ 1048576 ∧ ∀ n ∈ l, 0 ≤ n ∧ n ≤ 1000000000)) (deIs (xs.getD 0 .top) : List Int), fun xs => (fun (l : List Int) => ((.osl 0 0, [⟨9, 1, 0, sR (l.map fun n => numB n.toNat), false, true, none⟩]) : X × List Ob)) (deIs (xs.getD 0 .top) : List Int)⟩
theorem F37_in {xs : List X} (h : F37.pre xs) : ∃ (l : List Int), xs = [.sl (iR l)] ∧ (l.length ≤ 1048576 ∧ ∀ n ∈ l, 0 ≤ n ∧ n ≤ 1000000000) := ⟨_, h.1, h.2⟩
theorem F37_res (l : List Int) : F37.res [.sl (iR l)] = (.osl 0 0, [⟨9, 1, 0, sR (l.map fun n => numB n.toNat), false, true, none⟩]) := by simp [F37]
theorem F37_mk (l : List Int) (h : l.length ≤ 1048576 ∧ ∀ n ∈ l, 0 ≤ n ∧ n ≤ 1000000000) : F37.pre [.sl (iR l)] := by simpa [F37] using h
theorem c37 : GenCA K Tryd.prog 37 F37 := by
  refine contractA Tryd.mix K [(16, F16)] [] (by simp [c16]) (by simp) Tryd.func37 rfl (by decide) ?_
  intro xs hxs
  obtain ⟨l, rfl, hp⟩ := F37_in hxs
  rw [F37_res]
  refine ⟨by rw [Tryd.ntmps37]; simp, ?_⟩
  obtain ⟨hl, hr⟩ := hp
  simp -implicitDefEqProofs [Tryd.f37, List.lookup_cons, and_assoc, pick_and, pick_or, if_and, if_or, eBuildSlice, srcRows, srcOk, chunk]
  refine loopP_inv (fun k : Nat => ⟨20, tl [(3, .osl 0 0), (7, .sl (iR l)), (8, I l.length), (9, I k)], [⟨9, 1, 0, sR ((l.map fun n => numB n.toNat).take k), false, true, none⟩]⟩) (fun k => k ≤ l.length) (fun k => l.length - k) 0 (Nat.zero_le _) (Wk.tl (by simp [hold, upd, tl_cons])) ?_
  intro k hk
  by_cases h : k < l.length
  · have hw1 := w64n (show k < 4611686018427387904 by omega)
    have hrk := hr l[k] (List.getElem_mem h)
    have hT : (l.map fun n => numB n.toNat).take (k + 1) = (l.map fun n => numB n.toNat).take k ++ [numB l[k].toNat] := by rw [takeS _ k (by simpa using h)]; simp
    simp -implicitDefEqProofs [List.lookup_cons, and_assoc, pick_and, pick_or, if_and, if_or, h, F16, hrk, eAppend, eBuildSlice, srcRows, srcOk, chunk]
    refine ⟨by omega, by omega, k + 1, by omega, by omega, ?_⟩
    rw [show sR ((l.map fun n => numB n.toNat).take k) ++ [[.v (.string (numB l[k].toNat))]] = sR ((l.map fun n => numB n.toNat).take (k + 1)) by rw [hT]; simp [sR]]
    refine Wk.tlP [0] (by simp [pickOk, -List.all_eq_true, sR_ok, ok0]) ?_ ?_
    · simp [pickObs]
    · simp [hold, upd, tl_cons, rn1, rn0, hw1]
  · have e : k = l.length := by omega
    subst e
    rw [show (l.map fun n => numB n.toNat).take l.length = l.map fun n => numB n.toNat from List.take_of_length_le (by simp)]
    simp -implicitDefEqProofs [List.lookup_cons, and_assoc, pick_and, pick_or, if_and, if_or]
    refine fin_own [0] (by simp [pickOk, -List.all_eq_true, sR_ok]) ?_
    simp -implicitDefEqProofs [pur2_i, pur2_b, pur2_s, pur2_nil, pur2_sl, pur2_tup, rn2_tup, rn2_agg, rn2_osl, rn1_v, rn1_osl, rn1_agg, rn0_v, rn0_sl, rn0, pickObs, pur_v, pur_b, pur_s, pur_nil, pur_sl, deI, deIs_sl]
/-! ### the reference's -/
def unitsB : List ByteArray := [⟨#[109]⟩, ⟨#[107]⟩, ⟨#[]⟩]
def F58 : Fun := ⟨fun xs => xs = [] ∧ ((True)), fun xs => (((.osl 0 0, [⟨9, 1, 0, sR unitsB, false, true, none⟩]) : X × List Ob))⟩
theorem F58_in {xs : List X} (h : F58.pre xs) : xs = [] ∧ (True) := h
theorem F58_res  : F58.res [] = (.osl 0 0, [⟨9, 1, 0, sR unitsB, false, true, none⟩]) := by simp [F58]
theorem F58_mk  (h : True) : F58.pre [] := by simpa [F58] using h
theorem c58 : GenCA K Tryd.prog 58 F58 := by
  refine contractA Tryd.mix K [] [] (by simp) (by simp) Tryd.func58 rfl (by decide) ?_
  intro xs hxs
  obtain ⟨rfl, hp⟩ := F58_in hxs
  rw [F58_res]
  refine ⟨by rw [Tryd.ntmps58]; simp, ?_⟩
  simp -implicitDefEqProofs [Tryd.f58, List.lookup_cons, and_assoc, pick_and, pick_or, if_and, if_or, eBuildSlice, srcRows, srcOk, chunk, show List.range 3 = [0, 1, 2] from rfl]
  refine fin_own [0] (by simp [pickOk, ok0]) ?_
  simp -implicitDefEqProofs [pur2_i, pur2_b, pur2_s, pur2_nil, pur2_sl, pur2_tup, rn2_tup, rn2_agg, rn2_osl, rn1_v, rn1_osl, rn1_agg, rn0_v, rn0_sl, rn0, pickObs, pur_v, pur_b, pur_s, pur_nil, pur_sl, deI, deIs_sl, sR, unitsB]
def sizeOfUnit (k : Int) : Int := if k = 0 then 1000000 else if k = 1 then 1000 else 1
def F59 : Fun := ⟨fun xs => xs = [I (deI (xs.getD 0 .top) : Int)] ∧ (fun (k : Int) => (0 ≤ k ∧ k ≤ 2)) (deI (xs.getD 0 .top) : Int), fun xs => (fun (k : Int) => ((I (sizeOfUnit k), []) : X × List Ob)) (deI (xs.getD 0 .top) : Int)⟩
theorem F59_in {xs : List X} (h : F59.pre xs) : ∃ (k : Int), xs = [I k] ∧ (0 ≤ k ∧ k ≤ 2) := ⟨_, h.1, h.2⟩
theorem F59_res (k : Int) : F59.res [I k] = (I (sizeOfUnit k), []) := by simp [F59]
theorem F59_mk (k : Int) (h : 0 ≤ k ∧ k ≤ 2) : F59.pre [I k] := by simpa [F59] using h
theorem c59 : GenCA K Tryd.prog 59 F59 := by
  refine contractA Tryd.mix K [] [] (by simp) (by simp) Tryd.func59 rfl (by decide) ?_
  intro xs hxs
  obtain ⟨k, rfl, hp⟩ := F59_in hxs
  rw [F59_res]
  refine ⟨by rw [Tryd.ntmps59]; simp, ?_⟩
  obtain ⟨h0, h1⟩ := hp
  obtain rfl | rfl | rfl : k = 0 ∨ k = 1 ∨ k = 2 := by omega
  all_goals
    simp -implicitDefEqProofs [Tryd.f59, List.lookup_cons, and_assoc, pick_and, pick_or, if_and, if_or, eBuildSlice, srcRows, srcOk, chunk, show List.range 3 = [0, 1, 2] from rfl]
    refine fin_pure (by simp) ?_
    simp -implicitDefEqProofs [pur2_i, pur2_b, pur2_s, pur2_nil, pur2_sl, pur2_tup, rn2_tup, rn2_agg, rn2_osl, rn1_v, rn1_osl, rn1_agg, rn0_v, rn0_sl, rn0, pickObs, pur_v, pur_b, pur_s, pur_nil, pur_sl, deI, deIs_sl, sizeOfUnit]
end Go.Proofs
