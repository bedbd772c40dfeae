/-
  What is proved here: the texts of numbers, on both sides: decimal ones, ones with a unit. Condition: none.
-/
import Derived.Test.YtlfgjdfecgjphaaGreatDoorT1y
import Derived.Test.YtlfgjdfecgjphaaGreatDoorSHYtlfgjdfecgjphaaGreatDoor
namespace Go.Proofs
open Go.Abs
set_option linter.unusedSimpArgs false
set_option linter.unnecessarySimpa false
set_option linter.unusedVariables false
set_option maxHeartbeats 4000000
set_option maxRecDepth 20000

theorem genWeakT {A : List (Nat × List X)} {P : Program} {f : Nat} {F F' : Fun} (h : GenCA A P f F') (hp : ∀ xs, F.pre xs → F'.pre xs) (hr : ∀ xs, F.pre xs → F'.res xs = F.res xs) : GenCA A P f F :=
  ⟨h.1, fun w S vs xs hx a b c d => by have := h.2 w S vs xs (hp _ hx) a b c d; rwa [hr _ hx] at this⟩
theorem ba_ext {a b : ByteArray} (h : a.data = b.data) : a = b := by cases a; cases b; simp at h; rw [h]
theorem dig_eq (k : Nat) : dig k = ⟨#[UInt8.ofNat (48 + k % 10)]⟩ := by
  have h : IntKind.u8.wrap (48 + ((k % 10 : Nat) : Int)) = ((48 + k % 10 : Nat) : Int) := by rw [IntKind.wrap_u8]; omega
  unfold dig mkS
  rw [h]
  rfl
theorem decB_lt {n : Nat} (h : n < 10) : decB n = dig n := by
  unfold decB
  rw [Lib.decDigits_one h, dig_eq, Nat.mod_eq_of_lt h]
theorem decB_ge {n : Nat} (h : ¬ n < 10) : decB n = decB (n / 10) ++ dig n := by
  rw [dig_eq]
  apply ba_ext
  rw [ByteArray.data_append]
  unfold decB
  rw [Lib.decDigits, dif_neg h]
  simp
theorem nDig_le : ∀ (k u : Nat), u < 10 ^ (k + 1) → Lib.nDigits u ≤ k + 1
  | 0, u, h => Nat.le_of_eq (Lib.nDigits_small (by simpa using h))
  | k + 1, u, h => by
    by_cases hu : u < 10
    · rw [Lib.nDigits_small hu]; omega
    · rw [Lib.nDigits_big hu]
      have := nDig_le k (u / 10) (by rw [Nat.pow_succ] at h; omega)
      omega
theorem decB_sz (n : Nat) : (decB n).size = Lib.nDigits n := by
  rw [← Lib.decDigits_length]
  simp [decB, ByteArray.size]
theorem decB_size (n : Nat) (h : n ≤ 9223372036854775807) : (decB n).size ≤ 19 := by
  rw [decB_sz]
  exact nDig_le 18 n (by omega)
def F51 : Fun := ⟨fun xs => xs = [I (deI (xs.getD 0 .top) : Int)] ∧ (fun (n : Int) => (0 ≤ n ∧ n ≤ 9223372036854775807)) (deI (xs.getD 0 .top) : Int), fun xs => (fun (n : Int) => ((.v (.string (decB n.toNat)), []) : X × List Ob)) (deI (xs.getD 0 .top) : Int)⟩
theorem F51_in {xs : List X} (h : F51.pre xs) : ∃ (n : Int), xs = [I n] ∧ (0 ≤ n ∧ n ≤ 9223372036854775807) := ⟨_, h.1, h.2⟩
theorem F51_res (n : Int) : F51.res [I n] = (.v (.string (decB n.toNat)), []) := by simp [F51]
theorem F51_mk (n : Int) (h : 0 ≤ n ∧ n ≤ 9223372036854775807) : F51.pre [I n] := by simpa [F51] using h
theorem c51 : GenCA K Tryz.prog 51 F51 :=
  genItoa (g := 2) (callFunc_enter Tryz.func51 rfl rfl) (fun n h0 h1 w htab => Any.strconv_Itoa Tryz.laysItoa n h0 h1 w htab) (by unfold K; first | exact List.mem_singleton.2 rfl | exact List.mem_cons_of_mem _ List.mem_cons_self) (by kernel_rfl) fun xs hxs => by
    obtain ⟨n, rfl, h0, h1⟩ := F51_in hxs
    obtain ⟨n, rfl⟩ := Int.eq_ofNat_of_zero_le h0
    exact ⟨n, rfl, by omega, by rw [F51_res]; rfl⟩
/-! ### the reference's decimal text: a function that calls itself -/
def F47 : Fun := ⟨fun xs => xs = [I (deI (xs.getD 0 .top) : Int)] ∧ (fun (n : Int) => (0 ≤ n ∧ n ≤ 9223372036854775807)) (deI (xs.getD 0 .top) : Int), fun xs => (fun (n : Int) => ((.v (.string (decB n.toNat)), []) : X × List Ob)) (deI (xs.getD 0 .top) : Int)⟩
theorem F47_in {xs : List X} (h : F47.pre xs) : ∃ (n : Int), xs = [I n] ∧ (0 ≤ n ∧ n ≤ 9223372036854775807) := ⟨_, h.1, h.2⟩
theorem F47_res (n : Int) : F47.res [I n] = (.v (.string (decB n.toNat)), []) := by simp [F47]
theorem F47_mk (n : Int) (h : 0 ≤ n ∧ n ≤ 9223372036854775807) : F47.pre [I n] := by simpa [F47] using h
def FNn (k : Nat) : Fun := ⟨fun xs => F47.pre xs ∧ (deI (xs.getD 0 .top)).toNat < k, F47.res⟩
theorem cNum : ∀ k, GenCA K Tryz.prog 47 (FNn k)
  | 0 => by
    refine contractA Tryz.mix K [] [] (by simp) (by simp) Tryz.func47 rfl (by decide) ?_
    rintro xs ⟨hxs, hk⟩
    exact absurd hk (Nat.not_lt_zero _)
  | k + 1 => by
    refine contractA Tryz.mix K [(47, FNn k)] [] (by simp [cNum k]) (by simp) Tryz.func47 rfl (by decide) ?_
    rintro xs ⟨hxs, hk⟩
    obtain ⟨n, rfl, h0, h1⟩ := F47_in hxs
    obtain ⟨n, rfl⟩ := Int.eq_ofNat_of_zero_le h0
    have hres : (FNn (k + 1)).res [I (n : Int)] = (.v (.string (decB n)), []) := F47_res (n : Int)
    rw [hres]
    refine ⟨by rw [Tryz.ntmps47]; simp, ?_⟩
    simp at hk
    by_cases h : n < 10
    · have hw : IntKind.i64.wrap (48 + (n : Int)) = 48 + (n : Int) := w64 (by omega) (by omega)
      have hd : mkS [IntKind.u8.wrap (48 + (n : Int))] = decB n := by rw [decB_lt h, dig, Nat.mod_eq_of_lt h]
      have h' : (n : Int) < 10 := by omega
      simp -implicitDefEqProofs [Tryz.f47, List.lookup_cons, and_assoc, pick_and, pick_or, if_and, if_or, h, h', hw, eConv, eBuildSlice, srcRows, srcOk, chunk, bys, hd]
      refine fin_pure (by simp) ?_
      simp -implicitDefEqProofs [pur2_i, pur2_b, pur2_s, pur2_nil, pur2_sl, pur2_tup, rn2_tup, rn2_agg, rn2_osl, rn1_v, rn1_osl, rn1_agg, rn0_v, rn0_sl, rn0, pickObs, pur_v, pur_b, pur_s, pur_nil, pur_sl, deI, deIs_sl]
    · obtain ⟨m, hm⟩ : ∃ m, n % 10 = m := ⟨_, rfl⟩
      have hw1 : IntKind.i64.wrap (48 + (n : Int).tmod 10) = 48 + (m : Int) := by
        have : (n : Int).tmod 10 = (m : Int) := by rw [← hm]; exact (Int.ofNat_tmod n 10).symm
        rw [this, w64 (by omega) (by omega)]
      have hw2 : IntKind.i64.wrap ((n : Int) / 10) = ((n / 10 : Nat) : Int) := by rw [w64 (by omega) (by omega)]; omega
      have hd : mkS [IntKind.u8.wrap (48 + (m : Int))] = dig n := by rw [dig, hm]
      have hD := decB_ge h
      have hds := dig_size n
      have hsz := decB_size (n / 10) (by omega)
      have hsz2 : (decB (n / 10)).size + 1 ≤ 9223372036854775807 := by omega
      have h' : ¬ (n : Int) < 10 := by omega
      have hlt : n / 10 < k := by omega
      have hq0 : (0 : Int) ≤ (n : Int) / 10 := by omega
      have hq1 : (n : Int) / 10 ≤ 9223372036854775807 := by omega
      have hqt : ((n : Int) / 10).toNat = n / 10 := by omega
      simp -implicitDefEqProofs [Tryz.f47, List.lookup_cons, and_assoc, pick_and, pick_or, if_and, if_or, h, h', hw1, hw2, FNn, F47, hlt, eConv, eBuildSlice, srcRows, srcOk, chunk, bys, splice, hd, hds, hsz2]
      refine drawP_all _ (by decide) ?_
      simp -implicitDefEqProofs [Tryz.f47, List.lookup_cons, and_assoc, pick_and, pick_or, if_and, if_or, h, h', hw1, hw2, FNn, F47, hlt, eConv, eBuildSlice, srcRows, srcOk, chunk, bys, splice, hd, hds, hsz2, eBSD, hq0, hq1, hqt]
      refine ⟨rfl, ?_⟩
      rw [← hD]
      refine fin_pure (by simp) ?_
      simp -implicitDefEqProofs [pur2_i, pur2_b, pur2_s, pur2_nil, pur2_sl, pur2_tup, rn2_tup, rn2_agg, rn2_osl, rn1_v, rn1_osl, rn1_agg, rn0_v, rn0_sl, rn0, pickObs, pur_v, pur_b, pur_s, pur_nil, pur_sl, deI, deIs_sl]
theorem c47 : GenCA K Tryz.prog 47 F47 := genWeakT (cNum 9223372036854775808) (fun xs h => ⟨h, by
    obtain ⟨n, rfl, h0, h1⟩ := F47_in h
    simp
    omega⟩) fun _ _ => rfl
end Go.Proofs
