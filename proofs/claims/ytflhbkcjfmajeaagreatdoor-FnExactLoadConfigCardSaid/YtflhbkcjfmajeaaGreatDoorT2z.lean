/-
  What is proved here: the texts of numbers, on both sides: decimal ones, ones with a unit. Condition: none.
-/
import Derived.Test.YtflhbkcjfmajeaaGreatDoorT1z
import Derived.Test.YtflhbkcjfmajeaaGreatDoorSHYtflhbkcjfmajeaaGreatDoor
namespace Go.Proofs
open Go.Abs
set_option linter.unusedSimpArgs false
set_option linter.unnecessarySimpa false
set_option linter.unusedVariables false
set_option maxHeartbeats 4000000
set_option maxRecDepth 20000

theorem genWeakT {A : List (Nat × List X)} {P : Program} {f : Nat} {F F' : Fun} (h : GenCA A P f F') (hp : ∀ xs, F.pre xs → F'.pre xs) (hr : ∀ xs, F.pre xs → F'.res xs = F.res xs) : GenCA A P f F :=
  ⟨h.1, fun w S vs xs hx a b c d => by have := h.2 w S vs xs (hp _ hx) a b c d; rwa [hr _ hx] at this⟩
theorem ba_ext {a b : ByteArray} (h : a.data = b.data) : a = b := by cases a; cases b; simp at h; rw [h]
theorem dig_eq (k : Nat) : dig k = ⟨#[UInt8.ofNat (48 + k % 10)]⟩ := by
  have h : IntKind.u8.wrap (48 + ((k % 10 : Nat) : Int)) = ((48 + k % 10 : Nat) : Int) := by rw [IntKind.wrap_u8]; omega
  unfold dig mkS
  rw [h]
  rfl
theorem decB_lt {n : Nat} (h : n < 10) : decB n = dig n := by
  unfold decB
  rw [Lib.decDigits_one h, dig_eq, Nat.mod_eq_of_lt h]
theorem decB_ge {n : Nat} (h : ¬ n < 10) : decB n = decB (n / 10) ++ dig n := by
  rw [dig_eq]
  apply ba_ext
  rw [ByteArray.data_append]
  unfold decB
  rw [Lib.decDigits, dif_neg h]
  simp
theorem nDig_le : ∀ (k u : Nat), u < 10 ^ (k + 1) → Lib.nDigits u ≤ k + 1
  | 0, u, h => Nat.le_of_eq (Lib.nDigits_small (by simpa using h))
  | k + 1, u, h => by
    by_cases hu : u < 10
    · rw [Lib.nDigits_small hu]; omega
    · rw [Lib.nDigits_big hu]
      have := nDig_le k (u / 10) (by rw [Nat.pow_succ] at h; omega)
      omega
theorem decB_sz (n : Nat) : (decB n).size = Lib.nDigits n := by
  rw [← Lib.decDigits_length]
  simp [decB, ByteArray.size]
theorem decB_size (n : Nat) (h : n ≤ 9223372036854775807) : (decB n).size ≤ 19 := by
  rw [decB_sz]
  exact nDig_le 18 n (by omega)
def F84 : Fun := ⟨fun xs => xs = [I (deI (xs.getD 0 .top) : Int)] ∧ (fun (n : Int) => (0 ≤ n ∧ n ≤ 9223372036854775807)) (deI (xs.getD 0 .top) : Int), fun xs => (fun (n : Int) => ((.v (.string (decB n.toNat)), []) : X × List Ob)) (deI (xs.getD 0 .top) : Int)⟩
theorem F84_in {xs : List X} (h : F84.pre xs) : ∃ (n : Int), xs = [I n] ∧ (0 ≤ n ∧ n ≤ 9223372036854775807) := ⟨_, h.1, h.2⟩
theorem F84_res (n : Int) : F84.res [I n] = (.v (.string (decB n.toNat)), []) := by simp [F84]
theorem F84_mk (n : Int) (h : 0 ≤ n ∧ n ≤ 9223372036854775807) : F84.pre [I n] := by simpa [F84] using h
theorem c84 : GenCA K Tryz.prog 84 F84 :=
  genItoa (g := 1) (callFunc_enter Tryz.func84 rfl rfl) (fun n h0 h1 w htab => Any.strconv_Itoa Tryz.laysItoa n h0 h1 w htab) (by unfold K; first | exact List.mem_singleton.2 rfl | exact List.mem_cons_of_mem _ List.mem_cons_self) (by kernel_rfl) fun xs hxs => by
    obtain ⟨n, rfl, h0, h1⟩ := F84_in hxs
    obtain ⟨n, rfl⟩ := Int.eq_ofNat_of_zero_le h0
    exact ⟨n, rfl, by omega, by rw [F84_res]; rfl⟩
/-! ### the reference's decimal text: a function that calls itself -/
end Go.Proofs
