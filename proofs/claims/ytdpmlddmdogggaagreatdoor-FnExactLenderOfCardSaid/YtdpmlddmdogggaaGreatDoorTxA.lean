/-
  What is proved here: the digits of a number as a text; the contract of the law's markText. Condition: none.
  What is proved here: the texts of numbers, on both sides: decimal ones, ones with a unit. Condition: none.
  What is proved here: the texts of numbers with a unit, on both sides. Condition: none.
  What is proved here: the reference's texts of numbers with a unit; strings.Join out of the shelf's contract. Condition: none.
-/
import Derived.Test.YtdpmlddmdogggaaGreatDoorKXYtdpmlddmdogggaaGreatDoor
import Derived.Test.YtdpmlddmdogggaaGreatDoorAbsF
import Derived.Test.YtdpmlddmdogggaaGreatDoorSHYtdpmlddmdogggaaGreatDoor
set_option linter.unusedVariables false
set_option linter.unusedSimpArgs false
set_option linter.unnecessarySimpa false
set_option maxHeartbeats 4000000
set_option maxRecDepth 20000
namespace Go.Proofs
open Go.Abs
@[simp] theorem bsU : byteSl Tryz.prog 165 = true := by kernel_rfl
end Go.Proofs
namespace Go.Proofs
open Go.Abs
theorem ba_ext {a b : ByteArray} (h : a.data = b.data) : a = b := by cases a; cases b; simp at h; rw [h]
theorem nDig_le : ∀ (k u : Nat), u < 10 ^ (k + 1) → Lib.nDigits u ≤ k + 1
  | 0, u, h => Nat.le_of_eq (Lib.nDigits_small (by simpa using h))
  | k + 1, u, h => by
    by_cases hu : u < 10
    · rw [Lib.nDigits_small hu]; omega
    · rw [Lib.nDigits_big hu]
      have := nDig_le k (u / 10) (by rw [Nat.pow_succ] at h; omega)
      omega
theorem decB_sz (n : Nat) : (decB n).size = Lib.nDigits n := by
  rw [← Lib.decDigits_length]
  simp [decB, ByteArray.size]
theorem decB_size (n : Nat) (h : n ≤ 9223372036854775807) : (decB n).size ≤ 19 := by
  rw [decB_sz]
  exact nDig_le 18 n (by omega)
def F151 : Fun := ⟨fun xs => xs = [I (deI (xs.getD 0 .top) : Int)] ∧ (fun (n : Int) => (0 ≤ n ∧ n ≤ 9223372036854775807)) (deI (xs.getD 0 .top) : Int), fun xs => (fun (n : Int) => ((.v (.string (decB n.toNat)), []) : X × List Ob)) (deI (xs.getD 0 .top) : Int)⟩
theorem F151_in {xs : List X} (h : F151.pre xs) : ∃ (n : Int), xs = [I n] ∧ (0 ≤ n ∧ n ≤ 9223372036854775807) := ⟨_, h.1, h.2⟩
theorem F151_res (n : Int) : F151.res [I n] = (.v (.string (decB n.toNat)), []) := by simp [F151]
theorem c151 : GenCA K Tryz.prog 151 F151 :=
  genItoa (g := 1) (callFunc_enter Tryz.func151 rfl rfl) (fun n h0 h1 w htab => Any.strconv_Itoa Tryz.laysItoa n h0 h1 w htab) (by unfold K; first | exact List.mem_singleton.2 rfl | exact List.mem_cons_of_mem _ List.mem_cons_self) (by kernel_rfl) fun xs hxs => by
    obtain ⟨n, rfl, h0, h1⟩ := F151_in hxs
    obtain ⟨n, rfl⟩ := Int.eq_ofNat_of_zero_le h0
    exact ⟨n, rfl, by omega, by rw [F151_res]; rfl⟩
end Go.Proofs
namespace Go.Proofs
open Go.Abs
def numB (n : Nat) : ByteArray := if 0 < n ∧ n % 1000000 = 0 then decB (n / 1000000) ++ ⟨#[109]⟩ else if 0 < n ∧ n % 1000 = 0 then decB (n / 1000) ++ ⟨#[107]⟩ else decB n
theorem numB_size (n : Nat) (h : n ≤ 1000000000) : (numB n).size ≤ 20 := by
  have e1 : (ByteArray.mk #[109]).size = 1 := rfl
  have e2 : (ByteArray.mk #[107]).size = 1 := rfl
  unfold numB
  split
  · rw [ByteArray.size_append, e1]; have := decB_size (n / 1000000) (by omega); omega
  · split
    · rw [ByteArray.size_append, e2]; have := decB_size (n / 1000) (by omega); omega
    · have := decB_size n (by omega); omega
theorem mod_at (n d : Nat) : (n : Int).tmod (d : Int) = ((n % d : Nat) : Int) := (Int.ofNat_tmod n d).symm
def F181 : Fun := ⟨fun xs => xs = [I (deI (xs.getD 0 .top) : Int)] ∧ (fun (n : Int) => (0 ≤ n ∧ n ≤ 1000000000)) (deI (xs.getD 0 .top) : Int), fun xs => (fun (n : Int) => ((.v (.string (numB n.toNat)), []) : X × List Ob)) (deI (xs.getD 0 .top) : Int)⟩
theorem F181_in {xs : List X} (h : F181.pre xs) : ∃ (n : Int), xs = [I n] ∧ (0 ≤ n ∧ n ≤ 1000000000) := ⟨_, h.1, h.2⟩
theorem F181_res (n : Int) : F181.res [I n] = (.v (.string (numB n.toNat)), []) := by simp [F181]
theorem c181 : GenCA K Tryz.prog 181 F181 := by
  refine contractA Tryz.mix K [(151, F151)] [] (by simp [c151]) (by simp) Tryz.func181 rfl (by decide) ?_
  intro xs hxs
  obtain ⟨n, rfl, hp⟩ := F181_in hxs
  rw [F181_res]
  refine ⟨by rw [Tryz.ntmps181]; simp, ?_⟩
  obtain ⟨h0, h1⟩ := hp
  obtain ⟨n, rfl⟩ := Int.eq_ofNat_of_zero_le h0
  have e1 : (ByteArray.mk #[109]).size = 1 := rfl
  have e2 : (ByteArray.mk #[107]).size = 1 := rfl
  obtain ⟨m6, hm6⟩ : ∃ m, n % 1000000 = m := ⟨_, rfl⟩
  obtain ⟨m3, hm3⟩ : ∃ m, n % 1000 = m := ⟨_, rfl⟩
  have t6 : (n : Int).tmod 1000000 = (m6 : Int) := by rw [← hm6]; exact mod_at n 1000000
  have t3 : (n : Int).tmod 1000 = (m3 : Int) := by rw [← hm3]; exact mod_at n 1000
  have w6 : IntKind.i64.wrap ((n : Int) / 1000000) = (n : Int) / 1000000 := w64 (by omega) (by omega)
  have w3 : IntKind.i64.wrap ((n : Int) / 1000) = (n : Int) / 1000 := w64 (by omega) (by omega)
  have a6 : (0 : Int) ≤ (n : Int) / 1000000 := by omega
  have a3 : (0 : Int) ≤ (n : Int) / 1000 := by omega
  have b6 : (n : Int) / 1000000 ≤ 9223372036854775807 := by omega
  have b3 : (n : Int) / 1000 ≤ 9223372036854775807 := by omega
  have b0 : (n : Int) ≤ 9223372036854775807 := by omega
  have c6 : ((n : Int) / 1000000).toNat = n / 1000000 := by omega
  have c3 : ((n : Int) / 1000).toNat = n / 1000 := by omega
  have z6 := decB_size (n / 1000000) (by omega)
  have z3 := decB_size (n / 1000) (by omega)
  have y6 : (decB (n / 1000000)).size + 1 ≤ 9223372036854775807 := by omega
  have y3 : (decB (n / 1000)).size + 1 ≤ 9223372036854775807 := by omega
  by_cases hn : 0 < n
  · by_cases h6 : m6 = 0
    · have hR : numB n = decB (n / 1000000) ++ ⟨#[109]⟩ := by unfold numB; rw [if_pos ⟨hn, by omega⟩]
      simp -implicitDefEqProofs [Tryz.f181, F151, List.lookup_cons, eS, hn, t6, h6, w6, a6, b6, c6, y6, e1]
      refine fin_pure (by simp) ?_
      simp -implicitDefEqProofs [fS, rn0, pickObs, deI, hR]
    · by_cases h3 : m3 = 0
      · have hR : numB n = decB (n / 1000) ++ ⟨#[107]⟩ := by unfold numB; rw [if_neg (by omega), if_pos ⟨hn, by omega⟩]
        simp -implicitDefEqProofs [Tryz.f181, F151, List.lookup_cons, eS, hn, t6, h6, t3, h3, w3, a3, b3, c3, y3, e2]
        refine fin_pure (by simp) ?_
        simp -implicitDefEqProofs [fS, rn0, pickObs, deI, hR]
      · have hR : numB n = decB n := by unfold numB; rw [if_neg (by omega), if_neg (by omega)]
        simp -implicitDefEqProofs [Tryz.f181, F151, List.lookup_cons, eS, hn, t6, h6, t3, h3, b0]
        refine fin_pure (by simp) ?_
        simp -implicitDefEqProofs [fS, rn0, pickObs, deI, hR]
  · have hR : numB n = decB n := by unfold numB; rw [if_neg (by omega), if_neg (by omega)]
    simp -implicitDefEqProofs [Tryz.f181, F151, List.lookup_cons, eS, hn, b0]
    refine fin_pure (by simp) ?_
    simp -implicitDefEqProofs [fS, rn0, pickObs, deI, hR]
end Go.Proofs
namespace Go.Proofs
open Go.Abs
@[simp] theorem deS_T (b : ByteArray) : deS (Sx b) = b := rfl
@[simp] theorem deS_T2 (b : ByteArray) : deS (.v (.string b)) = b := rfl
def strOb (l : List ByteArray) : Ob := ⟨9, 1, 0, sR l, false, true, none⟩
theorem sR_cons' (a : ByteArray) (l : List ByteArray) : sR (a :: l) = [.v (.string a)] :: sR l := rfl
theorem sR_nil' : sR [] = [] := rfl
attribute [simp] Sx
end Go.Proofs
