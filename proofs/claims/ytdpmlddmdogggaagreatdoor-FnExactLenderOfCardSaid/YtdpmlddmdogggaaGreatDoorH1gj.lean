/-
  What is proved here: the hexadecimal texts, on both sides. Condition: none.
-/
import Derived.Test.YtdpmlddmdogggaaGreatDoorTXj
namespace Go.Proofs
open Go.Abs
set_option linter.unusedSimpArgs false
set_option linter.unnecessarySimpa false
set_option linter.unusedVariables false
set_option maxHeartbeats 8000000
set_option maxRecDepth 20000
def hexDg : ByteArray := ⟨#[48, 49, 50, 51, 52, 53, 54, 55, 56, 57, 97, 98, 99, 100, 101, 102]⟩
def hexD (n : Nat) : ByteArray := hexDg.extract (n % 16) (n % 16 + 1)
theorem hexD_size (n : Nat) : (hexD n).size = 1 := by
  unfold hexD
  rw [ByteArray.size_extract, show hexDg.size = 16 from rfl]
  omega
def hexL (n : Nat) (o : ByteArray) : ByteArray := if _h : n / 16 = 0 then hexD n ++ o else hexL (n / 16) (hexD n ++ o)
  termination_by n
  decreasing_by omega
theorem hexL_last {n : Nat} (o : ByteArray) (h : n / 16 = 0) : hexL n o = hexD n ++ o := by rw [hexL, dif_pos h]
theorem hexL_more {n : Nat} (o : ByteArray) (h : ¬ n / 16 = 0) : hexL n o = hexL (n / 16) (hexD n ++ o) := by rw [hexL, dif_neg h]
def hexB (n : Nat) : ByteArray := ⟨#[48, 120]⟩ ++ hexL n emB
theorem and15 (n : Nat) (h : n ≤ 65535) : IntKind.i64.wrap (((BitVec.ofNat IntKind.i64.bits n &&& 15#IntKind.i64.bits).toNat : Nat) : Int) = ((n % 16 : Nat) : Int) := by
  have e : (BitVec.ofNat IntKind.i64.bits n &&& 15#IntKind.i64.bits).toNat = n % 16 := by
    rw [BitVec.toNat_and]
    have h1 : (BitVec.ofNat IntKind.i64.bits n).toNat = n := by
      show (BitVec.ofNat 64 n).toNat = n
      rw [BitVec.toNat_ofNat]; omega
    have h2 : (15#IntKind.i64.bits).toNat = 15 := rfl
    rw [h1, h2]
    exact Nat.and_two_pow_sub_one_eq_mod n 4
  rw [e, w64 (by omega) (by omega)]
def F201 : Fun := ⟨fun xs => xs = [I (deI (xs.getD 0 .top) : Int)] ∧ (fun (n : Int) => (0 ≤ n ∧ n ≤ 65535)) (deI (xs.getD 0 .top) : Int), fun xs => (fun (n : Int) => ((.tup [.v (.string (hexB n.toNat)), B true], []) : X × List Ob)) (deI (xs.getD 0 .top) : Int)⟩
theorem F201_in {xs : List X} (h : F201.pre xs) : ∃ (n : Int), xs = [I n] ∧ (0 ≤ n ∧ n ≤ 65535) := ⟨_, h.1, h.2⟩
theorem F201_res (n : Int) : F201.res [I n] = (.tup [.v (.string (hexB n.toNat)), B true], []) := by simp [F201]
theorem c201 : GenCA K Tryz.prog 201 F201 := by
  refine contractA Tryz.mix K [] [] (by simp) (by simp) Tryz.func201 rfl (by decide) ?_
  intro xs hxs
  obtain ⟨n, rfl, hp⟩ := F201_in hxs
  rw [F201_res]
  refine ⟨by rw [Tryz.ntmps201]; simp, ?_⟩
  obtain ⟨h0, h1⟩ := hp
  obtain ⟨n0, rfl⟩ := Int.eq_ofNat_of_zero_le h0
  have hn0 : n0 ≤ 65535 := by omega
  have hnb : (n0 : Int) ≤ 4294967295 := by omega
  have hnb' : ¬ (4294967295 : Int) < n0 := by omega
  have hnn : ¬ (n0 : Int) < 0 := by omega
  simp -implicitDefEqProofs [Tryz.f201, List.lookup_cons, eS, hnb, hnb', hnn]
  refine loopP_inv (fun a : Nat × ByteArray => ⟨29, tl [(0, I a.1), (4, .v (.string a.2))], []⟩) (fun a => a.1 ≤ n0 ∧ a.2.size + a.1 ≤ n0 + 1 ∧ ((a.1 = n0 ∧ a.2 = emB) ∨ 0 < a.2.size) ∧ (if a.1 = 0 ∧ 0 < a.2.size then a.2 else hexL a.1 a.2) = hexL n0 emB) (fun a => a.1 + (if 0 < a.2.size then 0 else 1)) (n0, emB) ⟨Nat.le_refl _, by rw [show emB.size = 0 from rfl]; omega, .inl ⟨rfl, rfl⟩, by rw [show emB.size = 0 from rfl, if_neg (by omega)]⟩ (Wk.tl (by simp [hold, upd, tl_cons, emB])) ?_
  rintro ⟨n, s⟩ ⟨i0, i1, i2, i3⟩
  simp only at i0 i1 i2 i3
  have hz0 : emB.size = 0 := rfl
  by_cases hgo : 0 < n ∨ s = emB
  · obtain ⟨m, hm⟩ : ∃ m, n % 16 = m := ⟨_, rfl⟩
    have ha : IntKind.i64.wrap (((BitVec.ofNat IntKind.i64.bits n &&& 15#IntKind.i64.bits).toNat : Nat) : Int) = (m : Int) := by rw [and15 n (by omega), hm]
    have hm16 : m < 16 := by omega
    have w1 : IntKind.i64.wrap ((m : Int) + 1) = (m : Int) + 1 := w64 (by omega) (by omega)
    have hD : (ByteArray.mk #[48, 49, 50, 51, 52, 53, 54, 55, 56, 57, 97, 98, 99, 100, 101, 102]).extract m (m + 1) = hexD n := by unfold hexD; rw [hm]; rfl
    have hDz := hexD_size n
    have hgz : (ByteArray.mk #[48, 49, 50, 51, 52, 53, 54, 55, 56, 57, 97, 98, 99, 100, 101, 102]).size = 16 := rfl
    have hsz : 1 + s.size ≤ 9223372036854775807 := by omega
    have hT : ((m : Int) + 1).toNat = m + 1 := by omega
    have hsh : (n : Int).fdiv (2 ^ min 4 IntKind.i64.bits) = ((n / 16 : Nat) : Int) := by
      show (n : Int).fdiv (2 ^ min 4 64) = _
      rw [show (2 : Int) ^ (min 4 64) = 16 from rfl, Int.fdiv_eq_ediv_of_nonneg _ (by omega)]
      rfl
    have hc : ¬ (n = 0 ∧ 0 < s.size) := by
      rintro ⟨rfl, hs⟩
      rcases hgo with h | h
      · omega
      · rw [h, hz0] at hs; omega
    rw [if_neg hc] at i3
    have hi4 : (if n / 16 = 0 ∧ 0 < (hexD n ++ s).size then hexD n ++ s else hexL (n / 16) (hexD n ++ s)) = hexL n0 emB := by
      rw [← i3]
      by_cases hq : n / 16 = 0
      · rw [if_pos ⟨hq, by rw [ByteArray.size_append, hDz]; omega⟩, hexL_last s hq]
      · rw [if_neg (by omega), hexL_more s hq]
    by_cases hn : 0 < n
    · simp -implicitDefEqProofs [List.lookup_cons, eS, hn, ha, -BitVec.toNat_and, w1, eSlice, bnd, hgz, hT, hD, hDz, hsz]
      refine ⟨by omega, by omega, n / 16, by omega, hexD n ++ s, by rw [ByteArray.size_append, hDz]; omega, .inr (by rw [ByteArray.size_append, hDz]; omega), hi4, ?_, Wk.tl (by simp [hold, upd, tl_cons, hsh])⟩
      rw [if_pos (show 0 < (hexD n ++ s).size by rw [ByteArray.size_append, hDz]; omega)]
      split <;> omega
    · have hse : s.toList = [] := (tl_nil s).2 (by rcases hgo with h | h; exact absurd h hn; exact h)
      simp -implicitDefEqProofs [List.lookup_cons, eS, hn, hse, ha, -BitVec.toNat_and, w1, eSlice, bnd, hgz, hT, hD, hDz, hsz]
      have hs0 : s.size = 0 := by rcases hgo with h | h; exact absurd h hn; rw [h]; exact hz0
      refine ⟨by omega, by omega, n / 16, by omega, hexD n ++ s, by rw [ByteArray.size_append, hDz]; omega, .inr (by rw [ByteArray.size_append, hDz]; omega), hi4, ?_, Wk.tl (by simp [hold, upd, tl_cons, hsh])⟩
      rw [if_pos (show 0 < (hexD n ++ s).size by rw [ByteArray.size_append, hDz]; omega), if_neg (by omega)]
      omega
  · have hn : n = 0 := by omega
    subst hn
    have hse : ¬ s = emB := fun e => hgo (.inr e)
    have hst : ¬ s.toList = [] := fun e => hse ((tl_nil s).1 e)
    have hs : 0 < s.size := by
      rcases i2 with ⟨_, h⟩ | h
      · exact absurd h hse
      · exact h
    rw [if_pos ⟨rfl, hs⟩] at i3
    subst i3
    have h2 : (ByteArray.mk #[48, 120]).size = 2 := rfl
    have hsz : 2 + (hexL n0 emB).size ≤ 9223372036854775807 := by omega
    simp -implicitDefEqProofs [List.lookup_cons, eS, hst, h2, hsz]
    refine fin_pure (by simp) ?_
    simp -implicitDefEqProofs [fS, rn0, pickObs, deI, hexB]
def F184 : Fun := ⟨fun xs => xs = [I (deI (xs.getD 0 .top) : Int)] ∧ (fun (n : Int) => (0 ≤ n ∧ n ≤ 65535)) (deI (xs.getD 0 .top) : Int), fun xs => (fun (n : Int) => ((.tup [.v (.string (hexB n.toNat)), B true], []) : X × List Ob)) (deI (xs.getD 0 .top) : Int)⟩
theorem F184_in {xs : List X} (h : F184.pre xs) : ∃ (n : Int), xs = [I n] ∧ (0 ≤ n ∧ n ≤ 65535) := ⟨_, h.1, h.2⟩
theorem F184_res (n : Int) : F184.res [I n] = (.tup [.v (.string (hexB n.toNat)), B true], []) := by simp [F184]
theorem c184 : GenCA K Tryz.prog 184 F184 := by
  refine contractA Tryz.mix K [(201, F201)] [] (by simp [c201]) (by simp) Tryz.func184 rfl (by decide) ?_
  intro xs hxs
  obtain ⟨n, rfl, hp⟩ := F184_in hxs
  rw [F184_res]
  refine ⟨by rw [Tryz.ntmps184]; simp, ?_⟩
  obtain ⟨h0, h1⟩ := hp
  have h2 : ¬ n < 0 := by omega
  have h3 : ¬ 65535 < n := by omega
  simp -implicitDefEqProofs [Tryz.f184, F201, List.lookup_cons, eS, h0, h1, h2, h3]
  refine fin_pure (by simp) ?_
  simp -implicitDefEqProofs [fS, rn0, pickObs, deI]
end Go.Proofs
