/-
  What is proved here: the hexadecimal texts, on both sides. Condition: none.
-/
import Derived.Test.YtecpfgnkiifnpaaGreatDoorTxC
namespace Go.Proofs
open Go.Abs
set_option linter.unusedSimpArgs false
set_option linter.unnecessarySimpa false
set_option linter.unusedVariables false
set_option maxHeartbeats 8000000
set_option maxRecDepth 20000
def hexDg : ByteArray := ⟨#[48, 49, 50, 51, 52, 53, 54, 55, 56, 57, 97, 98, 99, 100, 101, 102]⟩
def hexD (n : Nat) : ByteArray := hexDg.extract (n % 16) (n % 16 + 1)
theorem hexD_size (n : Nat) : (hexD n).size = 1 := by
  unfold hexD
  rw [ByteArray.size_extract, show hexDg.size = 16 from rfl]
  omega
def hexL (n : Nat) (o : ByteArray) : ByteArray := if _h : n / 16 = 0 then hexD n ++ o else hexL (n / 16) (hexD n ++ o)
  termination_by n
  decreasing_by omega
theorem hexL_last {n : Nat} (o : ByteArray) (h : n / 16 = 0) : hexL n o = hexD n ++ o := by rw [hexL, dif_pos h]
theorem hexL_more {n : Nat} (o : ByteArray) (h : ¬ n / 16 = 0) : hexL n o = hexL (n / 16) (hexD n ++ o) := by rw [hexL, dif_neg h]
theorem hexL_size : ∀ (k n : Nat) (o : ByteArray), n ≤ k → (hexL n o).size ≤ o.size + n + 1 := by
  intro k
  induction k with
  | zero =>
    intro n o h
    rw [hexL_last o (by omega), ByteArray.size_append, hexD_size]
    omega
  | succ k ih =>
    intro n o h
    by_cases h0 : n / 16 = 0
    · rw [hexL_last o h0, ByteArray.size_append, hexD_size]; omega
    · rw [hexL_more o h0]
      have := ih (n / 16) (hexD n ++ o) (by omega)
      rw [ByteArray.size_append, hexD_size] at this
      omega
def hexB (n : Nat) : ByteArray := ⟨#[48, 120]⟩ ++ hexL n emB
def F70 : Fun := ⟨fun xs => xs = [I (deI (xs.getD 0 .top) : Int)] ∧ (fun (n : Int) => (0 ≤ n ∧ n ≤ 65535)) (deI (xs.getD 0 .top) : Int), fun xs => (fun (n : Int) => ((.v (.string (hexB n.toNat)), []) : X × List Ob)) (deI (xs.getD 0 .top) : Int)⟩
theorem F70_in {xs : List X} (h : F70.pre xs) : ∃ (n : Int), xs = [I n] ∧ (0 ≤ n ∧ n ≤ 65535) := ⟨_, h.1, h.2⟩
theorem F70_res (n : Int) : F70.res [I n] = (.v (.string (hexB n.toNat)), []) := by simp [F70]
theorem F70_mk (n : Int) (h : 0 ≤ n ∧ n ≤ 65535) : F70.pre [I n] := by simpa [F70] using h
theorem c70 : GenCA K Tryz.prog 70 F70 := by
  refine contractA Tryz.mix K [] [] (by simp) (by simp) Tryz.func70 rfl (by decide) ?_
  intro xs hxs
  obtain ⟨n, rfl, hp⟩ := F70_in hxs
  rw [F70_res]
  refine ⟨by rw [Tryz.ntmps70]; simp, ?_⟩
  obtain ⟨h0, h1⟩ := hp
  obtain ⟨n0, rfl⟩ := Int.eq_ofNat_of_zero_le h0
  have hn0 : n0 ≤ 65535 := by omega
  simp -implicitDefEqProofs [Tryz.f70, List.lookup_cons, eS]
  refine loopP_inv (fun a : Nat × ByteArray × Bool => ⟨20, tl [(0, I a.1), (3, .v (.string a.2.1)), (4, B a.2.2)], []⟩) (fun a => a.1 ≤ n0 ∧ a.2.1.size ≤ n0 + 1 ∧ (a.2.2 = true → a.2.1.size + a.1 ≤ n0 ∧ hexL a.1 a.2.1 = hexL n0 emB) ∧ (a.2.2 = false → a.2.1 = hexL n0 emB)) (fun a => if a.2.2 = true then a.1 + 1 else 0) (n0, emB, true) ⟨Nat.le_refl _, by rw [show emB.size = 0 from rfl]; omega, fun _ => ⟨by rw [show emB.size = 0 from rfl]; omega, rfl⟩, fun h => by cases h⟩ (Wk.tl (by simp [hold, upd, tl_cons, emB])) ?_
  rintro ⟨n, s, ok⟩ ⟨i0, i1, i2, i3⟩
  simp only at i0 i1 i2 i3
  cases ok with
  | true =>
    obtain ⟨i1', i2⟩ := i2 rfl
    obtain ⟨m, hm⟩ : ∃ m, n % 16 = m := ⟨_, rfl⟩
    have t16 : (n : Int).tmod 16 = (m : Int) := by rw [← hm]; exact mod_at n 16
    have hm16 : m < 16 := by omega
    have w1 : IntKind.i64.wrap ((m : Int) + 1) = (m : Int) + 1 := w64 (by omega) (by omega)
    have w2 : IntKind.i64.wrap ((n : Int) / 16) = ((n / 16 : Nat) : Int) := by rw [w64 (by omega) (by omega)]; omega
    have hD : (ByteArray.mk #[48, 49, 50, 51, 52, 53, 54, 55, 56, 57, 97, 98, 99, 100, 101, 102]).extract m (m + 1) = hexD n := by unfold hexD; rw [hm]; rfl
    have hDz := hexD_size n
    have hgz : (ByteArray.mk #[48, 49, 50, 51, 52, 53, 54, 55, 56, 57, 97, 98, 99, 100, 101, 102]).size = 16 := rfl
    have hsz : 1 + s.size ≤ 9223372036854775807 := by omega
    have hT : ((m : Int) + 1).toNat = m + 1 := by omega
    simp -implicitDefEqProofs [List.lookup_cons, eS, t16, w1, w2, eSlice, bnd, hgz, hT, hD, hDz, hsz]
    refine ⟨by omega, by omega, n / 16, by omega, hexD n ++ s, by rw [ByteArray.size_append, hDz]; omega, ?_⟩
    by_cases hq : n / 16 = 0
    · refine .inl ⟨(hexL_last s hq).symm.trans i2, Wk.tl ?_⟩
      simp [hold, upd, tl_cons, hq]
      omega
    · refine .inr ⟨by rw [ByteArray.size_append, hDz]; omega, (hexL_more s hq).symm.trans i2, by omega, Wk.tl ?_⟩
      simp [hold, upd, tl_cons]
      omega
  | false =>
    have i3 := i3 rfl
    have hz := hexL_size n0 n0 emB (Nat.le_refl _)
    have he : emB.size = 0 := rfl
    have h2 : (ByteArray.mk #[48, 120]).size = 2 := rfl
    subst i3
    have hs : 2 + (hexL n0 emB).size ≤ 9223372036854775807 := by omega
    simp -implicitDefEqProofs [List.lookup_cons, eS, h2, hs]
    refine fin_pure (by simp) ?_
    simp -implicitDefEqProofs [fS, rn0, pickObs, deI, hexB]
theorem and15 (n : Nat) (h : n ≤ 65535) : IntKind.i64.wrap (((BitVec.ofNat IntKind.i64.bits n &&& 15#IntKind.i64.bits).toNat : Nat) : Int) = ((n % 16 : Nat) : Int) := by
  have e : (BitVec.ofNat IntKind.i64.bits n &&& 15#IntKind.i64.bits).toNat = n % 16 := by
    rw [BitVec.toNat_and]
    have h1 : (BitVec.ofNat IntKind.i64.bits n).toNat = n := by
      show (BitVec.ofNat 64 n).toNat = n
      rw [BitVec.toNat_ofNat]; omega
    have h2 : (15#IntKind.i64.bits).toNat = 15 := rfl
    rw [h1, h2]
    exact Nat.and_two_pow_sub_one_eq_mod n 4
  rw [e, w64 (by omega) (by omega)]
def F115 : Fun := ⟨fun xs => xs = [I (deI (xs.getD 0 .top) : Int)] ∧ (fun (n : Int) => (0 ≤ n ∧ n ≤ 65535)) (deI (xs.getD 0 .top) : Int), fun xs => (fun (n : Int) => ((.tup [.v (.string (hexB n.toNat)), B true], []) : X × List Ob)) (deI (xs.getD 0 .top) : Int)⟩
theorem F115_in {xs : List X} (h : F115.pre xs) : ∃ (n : Int), xs = [I n] ∧ (0 ≤ n ∧ n ≤ 65535) := ⟨_, h.1, h.2⟩
theorem F115_res (n : Int) : F115.res [I n] = (.tup [.v (.string (hexB n.toNat)), B true], []) := by simp [F115]
theorem F115_mk (n : Int) (h : 0 ≤ n ∧ n ≤ 65535) : F115.pre [I n] := by simpa [F115] using h
theorem c115 : GenCA K Tryz.prog 115 F115 := by
  refine contractA Tryz.mix K [] [] (by simp) (by simp) Tryz.func115 rfl (by decide) ?_
  intro xs hxs
  obtain ⟨n, rfl, hp⟩ := F115_in hxs
  rw [F115_res]
  refine ⟨by rw [Tryz.ntmps115]; simp, ?_⟩
  obtain ⟨h0, h1⟩ := hp
  obtain ⟨n0, rfl⟩ := Int.eq_ofNat_of_zero_le h0
  have hn0 : n0 ≤ 65535 := by omega
  have hnb : (n0 : Int) ≤ 4294967295 := by omega
  have hnb' : ¬ (4294967295 : Int) < n0 := by omega
  have hnn : ¬ (n0 : Int) < 0 := by omega
  simp -implicitDefEqProofs [Tryz.f115, List.lookup_cons, eS, hnb, hnb', hnn]
  refine loopP_inv (fun a : Nat × ByteArray => ⟨29, tl [(0, I a.1), (4, .v (.string a.2))], []⟩) (fun a => a.1 ≤ n0 ∧ a.2.size + a.1 ≤ n0 + 1 ∧ ((a.1 = n0 ∧ a.2 = emB) ∨ 0 < a.2.size) ∧ (if a.1 = 0 ∧ 0 < a.2.size then a.2 else hexL a.1 a.2) = hexL n0 emB) (fun a => a.1 + (if 0 < a.2.size then 0 else 1)) (n0, emB) ⟨Nat.le_refl _, by rw [show emB.size = 0 from rfl]; omega, .inl ⟨rfl, rfl⟩, by rw [show emB.size = 0 from rfl, if_neg (by omega)]⟩ (Wk.tl (by simp [hold, upd, tl_cons, emB])) ?_
  rintro ⟨n, s⟩ ⟨i0, i1, i2, i3⟩
  simp only at i0 i1 i2 i3
  have hz0 : emB.size = 0 := rfl
  by_cases hgo : 0 < n ∨ s = emB
  · obtain ⟨m, hm⟩ : ∃ m, n % 16 = m := ⟨_, rfl⟩
    have ha : IntKind.i64.wrap (((BitVec.ofNat IntKind.i64.bits n &&& 15#IntKind.i64.bits).toNat : Nat) : Int) = (m : Int) := by rw [and15 n (by omega), hm]
    have hm16 : m < 16 := by omega
    have w1 : IntKind.i64.wrap ((m : Int) + 1) = (m : Int) + 1 := w64 (by omega) (by omega)
    have hD : (ByteArray.mk #[48, 49, 50, 51, 52, 53, 54, 55, 56, 57, 97, 98, 99, 100, 101, 102]).extract m (m + 1) = hexD n := by unfold hexD; rw [hm]; rfl
    have hDz := hexD_size n
    have hgz : (ByteArray.mk #[48, 49, 50, 51, 52, 53, 54, 55, 56, 57, 97, 98, 99, 100, 101, 102]).size = 16 := rfl
    have hsz : 1 + s.size ≤ 9223372036854775807 := by omega
    have hT : ((m : Int) + 1).toNat = m + 1 := by omega
    have hsh : (n : Int).fdiv (2 ^ min 4 IntKind.i64.bits) = ((n / 16 : Nat) : Int) := by
      show (n : Int).fdiv (2 ^ min 4 64) = _
      rw [show (2 : Int) ^ (min 4 64) = 16 from rfl, Int.fdiv_eq_ediv_of_nonneg _ (by omega)]
      rfl
    have hc : ¬ (n = 0 ∧ 0 < s.size) := by
      rintro ⟨rfl, hs⟩
      rcases hgo with h | h
      · omega
      · rw [h, hz0] at hs; omega
    rw [if_neg hc] at i3
    have hi4 : (if n / 16 = 0 ∧ 0 < (hexD n ++ s).size then hexD n ++ s else hexL (n / 16) (hexD n ++ s)) = hexL n0 emB := by
      rw [← i3]
      by_cases hq : n / 16 = 0
      · rw [if_pos ⟨hq, by rw [ByteArray.size_append, hDz]; omega⟩, hexL_last s hq]
      · rw [if_neg (by omega), hexL_more s hq]
    by_cases hn : 0 < n
    · simp -implicitDefEqProofs [List.lookup_cons, eS, hn, ha, -BitVec.toNat_and, w1, eSlice, bnd, hgz, hT, hD, hDz, hsz]
      refine ⟨by omega, by omega, n / 16, by omega, hexD n ++ s, by rw [ByteArray.size_append, hDz]; omega, .inr (by rw [ByteArray.size_append, hDz]; omega), hi4, ?_, Wk.tl (by simp [hold, upd, tl_cons, hsh])⟩
      rw [if_pos (show 0 < (hexD n ++ s).size by rw [ByteArray.size_append, hDz]; omega)]
      split <;> omega
    · have hse : s.toList = [] := (tl_nil s).2 (by rcases hgo with h | h; exact absurd h hn; exact h)
      simp -implicitDefEqProofs [List.lookup_cons, eS, hn, hse, ha, -BitVec.toNat_and, w1, eSlice, bnd, hgz, hT, hD, hDz, hsz]
      have hs0 : s.size = 0 := by rcases hgo with h | h; exact absurd h hn; rw [h]; exact hz0
      refine ⟨by omega, by omega, n / 16, by omega, hexD n ++ s, by rw [ByteArray.size_append, hDz]; omega, .inr (by rw [ByteArray.size_append, hDz]; omega), hi4, ?_, Wk.tl (by simp [hold, upd, tl_cons, hsh])⟩
      rw [if_pos (show 0 < (hexD n ++ s).size by rw [ByteArray.size_append, hDz]; omega), if_neg (by omega)]
      omega
  · have hn : n = 0 := by omega
    subst hn
    have hse : ¬ s = emB := fun e => hgo (.inr e)
    have hst : ¬ s.toList = [] := fun e => hse ((tl_nil s).1 e)
    have hs : 0 < s.size := by
      rcases i2 with ⟨_, h⟩ | h
      · exact absurd h hse
      · exact h
    rw [if_pos ⟨rfl, hs⟩] at i3
    subst i3
    have h2 : (ByteArray.mk #[48, 120]).size = 2 := rfl
    have hsz : 2 + (hexL n0 emB).size ≤ 9223372036854775807 := by omega
    simp -implicitDefEqProofs [List.lookup_cons, eS, hst, h2, hsz]
    refine fin_pure (by simp) ?_
    simp -implicitDefEqProofs [fS, rn0, pickObs, deI, hexB]
def F80 : Fun := ⟨fun xs => xs = [I (deI (xs.getD 0 .top) : Int)] ∧ (fun (n : Int) => (0 ≤ n ∧ n ≤ 65535)) (deI (xs.getD 0 .top) : Int), fun xs => (fun (n : Int) => ((.tup [.v (.string (hexB n.toNat)), B true], []) : X × List Ob)) (deI (xs.getD 0 .top) : Int)⟩
theorem F80_in {xs : List X} (h : F80.pre xs) : ∃ (n : Int), xs = [I n] ∧ (0 ≤ n ∧ n ≤ 65535) := ⟨_, h.1, h.2⟩
theorem F80_res (n : Int) : F80.res [I n] = (.tup [.v (.string (hexB n.toNat)), B true], []) := by simp [F80]
theorem F80_mk (n : Int) (h : 0 ≤ n ∧ n ≤ 65535) : F80.pre [I n] := by simpa [F80] using h
theorem c80 : GenCA K Tryz.prog 80 F80 := by
  refine contractA Tryz.mix K [(115, F115)] [] (by simp [c115]) (by simp) Tryz.func80 rfl (by decide) ?_
  intro xs hxs
  obtain ⟨n, rfl, hp⟩ := F80_in hxs
  rw [F80_res]
  refine ⟨by rw [Tryz.ntmps80]; simp, ?_⟩
  obtain ⟨h0, h1⟩ := hp
  have h2 : ¬ n < 0 := by omega
  have h3 : ¬ 65535 < n := by omega
  simp -implicitDefEqProofs [Tryz.f80, F115, List.lookup_cons, eS, h0, h1, h2, h3]
  refine fin_pure (by simp) ?_
  simp -implicitDefEqProofs [fS, rn0, pickObs, deI]
end Go.Proofs
