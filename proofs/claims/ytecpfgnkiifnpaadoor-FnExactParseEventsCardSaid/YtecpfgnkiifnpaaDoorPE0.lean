/-
  What is proved here: the decimal text of a number is read back as that number. Condition: none.
-/
import Derived.Test.YtecpfgnkiifnpaaDoorFPa
import Derived.Lib.ItoaNum
import Derived.Lib.AtoiTie
namespace Go.Flat
open Go.Lib
set_option linter.unusedVariables false
theorem dec_step {u : Nat} (h : ¬ u < 10) : decDigits u = decDigits (u / 10) ++ [UInt8.ofNat (48 + u % 10)] := by rw [decDigits, dif_neg h]
theorem dec_lo {u : Nat} (h : u < 10) : decDigits u = [UInt8.ofNat (48 + u)] := by rw [decDigits, dif_pos h]
theorem dgB_toNat {d : Nat} (h : d < 10) : (UInt8.ofNat (48 + d)).toNat = 48 + d := by
  rw [UInt8.toNat_ofNat']
  omega
/-- all are digits -/
theorem dec_mem : ∀ (u : Nat), ∀ b ∈ decDigits u, 48 ≤ b.toNat ∧ b.toNat ≤ 57
  | u, b, hb => by
    by_cases h : u < 10
    · rw [dec_lo h] at hb
      have : b = UInt8.ofNat (48 + u) := by simpa using hb
      rw [this, dgB_toNat h]; omega
    · rw [dec_step h] at hb
      rcases List.mem_append.1 hb with hb | hb
      · exact dec_mem (u / 10) b hb
      · have : b = UInt8.ofNat (48 + u % 10) := by simpa using hb
        rw [this, dgB_toNat (by omega)]; omega
  termination_by u => u
theorem dec_ne (u : Nat) : decDigits u ≠ [] := by
  by_cases h : u < 10
  · rw [dec_lo h]; simp
  · rw [dec_step h]; simp
/-- no zero ahead -/
theorem dec_head : ∀ (u : Nat), ¬ u < 10 → (decDigits u).head? ≠ some 48 ∧ 1 < (decDigits u).length
  | u, h => by
    rw [dec_step h]
    have hne := dec_ne (u / 10)
    by_cases h2 : u / 10 < 10
    · rw [dec_lo h2]
      refine ⟨fun e => ?_, by simp⟩
      simp only [List.singleton_append, List.head?_cons, Option.some.injEq] at e
      have := congrArg UInt8.toNat e
      rw [dgB_toNat h2] at this
      have h48 : (48 : UInt8).toNat = 48 := rfl
      omega
    · obtain ⟨e1, e2⟩ := dec_head (u / 10) h2
      refine ⟨fun e => e1 ?_, by simp; omega⟩
      cases hd : decDigits (u / 10) with
      | nil => exact absurd hd hne
      | cons x xs => rw [hd] at e; simpa using e
  termination_by u => u
theorem digV_dec {d : Nat} (h : d < 10) : digV (UInt8.ofNat (48 + d)) = d := by
  unfold digV
  rw [dgB_toNat h, if_pos (by omega)]
  omega
theorem dgN_app (base most : Nat) : ∀ (l m : List UInt8) (n : Nat), dgN base most (l ++ m) n = (dgN base most l n).bind fun k => dgN base most m k
  | [], m, n => rfl
  | b :: l, m, n => by
    simp only [List.cons_append, dgN]
    split
    · rfl
    · split
      · rfl
      · exact dgN_app base most l m _
theorem dgN_dec : ∀ (u : Nat) (most : Nat), u ≤ most → dgN 10 most (decDigits u) 0 = some u
  | u, most, hm => by
    by_cases h : u < 10
    · rw [dec_lo h]
      simp only [dgN, digV_dec h]
      rw [if_neg (by omega), if_neg (by omega)]
      simp
    · rw [dec_step h, dgN_app, dgN_dec (u / 10) most (by omega)]
      simp only [Option.bind_some, dgN, digV_dec (show u % 10 < 10 by omega)]
      rw [if_neg (by omega), if_neg (by omega)]
      congr 1
      omega
  termination_by u => u
theorem dec_last (u : Nat) : ∃ b, (decDigits u).getLast? = some b ∧ 48 ≤ b.toNat ∧ b.toNat ≤ 57 := by
  obtain ⟨b, hb⟩ : ∃ b, (decDigits u).getLast? = some b := by
    cases h : (decDigits u).getLast? with
    | none => exact absurd (List.getLast?_eq_none_iff.1 h) (dec_ne u)
    | some b => exact ⟨b, rfl⟩
  exact ⟨b, hb, dec_mem u b (List.mem_of_getLast? hb)⟩
/-- the reference reads it back -/
theorem rdNum_dec (u : Nat) (h : u ≤ 1000000000) : rdNum (decDigits u) = (u : Int) := by
  obtain ⟨b, hb, h1, h2⟩ := dec_last u
  have hu : unitN (decDigits u) = 1 := by
    show (if (decDigits u).getLast? = some 109 then 1000000 else if (decDigits u).getLast? = some 107 then 1000 else 1) = 1
    rw [hb, if_neg, if_neg]
    · intro e
      injection e with e
      rw [e] at h2
      exact absurd h2 (by decide)
    · intro e
      injection e with e
      rw [e] at h2
      exact absurd h2 (by decide)
  unfold rdNum
  rw [if_pos hu]
  unfold numD
  rw [if_neg, dgN_dec u _ h]
  · rfl
  · rintro (e | ⟨e1, e2⟩)
    · exact dec_ne u e
    · by_cases h3 : u < 10
      · rw [dec_lo h3] at e2; simp at e2
      · exact (dec_head u h3).1 e1
theorem decFrom_app : ∀ (l m : List UInt8) (n : Nat), decFrom n (l ++ m) = (decFrom n l).bind fun k => decFrom k m
  | [], m, n => rfl
  | b :: l, m, n => by
    simp only [List.cons_append, decFrom]
    cases digitVal b with
    | none => rfl
    | some d => exact decFrom_app l m _
theorem decFrom_dec (u : Nat) : decFrom 0 (decDigits u) = some u := by
  by_cases h : u < 10
  · rw [dec_lo h]
    simp only [decFrom, digitVal, dgB_toNat h]
    rw [if_pos (by omega)]
    simp
  · rw [dec_step h, decFrom_app, decFrom_dec (u / 10)]
    simp only [Option.bind_some, decFrom, digitVal, dgB_toNat (show u % 10 < 10 by omega)]
    rw [if_pos (by omega)]
    simp only [Option.some.injEq]
    omega
termination_by u
theorem dec_len : ∀ (k u : Nat), u < 10 ^ (k + 1) → (decDigits u).length ≤ k + 1
  | k, u, h => by
    by_cases h1 : u < 10
    · rw [dec_lo h1]; simp
    · rw [dec_step h1]
      cases k with
      | zero => simp at h; omega
      | succ k =>
        have := dec_len k (u / 10) (by rw [Nat.pow_succ] at h; omega)
        simp; omega
  termination_by k u => u
/-- the library reads it back -/
theorem atoi_dec (u : Nat) (h : u ≤ 1000000000) : atoiAll (decDigits u) = .ok (u : Int) := by
  have hl := dec_len 9 u (by have : (10 : Nat) ^ (9 + 1) = 10000000000 := by decide
                             omega)
  rw [atoiAll_short _ (by omega)]
  cases hd : decDigits u with
  | nil => exact absurd hd (dec_ne u)
  | cons b r =>
    have hb := dec_mem u b (by rw [hd]; simp)
    have h45 : ¬ b = 45 := fun e => by rw [e] at hb; exact absurd hb.1 (by decide)
    have h43 : ¬ b = 43 := fun e => by rw [e] at hb; exact absurd hb.1 (by decide)
    have e : decNat (b :: r) = some u := by
      unfold decNat
      rw [← hd]
      have : (decDigits u).isEmpty = false := by rw [hd]; rfl
      rw [this]
      simp only [Bool.false_eq_true, if_false]
      exact decFrom_dec u
    simp [atoi, h45, h43, e, NumEnd.ofOption]
end Go.Flat
