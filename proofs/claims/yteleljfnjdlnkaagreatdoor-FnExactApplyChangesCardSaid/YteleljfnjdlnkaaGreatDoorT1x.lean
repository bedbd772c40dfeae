/-
  What is proved here: the digits of a number as a text; the contract of the law's markText. Condition: none.
-/
import Derived.Test.YteleljfnjdlnkaaGreatDoorKXYteleljfnjdlnkaaGreatDoor
import Derived.Test.YteleljfnjdlnkaaGreatDoorAbs25
namespace Go.Proofs
open Go.Abs
set_option linter.unusedSimpArgs false
set_option linter.unnecessarySimpa false
set_option linter.unusedVariables false
set_option maxHeartbeats 4000000
set_option maxRecDepth 20000

@[simp] theorem bsU : byteSl Tryz.prog 91 = true := by kernel_rfl
def dig (k : Nat) : ByteArray := mkS [IntKind.u8.wrap (48 + (k % 10 : Nat))]
theorem dig_size (k : Nat) : (dig k).size = 1 := by simp [dig, mkS]
def mtl (k : Nat) (o : ByteArray) : ByteArray := if _h : k = 0 then o else mtl (k / 10) (dig k ++ o)
  termination_by k
  decreasing_by omega
theorem mtl_zero (o : ByteArray) : mtl 0 o = o := by rw [mtl]; simp
theorem mtl_pos (k : Nat) (o : ByteArray) (h : 0 < k) : mtl k o = mtl (k / 10) (dig k ++ o) := by
  rw [mtl]
  rw [dif_neg (by omega)]
def mTx (k : Int) : ByteArray := if k ≤ 0 then ⟨#[109, 48]⟩ else ⟨#[109]⟩ ++ mtl k.toNat ⟨#[]⟩
def F42 : Fun := ⟨fun xs => xs = [I (deI (xs.getD 0 .top) : Int)] ∧ (fun (k : Int) => (k ≤ 4611686018427387904)) (deI (xs.getD 0 .top) : Int), fun xs => (fun (k : Int) => ((.v (.string (mTx k)), []) : X × List Ob)) (deI (xs.getD 0 .top) : Int)⟩
theorem F42_in {xs : List X} (h : F42.pre xs) : ∃ (k : Int), xs = [I k] ∧ (k ≤ 4611686018427387904) := ⟨_, h.1, h.2⟩
theorem F42_res (k : Int) : F42.res [I k] = (.v (.string (mTx k)), []) := by simp [F42]
theorem F42_mk (k : Int) (h : k ≤ 4611686018427387904) : F42.pre [I k] := by simpa [F42] using h
theorem c42 : GenCA K Tryz.prog 42 F42 := by
  refine contractA Tryz.mix K [] [] (by simp) (by simp) Tryz.func42 rfl (by decide) ?_
  intro xs hxs
  obtain ⟨k, rfl, hp⟩ := F42_in hxs
  rw [F42_res]
  refine ⟨by rw [Tryz.ntmps42]; simp, ?_⟩
  by_cases hk : k ≤ 0
  · simp -implicitDefEqProofs [Tryz.f42, List.lookup_cons, and_assoc, pick_and, pick_or, if_and, if_or, hk]
    refine fin_pure (by simp) ?_
    simp -implicitDefEqProofs [pur2_i, pur2_b, pur2_s, pur2_nil, pur2_sl, pur2_tup, rn2_tup, rn2_agg, rn2_osl, rn1_v, rn1_osl, rn1_agg, rn0_v, rn0_sl, rn0, pickObs, pur_v, pur_b, pur_s, pur_nil, pur_sl, deI, deIs_sl, mTx, hk]
  obtain ⟨k0, rfl⟩ := Int.eq_ofNat_of_zero_le (show 0 ≤ k by omega)
  have h0 : 0 < k0 := by omega
  have h0' : ¬ k0 = 0 := by omega
  simp -implicitDefEqProofs [Tryz.f42, List.lookup_cons, and_assoc, pick_and, pick_or, if_and, if_or, h0']
  refine loopP_inv (fun p : Nat × ByteArray => ⟨20, tl [(0, I p.1), (3, .v (.string p.2))], []⟩) (fun p => p.2.size + p.1 ≤ k0 ∧ mtl p.1 p.2 = mtl k0 ⟨#[]⟩) (fun p => p.1) (k0, ⟨#[]⟩) ⟨Nat.le_of_eq (Nat.zero_add _), rfl⟩ (Wk.tl (by simp [hold, upd, tl_cons])) ?_
  rintro ⟨k, o⟩ ⟨h1, h2⟩
  dsimp only at h1 h2 ⊢
  by_cases h : 0 < k
  · obtain ⟨m, hm⟩ : ∃ m, k % 10 = m := ⟨_, rfl⟩
    have hw1 : IntKind.i64.wrap (48 + (k : Int).tmod 10) = 48 + (m : Int) := by
      have : (k : Int).tmod 10 = (m : Int) := by rw [← hm]; exact (Int.ofNat_tmod k 10).symm
      rw [this, w64 (by omega) (by omega)]
    have hw2 : IntKind.i64.wrap ((k : Int) / 10) = ((k / 10 : Nat) : Int) := by rw [w64 (by omega) (by omega)]; omega
    have hd : mkS [IntKind.u8.wrap (48 + (m : Int))] = dig k := by rw [dig, hm]
    have hds := dig_size k
    have hk : ¬ k = 0 := by omega
    have hsz : 1 + o.size ≤ 9223372036854775807 := by omega
    simp -implicitDefEqProofs [List.lookup_cons, and_assoc, pick_and, pick_or, if_and, if_or, h, hk, hw1, hw2, eConv, eBuildSlice, srcRows, srcOk, chunk, bys, splice, hd, hds, hsz]
    refine ⟨k / 10, dig k ++ o, ?_, ?_, by omega, ?_⟩
    · rw [ByteArray.size_append, hds]; omega
    · rw [← h2, mtl_pos k o h]
    · exact Wk.tlD (m := 0) rfl (by simp [hold, upd, tl_cons]) (by simp [okL_cons, okL_nil, ok1, ok0]) (by simp [okH_nil])
  · have e : k = 0 := by omega
    subst e
    rw [mtl_zero] at h2
    have hs : 1 + o.size ≤ 9223372036854775807 := by omega
    have hz : (ByteArray.mk #[109]).size = 1 := rfl
    simp -implicitDefEqProofs [List.lookup_cons, and_assoc, pick_and, pick_or, if_and, if_or, hz, hs]
    refine fin_pure (by simp) ?_
    simp -implicitDefEqProofs [pur2_i, pur2_b, pur2_s, pur2_nil, pur2_sl, pur2_tup, rn2_tup, rn2_agg, rn2_osl, rn1_v, rn1_osl, rn1_agg, rn0_v, rn0_sl, rn0, pickObs, pur_v, pur_b, pur_s, pur_nil, pur_sl, deI, deIs_sl, mTx, hk, ← h2]
    exact fun e => absurd e h0'
end Go.Proofs
