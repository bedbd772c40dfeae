/-
  What is proved here: the digits of a number as a text; the contract of the law's markText. Condition: none.
-/
import Derived.Test.YtecpfgnkiifnpaaKXYtecpfgnkiifnpaa
import Derived.Test.YtecpfgnkiifnpaaAbsF
namespace Go.Proofs
open Go.Abs
set_option linter.unusedSimpArgs false
set_option linter.unnecessarySimpa false
set_option linter.unusedVariables false
set_option maxHeartbeats 4000000
set_option maxRecDepth 20000
@[simp] theorem bsU : byteSl Try.prog 68 = true := by kernel_rfl
def dig (k : Nat) : ByteArray := mkS [IntKind.u8.wrap (48 + (k % 10 : Nat))]
theorem dig_size (k : Nat) : (dig k).size = 1 := by simp [dig, mkS]
def mtl (k : Nat) (o : ByteArray) : ByteArray := if _h : k = 0 then o else mtl (k / 10) (dig k ++ o)
  termination_by k
  decreasing_by omega
theorem mtl_zero (o : ByteArray) : mtl 0 o = o := by rw [mtl]; simp
theorem mtl_pos (k : Nat) (o : ByteArray) (h : 0 < k) : mtl k o = mtl (k / 10) (dig k ++ o) := by
  rw [mtl]
  rw [dif_neg (by omega)]
def mTx (k : Int) : ByteArray := if k ≤ 0 then ⟨#[109, 48]⟩ else ⟨#[109]⟩ ++ mtl k.toNat ⟨#[]⟩
def F21 : Fun := ⟨fun xs => xs = [I (deI (xs.getD 0 .top) : Int)] ∧ (fun (k : Int) => (k ≤ 4611686018427387904)) (deI (xs.getD 0 .top) : Int), fun xs => (fun (k : Int) => ((.v (.string (mTx k)), []) : X × List Ob)) (deI (xs.getD 0 .top) : Int)⟩
theorem F21_in {xs : List X} (h : F21.pre xs) : ∃ (k : Int), xs = [I k] ∧ (k ≤ 4611686018427387904) := ⟨_, h.1, h.2⟩
theorem F21_res (k : Int) : F21.res [I k] = (.v (.string (mTx k)), []) := by simp [F21]
theorem F21_mk (k : Int) (h : k ≤ 4611686018427387904) : F21.pre [I k] := by simpa [F21] using h
theorem c21 : GenCA K Try.prog 21 F21 := by
  refine contractA Try.mix K [] [] (by simp) (by simp) Try.func21 rfl (by decide) ?_
  intro xs hxs
  obtain ⟨k, rfl, hp⟩ := F21_in hxs
  rw [F21_res]
  refine ⟨by rw [Try.ntmps21]; simp, ?_⟩
  by_cases hk : k ≤ 0
  · simp -implicitDefEqProofs [Try.f21, List.lookup_cons, eS, hk]
    refine fin_pure (by simp) ?_
    simp -implicitDefEqProofs [fS, rn0, pickObs, deI, mTx, hk]
  obtain ⟨k0, rfl⟩ := Int.eq_ofNat_of_zero_le (show 0 ≤ k by omega)
  have h0 : 0 < k0 := by omega
  have h0' : ¬ k0 = 0 := by omega
  simp -implicitDefEqProofs [Try.f21, List.lookup_cons, eS, h0']
  refine loopP_inv (fun p : Nat × ByteArray => ⟨20, tl [(0, I p.1), (3, .v (.string p.2))], []⟩) (fun p => p.2.size + p.1 ≤ k0 ∧ mtl p.1 p.2 = mtl k0 ⟨#[]⟩) (fun p => p.1) (k0, ⟨#[]⟩) ⟨Nat.le_of_eq (Nat.zero_add _), rfl⟩ (Wk.tl (by simp [hold, upd, tl_cons])) ?_
  rintro ⟨k, o⟩ ⟨h1, h2⟩
  dsimp only at h1 h2 ⊢
  by_cases h : 0 < k
  · obtain ⟨m, hm⟩ : ∃ m, k % 10 = m := ⟨_, rfl⟩
    have hw1 : IntKind.i64.wrap (48 + (k : Int).tmod 10) = 48 + (m : Int) := by
      have : (k : Int).tmod 10 = (m : Int) := by rw [← hm]; exact (Int.ofNat_tmod k 10).symm
      rw [this, w64 (by omega) (by omega)]
    have hw2 : IntKind.i64.wrap ((k : Int) / 10) = ((k / 10 : Nat) : Int) := by rw [w64 (by omega) (by omega)]; omega
    have hd : mkS [IntKind.u8.wrap (48 + (m : Int))] = dig k := by rw [dig, hm]
    have hds := dig_size k
    have hk : ¬ k = 0 := by omega
    have hsz : 1 + o.size ≤ 9223372036854775807 := by omega
    simp -implicitDefEqProofs [List.lookup_cons, eS, h, hk, hw1, hw2, eConv, eBuildSlice, srcRows, srcOk, chunk, bys, splice, hd, hds, hsz]
    refine ⟨k / 10, dig k ++ o, ?_, ?_, by omega, ?_⟩
    · rw [ByteArray.size_append, hds]; omega
    · rw [← h2, mtl_pos k o h]
    · exact Wk.tlD (m := 0) rfl (by simp [hold, upd, tl_cons]) (by simp [okL_cons, okL_nil, ok1, ok0]) (by simp [okH_nil])
  · have e : k = 0 := by omega
    subst e
    rw [mtl_zero] at h2
    have hs : 1 + o.size ≤ 9223372036854775807 := by omega
    have hz : (ByteArray.mk #[109]).size = 1 := rfl
    simp -implicitDefEqProofs [List.lookup_cons, eS, hz, hs]
    refine fin_pure (by simp) ?_
    simp -implicitDefEqProofs [fS, rn0, pickObs, deI, mTx, hk, ← h2]
    exact fun e => absurd e h0'
end Go.Proofs
