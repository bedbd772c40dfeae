/-
  What is proved here: small facts on texts, and the contract of the library's Repeat. Condition: none.
-/
import Derived.Test.YtdpmlddmdogggaaGreatDoorTxA
import Derived.Test.YtdpmlddmdogggaaGreatDoorSHYtdpmlddmdogggaaGreatDoor
import Derived.Shelf.Strings.Repeat
namespace Go.Proofs
open Go.Abs
set_option linter.unusedSimpArgs false
set_option linter.unnecessarySimpa false
set_option linter.unusedVariables false
set_option maxHeartbeats 4000000
set_option maxRecDepth 20000
def emB : ByteArray := ⟨#[]⟩
theorem tl_nil (b : ByteArray) : b.toList = [] ↔ b = emB := by
  rw [ByteArray.toList_eq]
  constructor
  · intro h
    exact ba_ext (by simpa [emB] using h)
  · rintro rfl
    rfl
theorem ba_sz (a b : ByteArray) : (a ++ b).size = a.size + b.size := ByteArray.size_append
def repB (s : ByteArray) (n : Nat) : ByteArray := ⟨(Lib.repeatL s.data.toList n).toArray⟩
def F179 : Fun := ⟨fun xs => xs = [Sx (deS (xs.getD 0 .top) : ByteArray), I (deI (xs.getD 1 .top) : Int)] ∧ (fun (s : ByteArray) (n : Int) => (0 ≤ n ∧ n ≤ 1048576 ∧ s.size ≤ 64)) (deS (xs.getD 0 .top) : ByteArray) (deI (xs.getD 1 .top) : Int), fun xs => (fun (s : ByteArray) (n : Int) => ((.v (.string (repB s n.toNat)), []) : X × List Ob)) (deS (xs.getD 0 .top) : ByteArray) (deI (xs.getD 1 .top) : Int)⟩
theorem F179_in {xs : List X} (h : F179.pre xs) : ∃ (s : ByteArray) (n : Int), xs = [Sx s, I n] ∧ (0 ≤ n ∧ n ≤ 1048576 ∧ s.size ≤ 64) := ⟨_, _, h.1, h.2⟩
theorem F179_res (s : ByteArray) (n : Int) : F179.res [Sx s, I n] = (.v (.string (repB s n.toNat)), []) := by simp [F179]
theorem c179 : GenCA K Tryz.prog 179 F179 := by
  refine genStr (callFunc_enter Tryz.func179 rfl rfl) fun w S vs xs hpre hl hr hS hA => ?_
  obtain ⟨s, n, rfl, h0, h1, h2⟩ := F179_in hpre
  obtain ⟨v, u, rfl⟩ : ∃ v u, vs = #[v, u] := by
    obtain ⟨q⟩ := vs
    match q, hl with
    | [v, u], _ => exact ⟨v, u, rfl⟩
  have hs := (hr 0 (Sx s) v rfl rfl).inv_v.1
  have hn := (hr 1 (I n) u rfl rfl).inv_v.1
  subst hs hn
  obtain ⟨k, rfl⟩ := Int.eq_ofNat_of_zero_le h0
  refine ⟨repB s k, F179_res s k, ?_⟩
  have hm : s.size * k ≤ 140737488355328 := by
    have : s.size * k ≤ 64 * 1048576 := Nat.mul_le_mul h2 (by omega)
    omega
  exact Any.strings_Repeat Tryz.laysRepeat Tryz.repeatExtra s k w (by omega) hm
end Go.Proofs
