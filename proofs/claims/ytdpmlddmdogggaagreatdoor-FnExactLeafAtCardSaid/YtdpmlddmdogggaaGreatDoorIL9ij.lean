/-
  What is proved here: contracts of leaves, depths and what is inside of a loaded configuration. Condition: none.
-/
import Derived.Test.YtdpmlddmdogggaaGreatDoorIL9aj
namespace Go.Proofs
open Go.Abs
set_option linter.unusedSimpArgs false
set_option linter.unnecessarySimpa false
set_option linter.unusedVariables false
set_option maxHeartbeats 16000000
set_option maxRecDepth 20000
def inB (x : Ldd) (i k : Int) : Bool := decide (i ≤ k) && decide (k < x.en.getD i.toNat 0)
theorem enD {x : Ldd} (G : LdG x) {i : Nat} (h : i < x.cls.length) : ∃ h' : i < x.en.length, x.en.getD i 0 = x.en[i] := by
  have h' : i < x.en.length := by rw [G.le]; exact h
  exact ⟨h', by simp [h']⟩
def F86 : Fun := ⟨fun xs => xs = [.agg (lX (deL (xs.getD 0 .top) : Ldd)), I (deI (xs.getD 1 .top) : Int), I (deI (xs.getD 2 .top) : Int)] ∧ (fun (x : Ldd) (i : Int) (k : Int) => (LdG x ∧ 0 ≤ i ∧ i < x.cls.length)) (deL (xs.getD 0 .top) : Ldd) (deI (xs.getD 1 .top) : Int) (deI (xs.getD 2 .top) : Int), fun xs => (fun (x : Ldd) (i : Int) (k : Int) => ((B (inB x i k), []) : X × List Ob)) (deL (xs.getD 0 .top) : Ldd) (deI (xs.getD 1 .top) : Int) (deI (xs.getD 2 .top) : Int)⟩
theorem F86_in {xs : List X} (h : F86.pre xs) : ∃ (x : Ldd) (i : Int) (k : Int), xs = [.agg (lX x), I i, I k] ∧ (LdG x ∧ 0 ≤ i ∧ i < x.cls.length) := ⟨_, _, _, h.1, h.2⟩
theorem F86_res (x : Ldd) (i : Int) (k : Int) : F86.res [.agg (lX x), I i, I k] = (B (inB x i k), []) := by simp [F86]
theorem c86 : GenCA K Tryz.prog 86 F86 := by
  refine contractA Tryz.mix K [] [] (by simp) (by simp) Tryz.func86 rfl (by decide) ?_
  intro xs hxs
  obtain ⟨x, i, k, rfl, hp⟩ := F86_in hxs
  rw [F86_res]
  refine ⟨by rw [Tryz.ntmps86]; simp, ?_⟩
  obtain ⟨G, h0, h1⟩ := hp
  obtain ⟨j, rfl⟩ := Int.eq_ofNat_of_zero_le h0
  obtain ⟨hj, he⟩ := enD G (i := j) (by omega)
  have hr : inB x (j : Int) k = (decide ((j : Int) ≤ k) && decide (k < x.en[j])) := by unfold inB; rw [Int.toNat_natCast, he]
  rw [hr]
  by_cases h2 : (j : Int) ≤ k
  · simp -implicitDefEqProofs [Tryz.f86, List.lookup_cons, eS, h2, hj]
    refine fin_pure (by simp) ?_
    simp -implicitDefEqProofs [fS, rn0, pickObs, deI, h2]
  · simp -implicitDefEqProofs [Tryz.f86, List.lookup_cons, eS, h2, hj]
    refine fin_pure (by simp) ?_
    simp -implicitDefEqProofs [fS, rn0, pickObs, deI, h2]
def in2 (x : Ldd) (i k : Int) : Bool := isAt x i && (decide (0 ≤ k) && decide (k < x.cls.length))
theorem in2_iff (x : Ldd) (i k : Int) : in2 x i k = true ↔ isAt x i = true ∧ 0 ≤ k ∧ k < x.cls.length := by simp [in2]
theorem in2_at {x : Ldd} {i k : Int} (h : isAt x i = true) : isAt x k = in2 x i k := by
  obtain ⟨h1, _⟩ := (isAt_iff x i).1 h
  unfold in2
  rw [h]
  simp [isAt, h1]
def bbX (b c : Bool) : X := if b = true then .tup [B c, B true] else .tup [B false, B false]
def ibX (b : Bool) (n : Int) : X := if b = true then .tup [I n, B true] else .tup [I 0, B false]
theorem bbX_t (c : Bool) : bbX true c = .tup [B c, B true] := by simp [bbX]
theorem bbX_f (c : Bool) : bbX false c = .tup [B false, B false] := by simp [bbX]
theorem ibX_t (n : Int) : ibX true n = .tup [I n, B true] := by simp [ibX]
theorem ibX_f (n : Int) : ibX false n = .tup [I 0, B false] := by simp [ibX]
end Go.Proofs
