/-
  What is proved here: contracts of leaves, depths and what is inside of a loaded configuration. Condition: none.
-/
import Derived.Test.YtdpmlddmdogggaaGreatDoorIL9aj
namespace Go.Proofs
open Go.Abs
set_option linter.unusedSimpArgs false
set_option linter.unnecessarySimpa false
set_option linter.unusedVariables false
set_option maxHeartbeats 16000000
set_option maxRecDepth 20000
def F109 : Fun := ⟨fun xs => xs = [.agg (lX (deL (xs.getD 0 .top) : Ldd)), I (deI (xs.getD 1 .top) : Int)] ∧ (fun (x : Ldd) (i : Int) => (LdG x ∧ 0 ≤ i ∧ i < x.cls.length)) (deL (xs.getD 0 .top) : Ldd) (deI (xs.getD 1 .top) : Int), fun xs => (fun (x : Ldd) (i : Int) => ((B (decide (x.fst.getD i.toNat (-1) < 0)), []) : X × List Ob)) (deL (xs.getD 0 .top) : Ldd) (deI (xs.getD 1 .top) : Int)⟩
theorem F109_in {xs : List X} (h : F109.pre xs) : ∃ (x : Ldd) (i : Int), xs = [.agg (lX x), I i] ∧ (LdG x ∧ 0 ≤ i ∧ i < x.cls.length) := ⟨_, _, h.1, h.2⟩
theorem F109_res (x : Ldd) (i : Int) : F109.res [.agg (lX x), I i] = (B (decide (x.fst.getD i.toNat (-1) < 0)), []) := by simp [F109]
theorem c109 : GenCA K Tryz.prog 109 F109 := by
  refine contractA Tryz.mix K [] [] (by simp) (by simp) Tryz.func109 rfl (by decide) ?_
  intro xs hxs
  obtain ⟨x, i, rfl, hp⟩ := F109_in hxs
  rw [F109_res]
  refine ⟨by rw [Tryz.ntmps109]; simp, ?_⟩
  obtain ⟨G, h0, h1⟩ := hp
  obtain ⟨j, rfl⟩ := Int.eq_ofNat_of_zero_le h0
  have hj : j < x.fst.length := by rw [G.lf]; omega
  rw [Int.toNat_natCast, getD_at hj]
  simp -implicitDefEqProofs [Tryz.f109, List.lookup_cons, eS, hj]
  refine fin_pure (by simp) ?_
  simp -implicitDefEqProofs [fS, rn0, pickObs, deI]
end Go.Proofs
