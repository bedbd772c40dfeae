/-
  What is proved here: contracts of leaves, depths and what is inside of a loaded configuration. Condition: none.
-/
import Derived.Test.YtdpmlddmdogggaaGreatDoorIL9ij
namespace Go.Proofs
open Go.Abs
set_option linter.unusedSimpArgs false
set_option linter.unnecessarySimpa false
set_option linter.unusedVariables false
set_option maxHeartbeats 16000000
set_option maxRecDepth 20000
def F35 : Fun := ⟨fun xs => xs = [.agg (lX (deL (xs.getD 0 .top) : Ldd)), I (deI (xs.getD 1 .top) : Int), I (deI (xs.getD 2 .top) : Int)] ∧ (fun (x : Ldd) (i : Int) (k : Int) => (okM x)) (deL (xs.getD 0 .top) : Ldd) (deI (xs.getD 1 .top) : Int) (deI (xs.getD 2 .top) : Int), fun xs => (fun (x : Ldd) (i : Int) (k : Int) => ((bbX (in2 x i k) (inB x i k), []) : X × List Ob)) (deL (xs.getD 0 .top) : Ldd) (deI (xs.getD 1 .top) : Int) (deI (xs.getD 2 .top) : Int)⟩
theorem F35_in {xs : List X} (h : F35.pre xs) : ∃ (x : Ldd) (i : Int) (k : Int), xs = [.agg (lX x), I i, I k] ∧ (okM x) := ⟨_, _, _, h.1, h.2⟩
theorem F35_res (x : Ldd) (i : Int) (k : Int) : F35.res [.agg (lX x), I i, I k] = (bbX (in2 x i k) (inB x i k), []) := by simp [F35]
theorem F35_mk (x : Ldd) (i : Int) (k : Int) (h : okM x) : F35.pre [.agg (lX x), I i, I k] := by simpa [F35] using h
theorem c35 : GenCA K Tryz.prog 35 F35 := by
  refine contractA Tryz.mix K [(85, F85), (86, F86)] [] (by simp [c85, c86]) (by simp) Tryz.func35 rfl (by decide) ?_
  intro xs hxs
  obtain ⟨x, i, k, rfl, hp⟩ := F35_in hxs
  rw [F35_res]
  refine ⟨by rw [Tryz.ntmps35]; simp, ?_⟩
  by_cases g1 : isAt x i = true
  rotate_left
  · have g1' : isAt x i = false := by simpa using g1
    have e : in2 x i k = false := by simp [in2, g1']
    rw [e, bbX_f]
    simp -implicitDefEqProofs [Tryz.f35, F85, F86, List.lookup_cons, eS, hp, g1', e]
    refine fin_pure (by simp) ?_
    simp -implicitDefEqProofs [fS, rn0, pickObs, deI]
  obtain ⟨j, rfl, hj, G⟩ := isAt_nat g1
  by_cases k0 : k < 0
  · have e : in2 x (j : Int) k = false := by simp [in2]; omega
    rw [e, bbX_f]
    simp -implicitDefEqProofs [Tryz.f35, F85, F86, List.lookup_cons, eS, hp, g1, k0]
    refine fin_pure (by simp) ?_
    simp -implicitDefEqProofs [fS, rn0, pickObs, deI]
  by_cases k1 : (x.cls.length : Int) ≤ k
  · have e : in2 x (j : Int) k = false := by simp [in2]; omega
    have k0' : 0 ≤ k := by omega
    rw [e, bbX_f]
    simp -implicitDefEqProofs [Tryz.f35, F85, F86, List.lookup_cons, eS, hp, g1, k0, k0', k1]
    refine fin_pure (by simp) ?_
    simp -implicitDefEqProofs [fS, rn0, pickObs, deI]
  have e : in2 x (j : Int) k = true := by simp [in2, g1]; omega
  have k0' : 0 ≤ k := by omega
  have k1' : k < (x.cls.length : Int) := by omega
  rw [e, bbX_t]
  simp -implicitDefEqProofs [Tryz.f35, F85, F86, List.lookup_cons, eS, hp, g1, k0, k0', k1, k1', hj, G]
  refine fin_pure (by simp) ?_
  simp -implicitDefEqProofs [fS, rn0, pickObs, deI]
theorem c34 : GenCA K Tryz.prog 34 F35 := by
  refine contractA Tryz.mix K [(84, F85)] [] (by simp [c84]) (by simp) Tryz.func34 rfl (by decide) ?_
  intro xs hxs
  obtain ⟨x, i, k, rfl, hp⟩ := F35_in hxs
  rw [F35_res]
  refine ⟨by rw [Tryz.ntmps34]; simp, ?_⟩
  by_cases g1 : isAt x i = true
  rotate_left
  · have g1' : isAt x i = false := by simpa using g1
    have e : in2 x i k = false := by simp [in2, g1']
    rw [e, bbX_f]
    simp -implicitDefEqProofs [Tryz.f34, F85, List.lookup_cons, eS, hp, g1', e]
    refine fin_pure (by simp) ?_
    simp -implicitDefEqProofs [fS, rn0, pickObs, deI]
  obtain ⟨j, rfl, hj, G⟩ := isAt_nat g1
  have g2 := in2_at (k := k) g1
  cases e : in2 x (j : Int) k with
  | false =>
    rw [e] at g2
    rw [bbX_f]
    simp -implicitDefEqProofs [Tryz.f34, F85, List.lookup_cons, eS, hp, g1, g2]
    refine fin_pure (by simp) ?_
    simp -implicitDefEqProofs [fS, rn0, pickObs, deI]
  | true =>
  rw [e] at g2
  obtain ⟨_, k0', k1'⟩ := (in2_iff x _ _).1 e
  obtain ⟨hj', he⟩ := enD G hj
  rw [bbX_t]
  have hr : inB x (j : Int) k = (decide ((j : Int) ≤ k) && decide (k < x.en[j])) := by unfold inB; rw [Int.toNat_natCast, he]
  rw [hr]
  by_cases h2 : (j : Int) ≤ k
  · simp -implicitDefEqProofs [Tryz.f34, F85, List.lookup_cons, eS, hp, g1, g2, h2, hj']
    refine fin_pure (by simp) ?_
    simp -implicitDefEqProofs [fS, rn0, pickObs, deI, h2]
  · simp -implicitDefEqProofs [Tryz.f34, F85, List.lookup_cons, eS, hp, g1, g2, h2, hj']
    refine fin_pure (by simp) ?_
    simp -implicitDefEqProofs [fS, rn0, pickObs, deI, h2]
end Go.Proofs
