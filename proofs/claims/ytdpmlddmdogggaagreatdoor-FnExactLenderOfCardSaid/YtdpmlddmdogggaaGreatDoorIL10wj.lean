/-
  What is proved here: contracts of what tokens allow. Condition: none.
-/
import Derived.Test.YtdpmlddmdogggaaGreatDoorIL10vj
namespace Go.Proofs
open Go.Abs
set_option linter.unusedSimpArgs false
set_option linter.unnecessarySimpa false
set_option linter.unusedVariables false
set_option maxHeartbeats 16000000
set_option maxRecDepth 20000
def F57 : Fun := ⟨fun xs => xs = [.agg (lX (deL (xs.getD 0 .top) : Ldd)), .agg (tkX (deTk (xs.getD 1 .top) : Tok)), I (deI (xs.getD 2 .top) : Int), I (deI (xs.getD 3 .top) : Int)] ∧ (fun (x : Ldd) (t : Tok) (i : Int) (size : Int) => (okM x)) (deL (xs.getD 0 .top) : Ldd) (deTk (xs.getD 1 .top) : Tok) (deI (xs.getD 2 .top) : Int) (deI (xs.getD 3 .top) : Int), fun xs => (fun (x : Ldd) (t : Tok) (i : Int) (size : Int) => ((ibX (caB x t i size && decide (0 ≤ lndI x t i size)) (lndI x t i size), []) : X × List Ob)) (deL (xs.getD 0 .top) : Ldd) (deTk (xs.getD 1 .top) : Tok) (deI (xs.getD 2 .top) : Int) (deI (xs.getD 3 .top) : Int)⟩
theorem F57_in {xs : List X} (h : F57.pre xs) : ∃ (x : Ldd) (t : Tok) (i : Int) (size : Int), xs = [.agg (lX x), .agg (tkX t), I i, I size] ∧ (okM x) := ⟨_, _, _, _, h.1, h.2⟩
theorem F57_res (x : Ldd) (t : Tok) (i : Int) (size : Int) : F57.res [.agg (lX x), .agg (tkX t), I i, I size] = (ibX (caB x t i size && decide (0 ≤ lndI x t i size)) (lndI x t i size), []) := by simp [F57]
theorem F57_mk (x : Ldd) (t : Tok) (i : Int) (size : Int) (h : okM x) : F57.pre [.agg (lX x), .agg (tkX t), I i, I size] := by simpa [F57] using h
theorem c57 : GenCA K Tryz.prog 57 F57 := by
  refine contractA Tryz.mix K [(73, F73), (99, F99)] [] (by simp [c73, c99]) (by simp) Tryz.func57 rfl (by decide) ?_
  intro xs hxs
  obtain ⟨x, t, i, size, rfl, hp⟩ := F57_in hxs
  rw [F57_res]
  refine ⟨by rw [Tryz.ntmps57]; simp, ?_⟩
  cases g : caB x t i size with
  | false =>
    rw [Bool.false_and, ibX_f]
    simp -implicitDefEqProofs [Tryz.f57, F73, F99, List.lookup_cons, eS, hp, g]
    refine fin_pure (by simp) ?_
    simp -implicitDefEqProofs [fS, rn0, pickObs, deI]
  | true =>
    obtain ⟨j, rfl, hj, G, l1, l2, l3, l4, l5⟩ := caB_at g
    rw [Bool.true_and]
    obtain ⟨v, hv⟩ : ∃ v, lndI x t (j : Int) size = v := ⟨_, rfl⟩
    rw [hv]
    by_cases hz : 0 ≤ v
    · have hz' : ¬ v < 0 := by omega
      rw [decide_eq_true hz, ibX_t]
      simp -implicitDefEqProofs [Tryz.f57, F73, F99, List.lookup_cons, eS, hp, g, G, l1, hj, hv, hz, hz']
      refine fin_pure (by simp) ?_
      simp -implicitDefEqProofs [fS, rn0, pickObs, deI]
    · have hz' : v < 0 := by omega
      rw [decide_eq_false hz, ibX_f]
      simp -implicitDefEqProofs [Tryz.f57, F73, F99, List.lookup_cons, eS, hp, g, G, l1, hj, hv, hz, hz']
      refine fin_pure (by simp) ?_
      simp -implicitDefEqProofs [fS, rn0, pickObs, deI]
theorem c56 : GenCA K Tryz.prog 56 F57 := by
  refine contractA Tryz.mix K [(71, F73), (98, F99)] [] (by simp [c71, c98]) (by simp) Tryz.func56 rfl (by decide) ?_
  intro xs hxs
  obtain ⟨x, t, i, size, rfl, hp⟩ := F57_in hxs
  rw [F57_res]
  refine ⟨by rw [Tryz.ntmps56]; simp, ?_⟩
  cases g : caB x t i size with
  | false =>
    rw [Bool.false_and, ibX_f]
    simp -implicitDefEqProofs [Tryz.f56, F73, F99, List.lookup_cons, eS, hp, g]
    refine fin_pure (by simp) ?_
    simp -implicitDefEqProofs [fS, rn0, pickObs, deI]
  | true =>
    obtain ⟨j, rfl, hj, G, l1, l2, l3, l4, l5⟩ := caB_at g
    rw [Bool.true_and]
    obtain ⟨v, hv⟩ : ∃ v, lndI x t (j : Int) size = v := ⟨_, rfl⟩
    rw [hv]
    by_cases hz : 0 ≤ v
    · have hz' : ¬ v < 0 := by omega
      rw [decide_eq_true hz, ibX_t]
      simp -implicitDefEqProofs [Tryz.f56, F73, F99, List.lookup_cons, eS, hp, g, G, l1, hj, hv, hz, hz']
      refine fin_pure (by simp) ?_
      simp -implicitDefEqProofs [fS, rn0, pickObs, deI]
    · have hz' : v < 0 := by omega
      rw [decide_eq_false hz, ibX_f]
      simp -implicitDefEqProofs [Tryz.f56, F73, F99, List.lookup_cons, eS, hp, g, G, l1, hj, hv, hz, hz']
      refine fin_pure (by simp) ?_
      simp -implicitDefEqProofs [fS, rn0, pickObs, deI]
end Go.Proofs
