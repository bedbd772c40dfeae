/-
  What is proved here: contracts of the ways over a loaded configuration. Condition: none.
-/
import Derived.Test.YtdpmlddmdogggaaGreatDoorIL9aj
namespace Go.Proofs
open Go.Abs
set_option linter.unusedSimpArgs false
set_option linter.unnecessarySimpa false
set_option linter.unusedVariables false
set_option maxHeartbeats 16000000
set_option maxRecDepth 20000
def F51 : Fun := ⟨fun xs => xs = [.agg (lX (deL (xs.getD 0 .top) : Ldd)), I (deI (xs.getD 1 .top) : Int)] ∧ (fun (x : Ldd) (i : Int) => (okM x)) (deL (xs.getD 0 .top) : Ldd) (deI (xs.getD 1 .top) : Int), fun xs => (fun (x : Ldd) (i : Int) => ((ansI (isAt x i) (hop x.par i)) : X × List Ob)) (deL (xs.getD 0 .top) : Ldd) (deI (xs.getD 1 .top) : Int)⟩
theorem F51_in {xs : List X} (h : F51.pre xs) : ∃ (x : Ldd) (i : Int), xs = [.agg (lX x), I i] ∧ (okM x) := ⟨_, _, h.1, h.2⟩
theorem F51_res (x : Ldd) (i : Int) : F51.res [.agg (lX x), I i] = (ansI (isAt x i) (hop x.par i)) := by simp [F51]
theorem F51_mk (x : Ldd) (i : Int) (h : okM x) : F51.pre [.agg (lX x), I i] := by simpa [F51] using h
theorem c51 : GenCA K Tryz.prog 51 F51 := by
  refine contractA Tryz.mix K [(85, F85), (95, F95)] [] (by simp [c85, c95]) (by simp) Tryz.func51 rfl (by decide) ?_
  intro xs hxs
  obtain ⟨x, i, rfl, hp⟩ := F51_in hxs
  rw [F51_res]
  refine ⟨by rw [Tryz.ntmps51]; simp, ?_⟩
  cases g : isAt x i with
  | false =>
    rw [ansI_f]
    simp -implicitDefEqProofs [Tryz.f51, F85, F95, List.lookup_cons, eS, hp, g]
    refine fin_pure (by simp) ?_
    simp -implicitDefEqProofs [fS, rn0, pickObs, deI]
  | true =>
    rw [ansI_t]
    obtain ⟨j, rfl, hj, G⟩ := isAt_nat g
    simp -implicitDefEqProofs [Tryz.f51, F85, F95, List.lookup_cons, eS, hp, g, G, hj, iOb]
    refine fin_own [1] (by simp [pickOk, -List.all_eq_true, iR_ok]) ?_
    simp -implicitDefEqProofs [fS, rn0, pickObs, deI, iOb]
theorem c50 : GenCA K Tryz.prog 50 F51 := by
  refine contractA Tryz.mix K [(84, F85), (75, F95)] [] (by simp [c84, c75]) (by simp) Tryz.func50 rfl (by decide) ?_
  intro xs hxs
  obtain ⟨x, i, rfl, hp⟩ := F51_in hxs
  rw [F51_res]
  refine ⟨by rw [Tryz.ntmps50]; simp, ?_⟩
  cases g : isAt x i with
  | false =>
    rw [ansI_f]
    simp -implicitDefEqProofs [Tryz.f50, F85, F95, List.lookup_cons, eS, hp, g]
    refine fin_pure (by simp) ?_
    simp -implicitDefEqProofs [fS, rn0, pickObs, deI]
  | true =>
    rw [ansI_t]
    obtain ⟨j, rfl, hj, G⟩ := isAt_nat g
    simp -implicitDefEqProofs [Tryz.f50, F85, F95, List.lookup_cons, eS, hp, g, G, hj, iOb]
    refine fin_own [1] (by simp [pickOk, -List.all_eq_true, iR_ok]) ?_
    simp -implicitDefEqProofs [fS, rn0, pickObs, deI, iOb]
end Go.Proofs
