/-
  What is proved here: contracts of what tokens allow. Condition: none.
-/
import Derived.Test.YtdpmlddmdogggaaGreatDoorIL10tj
namespace Go.Proofs
open Go.Abs
set_option linter.unusedSimpArgs false
set_option linter.unnecessarySimpa false
set_option linter.unusedVariables false
set_option maxHeartbeats 16000000
set_option maxRecDepth 20000
def F41 : Fun := ⟨fun xs => xs = [.agg (lX (deL (xs.getD 0 .top) : Ldd)), .agg (tkX (deTk (xs.getD 1 .top) : Tok))] ∧ (fun (x : Ldd) (t : Tok) => (okM x)) (deL (xs.getD 0 .top) : Ldd) (deTk (xs.getD 1 .top) : Tok), fun xs => (fun (x : Ldd) (t : Tok) => ((bbX (isLd x) (atB x t), []) : X × List Ob)) (deL (xs.getD 0 .top) : Ldd) (deTk (xs.getD 1 .top) : Tok)⟩
theorem F41_in {xs : List X} (h : F41.pre xs) : ∃ (x : Ldd) (t : Tok), xs = [.agg (lX x), .agg (tkX t)] ∧ (okM x) := ⟨_, _, h.1, h.2⟩
theorem F41_res (x : Ldd) (t : Tok) : F41.res [.agg (lX x), .agg (tkX t)] = (bbX (isLd x) (atB x t), []) := by simp [F41]
theorem F41_mk (x : Ldd) (t : Tok) (h : okM x) : F41.pre [.agg (lX x), .agg (tkX t)] := by simpa [F41] using h
theorem c41 : GenCA K Tryz.prog 41 F41 := by
  refine contractA Tryz.mix K [(33, F33), (90, F90)] [] (by simp [c33, c90]) (by simp) Tryz.func41 rfl (by decide) ?_
  intro xs hxs
  obtain ⟨x, t, rfl, hp⟩ := F41_in hxs
  rw [F41_res]
  refine ⟨by rw [Tryz.ntmps41]; simp, ?_⟩
  cases g : isLd x with
  | false =>
    rw [bbX_f]
    simp -implicitDefEqProofs [Tryz.f41, F33, F90, List.lookup_cons, eS, hp, g]
    refine fin_pure (by simp) ?_
    simp -implicitDefEqProofs [fS, rn0, pickObs, deI]
  | true =>
    rw [bbX_t]
    simp -implicitDefEqProofs [Tryz.f41, F33, F90, List.lookup_cons, eS, hp, g]
    refine fin_pure (by simp) ?_
    simp -implicitDefEqProofs [fS, rn0, pickObs, deI]
theorem c40 : GenCA K Tryz.prog 40 F41 := by
  refine contractA Tryz.mix K [(61, F33), (89, F90)] [] (by simp [c61, c89]) (by simp) Tryz.func40 rfl (by decide) ?_
  intro xs hxs
  obtain ⟨x, t, rfl, hp⟩ := F41_in hxs
  rw [F41_res]
  refine ⟨by rw [Tryz.ntmps40]; simp, ?_⟩
  cases g : isLd x with
  | false =>
    rw [bbX_f]
    simp -implicitDefEqProofs [Tryz.f40, F33, F90, List.lookup_cons, eS, hp, g]
    refine fin_pure (by simp) ?_
    simp -implicitDefEqProofs [fS, rn0, pickObs, deI]
  | true =>
    rw [bbX_t]
    simp -implicitDefEqProofs [Tryz.f40, F33, F90, List.lookup_cons, eS, hp, g]
    refine fin_pure (by simp) ?_
    simp -implicitDefEqProofs [fS, rn0, pickObs, deI]
end Go.Proofs
