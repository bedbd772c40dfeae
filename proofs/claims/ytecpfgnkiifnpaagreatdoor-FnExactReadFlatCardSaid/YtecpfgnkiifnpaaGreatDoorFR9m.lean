/-
  What is proved here: contracts of the words of a line, and of what the numbers make. Condition: none.
-/
import Derived.Test.YtecpfgnkiifnpaaGreatDoorFR8m
import Derived.Test.YtecpfgnkiifnpaaGreatDoorFP4
import Derived.Test.YtecpfgnkiifnpaaGreatDoorS0m
namespace Go.Proofs
open Go.Abs Go.Flat
set_option linter.unusedSimpArgs false
set_option linter.unnecessarySimpa false
set_option linter.unusedVariables false
set_option maxHeartbeats 8000000
set_option maxRecDepth 20000
def F81 : Fun := ⟨fun xs => xs = [], fun _ => (.sl (sR fwL), [])⟩
theorem c81 : GenCA K Tryz.prog 81 F81 := by
  refine contractA Tryz.mix K [] [] (by simp) (by simp) Tryz.func81 rfl (by decide) ?_
  rintro xs rfl
  refine ⟨by rw [Tryz.ntmps81]; simp, ?_⟩
  simp -implicitDefEqProofs [Tryz.f81, List.lookup_cons, eS, eBuildSlice, fillX, chunk, plain, cellsX, splice]
  refine fin_pure (by simp) ?_
  rfl
def F78 : Fun := ⟨fun xs => xs = [], fun _ => (.sl (sR cwL), [])⟩
theorem c78 : GenCA K Tryz.prog 78 F78 := by
  refine contractA Tryz.mix K [] [] (by simp) (by simp) Tryz.func78 rfl (by decide) ?_
  rintro xs rfl
  refine ⟨by rw [Tryz.ntmps78]; simp, ?_⟩
  simp -implicitDefEqProofs [Tryz.f78, List.lookup_cons, eS, eBuildSlice, fillX, chunk, plain, cellsX, splice]
  refine fin_pure (by simp) ?_
  rfl
def F93 : Fun := ⟨fun xs => ∃ a0 a1 a2 a3 a4 : Int, xs = [.sl (iR [a0, a1, a2, a3, a4])], fun xs => (.agg ((deIs (xs.getD 0 .top)).map fun a => I a), [])⟩
theorem wi_5 (a0 a1 a2 a3 a4 : Int) : F93.res [.sl (iR [a0, a1, a2, a3, a4])] = (.agg [I a0, I a1, I a2, I a3, I a4], []) := by simp [F93]
theorem c93 : GenCA K Tryz.prog 93 F93 := by
  refine contractA Tryz.mix K [] [] (by simp) (by simp) Tryz.func93 rfl (by decide) ?_
  rintro xs ⟨a0, a1, a2, a3, a4, rfl⟩
  rw [wi_5]
  refine ⟨by rw [Tryz.ntmps93]; simp, ?_⟩
  simp -implicitDefEqProofs [Tryz.f93, List.lookup_cons, eS, iR]
  refine drawP_cut _ 16 (by decide) ?_
  simp -implicitDefEqProofs [List.lookup_cons, eS, iR]
  refine fin_pure (by simp) ?_
  simp -implicitDefEqProofs [fS, rn0, pickObs, deI]
theorem c50 : GenCA K Tryz.prog 50 F93 := by
  refine contractA Tryz.mix K [] [] (by simp) (by simp) Tryz.func50 rfl (by decide) ?_
  rintro xs ⟨a0, a1, a2, a3, a4, rfl⟩
  rw [wi_5]
  refine ⟨by rw [Tryz.ntmps50]; simp, ?_⟩
  simp -implicitDefEqProofs [Tryz.f50, List.lookup_cons, eS, iR]
  refine drawP_cut _ 16 (by decide) ?_
  simp -implicitDefEqProofs [List.lookup_cons, eS, iR]
  refine fin_pure (by simp) ?_
  simp -implicitDefEqProofs [fS, rn0, pickObs, deI]
def F92 : Fun := ⟨fun xs => ∃ a0 a1 a2 a3 a4 a5 a6 a7 : Int, xs = [.sl (iR [a0, a1, a2, a3, a4, a5, a6, a7])], fun xs => (.agg ((deIs (xs.getD 0 .top)).map fun a => I a), [])⟩
theorem wi_8 (a0 a1 a2 a3 a4 a5 a6 a7 : Int) : F92.res [.sl (iR [a0, a1, a2, a3, a4, a5, a6, a7])] = (.agg [I a0, I a1, I a2, I a3, I a4, I a5, I a6, I a7], []) := by simp [F92]
theorem c92 : GenCA K Tryz.prog 92 F92 := by
  refine contractA Tryz.mix K [] [] (by simp) (by simp) Tryz.func92 rfl (by decide) ?_
  rintro xs ⟨a0, a1, a2, a3, a4, a5, a6, a7, rfl⟩
  rw [wi_8]
  refine ⟨by rw [Tryz.ntmps92]; simp, ?_⟩
  simp -implicitDefEqProofs [Tryz.f92, List.lookup_cons, eS, iR]
  refine drawP_cut _ 25 (by decide) ?_
  simp -implicitDefEqProofs [List.lookup_cons, eS, iR]
  refine fin_pure (by simp) ?_
  simp -implicitDefEqProofs [fS, rn0, pickObs, deI]
theorem c49 : GenCA K Tryz.prog 49 F92 := by
  refine contractA Tryz.mix K [] [] (by simp) (by simp) Tryz.func49 rfl (by decide) ?_
  rintro xs ⟨a0, a1, a2, a3, a4, a5, a6, a7, rfl⟩
  rw [wi_8]
  refine ⟨by rw [Tryz.ntmps49]; simp, ?_⟩
  simp -implicitDefEqProofs [Tryz.f49, List.lookup_cons, eS, iR]
  refine drawP_cut _ 25 (by decide) ?_
  simp -implicitDefEqProofs [List.lookup_cons, eS, iR]
  refine fin_pure (by simp) ?_
  simp -implicitDefEqProofs [fS, rn0, pickObs, deI]
def F82 : Fun := ⟨fun xs => ∃ w, xs = [Sx w], fun xs => (.sl (sR (wordsW (deS (xs.getD 0 .top)))), [])⟩
theorem toL_ne {b : ByteArray} {l : List UInt8} (h : b ≠ ofL l) : ¬ b.toList = l := by
  rw [toL]
  intro e
  exact h (by rw [← e, ofL_bL])
theorem c82 : GenCA K Tryz.prog 82 F82 := by
  refine contractA Tryz.mix K [] [] (by simp) (by simp) Tryz.func82 rfl (by decide) ?_
  rintro xs ⟨w, rfl⟩
  refine ⟨by rw [Tryz.ntmps82]; simp, ?_⟩
  have hr : F82.res [Sx w] = (.sl (sR (wordsW w)), []) := rfl
  rw [hr]
  by_cases h1 : w = kwConfig
  · subst h1
    simp -implicitDefEqProofs [Tryz.f82, List.lookup_cons, eS, Sx, kwConfig, eBuildSlice, fillX, chunk, plain, cellsX, splice]
    refine fin_pure (by simp) ?_
    rfl
  by_cases h2 : w = kwDefault
  · subst h2
    simp -implicitDefEqProofs [Tryz.f82, List.lookup_cons, eS, Sx, kwDefault, eBuildSlice, fillX, chunk, plain, cellsX, splice]
    refine fin_pure (by simp) ?_
    rfl
  by_cases h3 : w = kwClass
  · subst h3
    simp -implicitDefEqProofs [Tryz.f82, List.lookup_cons, eS, Sx, kwClass, eBuildSlice, fillX, chunk, plain, cellsX, splice]
    refine fin_pure (by simp) ?_
    rfl
  by_cases h4 : w = kwFilter
  · subst h4
    simp -implicitDefEqProofs [Tryz.f82, List.lookup_cons, eS, Sx, kwFilter, eBuildSlice, fillX, chunk, plain, cellsX, splice]
    refine fin_pure (by simp) ?_
    rfl
  have g1 : ¬ w.toList = [99, 111, 110, 102, 105, 103] := toL_ne h1
  have g2 : ¬ w.toList = [100, 101, 102, 97, 117, 108, 116] := toL_ne h2
  have g3 : ¬ w.toList = [99, 108, 97, 115, 115] := toL_ne h3
  have g4 : ¬ w.toList = [102, 105, 108, 116, 101, 114] := toL_ne h4
  have e : wordsW w = [] := by simp only [wordsW, if_neg h1, if_neg h2, if_neg h3, if_neg h4]
  rw [e]
  simp -implicitDefEqProofs [Tryz.f82, List.lookup_cons, eS, Sx, g1, g2, g3, g4]
  refine fin_pure (by simp) ?_
  simp -implicitDefEqProofs [fS, rn0, pickObs, deI, sR]
def F25 : Fun := ⟨fun xs => ∃ k a, xs = [I k, I a], fun xs => (.agg [I (deI (xs.getD 0 .top)), I (deI (xs.getD 1 .top))], [])⟩
theorem c25 : GenCA K Tryz.prog 25 F25 := by
  refine contractA Tryz.mix K [] [] (by simp) (by simp) Tryz.func25 rfl (by decide) ?_
  rintro xs ⟨k, a, rfl⟩
  refine ⟨by rw [Tryz.ntmps25]; simp, ?_⟩
  simp -implicitDefEqProofs [Tryz.f25, List.lookup_cons, eS]
  refine fin_pure (by simp) ?_
  simp -implicitDefEqProofs [fS, rn0, pickObs, deI, F25, deI]
end Go.Proofs
