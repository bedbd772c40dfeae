/-
  What is proved here: contracts of the words of a line, and of what the numbers make. Condition: none.
-/
import Derived.Test.YtecpfgnkiifnpaaFR8k
import Derived.Test.YtecpfgnkiifnpaaFP4
import Derived.Test.YtecpfgnkiifnpaaS0k
namespace Go.Proofs
open Go.Abs Go.Flat
set_option linter.unusedSimpArgs false
set_option linter.unnecessarySimpa false
set_option linter.unusedVariables false
set_option maxHeartbeats 8000000
set_option maxRecDepth 20000
def F26 : Fun := ⟨fun xs => xs = [], fun _ => (.sl (sR fwL), [])⟩
theorem c26 : GenCA K Try.prog 26 F26 := by
  refine contractA Try.mix K [] [] (by simp) (by simp) Try.func26 rfl (by decide) ?_
  rintro xs rfl
  refine ⟨by rw [Try.ntmps26]; simp, ?_⟩
  simp -implicitDefEqProofs [Try.f26, List.lookup_cons, eS, eBuildSlice, fillX, chunk, plain, cellsX, splice]
  refine fin_pure (by simp) ?_
  rfl
def F29 : Fun := ⟨fun xs => xs = [], fun _ => (.sl (sR cwL), [])⟩
theorem c29 : GenCA K Try.prog 29 F29 := by
  refine contractA Try.mix K [] [] (by simp) (by simp) Try.func29 rfl (by decide) ?_
  rintro xs rfl
  refine ⟨by rw [Try.ntmps29]; simp, ?_⟩
  simp -implicitDefEqProofs [Try.f29, List.lookup_cons, eS, eBuildSlice, fillX, chunk, plain, cellsX, splice]
  refine fin_pure (by simp) ?_
  rfl
def F27 : Fun := ⟨fun xs => ∃ a0 a1 a2 a3 a4 : Int, xs = [.sl (iR [a0, a1, a2, a3, a4])], fun xs => (.agg ((deIs (xs.getD 0 .top)).map fun a => I a), [])⟩
theorem wi_5 (a0 a1 a2 a3 a4 : Int) : F27.res [.sl (iR [a0, a1, a2, a3, a4])] = (.agg [I a0, I a1, I a2, I a3, I a4], []) := by simp [F27]
theorem c27 : GenCA K Try.prog 27 F27 := by
  refine contractA Try.mix K [] [] (by simp) (by simp) Try.func27 rfl (by decide) ?_
  rintro xs ⟨a0, a1, a2, a3, a4, rfl⟩
  rw [wi_5]
  refine ⟨by rw [Try.ntmps27]; simp, ?_⟩
  simp -implicitDefEqProofs [Try.f27, List.lookup_cons, eS, iR]
  refine drawP_cut _ 16 (by decide) ?_
  simp -implicitDefEqProofs [List.lookup_cons, eS, iR]
  refine fin_pure (by simp) ?_
  simp -implicitDefEqProofs [fS, rn0, pickObs, deI]
theorem c24 : GenCA K Try.prog 24 F27 := by
  refine contractA Try.mix K [] [] (by simp) (by simp) Try.func24 rfl (by decide) ?_
  rintro xs ⟨a0, a1, a2, a3, a4, rfl⟩
  rw [wi_5]
  refine ⟨by rw [Try.ntmps24]; simp, ?_⟩
  simp -implicitDefEqProofs [Try.f24, List.lookup_cons, eS, iR]
  refine drawP_cut _ 16 (by decide) ?_
  simp -implicitDefEqProofs [List.lookup_cons, eS, iR]
  refine fin_pure (by simp) ?_
  simp -implicitDefEqProofs [fS, rn0, pickObs, deI]
def F30 : Fun := ⟨fun xs => ∃ a0 a1 a2 a3 a4 a5 a6 a7 : Int, xs = [.sl (iR [a0, a1, a2, a3, a4, a5, a6, a7])], fun xs => (.agg ((deIs (xs.getD 0 .top)).map fun a => I a), [])⟩
theorem wi_8 (a0 a1 a2 a3 a4 a5 a6 a7 : Int) : F30.res [.sl (iR [a0, a1, a2, a3, a4, a5, a6, a7])] = (.agg [I a0, I a1, I a2, I a3, I a4, I a5, I a6, I a7], []) := by simp [F30]
theorem c30 : GenCA K Try.prog 30 F30 := by
  refine contractA Try.mix K [] [] (by simp) (by simp) Try.func30 rfl (by decide) ?_
  rintro xs ⟨a0, a1, a2, a3, a4, a5, a6, a7, rfl⟩
  rw [wi_8]
  refine ⟨by rw [Try.ntmps30]; simp, ?_⟩
  simp -implicitDefEqProofs [Try.f30, List.lookup_cons, eS, iR]
  refine drawP_cut _ 25 (by decide) ?_
  simp -implicitDefEqProofs [List.lookup_cons, eS, iR]
  refine fin_pure (by simp) ?_
  simp -implicitDefEqProofs [fS, rn0, pickObs, deI]
theorem c28 : GenCA K Try.prog 28 F30 := by
  refine contractA Try.mix K [] [] (by simp) (by simp) Try.func28 rfl (by decide) ?_
  rintro xs ⟨a0, a1, a2, a3, a4, a5, a6, a7, rfl⟩
  rw [wi_8]
  refine ⟨by rw [Try.ntmps28]; simp, ?_⟩
  simp -implicitDefEqProofs [Try.f28, List.lookup_cons, eS, iR]
  refine drawP_cut _ 25 (by decide) ?_
  simp -implicitDefEqProofs [List.lookup_cons, eS, iR]
  refine fin_pure (by simp) ?_
  simp -implicitDefEqProofs [fS, rn0, pickObs, deI]
def F35 : Fun := ⟨fun xs => ∃ w, xs = [Sx w], fun xs => (.sl (sR (wordsW (deS (xs.getD 0 .top)))), [])⟩
theorem toL_ne {b : ByteArray} {l : List UInt8} (h : b ≠ ofL l) : ¬ b.toList = l := by
  rw [toL]
  intro e
  exact h (by rw [← e, ofL_bL])
theorem c35 : GenCA K Try.prog 35 F35 := by
  refine contractA Try.mix K [] [] (by simp) (by simp) Try.func35 rfl (by decide) ?_
  rintro xs ⟨w, rfl⟩
  refine ⟨by rw [Try.ntmps35]; simp, ?_⟩
  have hr : F35.res [Sx w] = (.sl (sR (wordsW w)), []) := rfl
  rw [hr]
  by_cases h1 : w = kwConfig
  · subst h1
    simp -implicitDefEqProofs [Try.f35, List.lookup_cons, eS, Sx, kwConfig, eBuildSlice, fillX, chunk, plain, cellsX, splice]
    refine fin_pure (by simp) ?_
    rfl
  by_cases h2 : w = kwDefault
  · subst h2
    simp -implicitDefEqProofs [Try.f35, List.lookup_cons, eS, Sx, kwDefault, eBuildSlice, fillX, chunk, plain, cellsX, splice]
    refine fin_pure (by simp) ?_
    rfl
  by_cases h3 : w = kwClass
  · subst h3
    simp -implicitDefEqProofs [Try.f35, List.lookup_cons, eS, Sx, kwClass, eBuildSlice, fillX, chunk, plain, cellsX, splice]
    refine fin_pure (by simp) ?_
    rfl
  by_cases h4 : w = kwFilter
  · subst h4
    simp -implicitDefEqProofs [Try.f35, List.lookup_cons, eS, Sx, kwFilter, eBuildSlice, fillX, chunk, plain, cellsX, splice]
    refine fin_pure (by simp) ?_
    rfl
  have g1 : ¬ w.toList = [99, 111, 110, 102, 105, 103] := toL_ne h1
  have g2 : ¬ w.toList = [100, 101, 102, 97, 117, 108, 116] := toL_ne h2
  have g3 : ¬ w.toList = [99, 108, 97, 115, 115] := toL_ne h3
  have g4 : ¬ w.toList = [102, 105, 108, 116, 101, 114] := toL_ne h4
  have e : wordsW w = [] := by simp only [wordsW, if_neg h1, if_neg h2, if_neg h3, if_neg h4]
  rw [e]
  simp -implicitDefEqProofs [Try.f35, List.lookup_cons, eS, Sx, g1, g2, g3, g4]
  refine fin_pure (by simp) ?_
  simp -implicitDefEqProofs [fS, rn0, pickObs, deI, sR]
def F31 : Fun := ⟨fun xs => ∃ k a, xs = [I k, I a], fun xs => (.agg [I (deI (xs.getD 0 .top)), I (deI (xs.getD 1 .top))], [])⟩
theorem c31 : GenCA K Try.prog 31 F31 := by
  refine contractA Try.mix K [] [] (by simp) (by simp) Try.func31 rfl (by decide) ?_
  rintro xs ⟨k, a, rfl⟩
  refine ⟨by rw [Try.ntmps31]; simp, ?_⟩
  simp -implicitDefEqProofs [Try.f31, List.lookup_cons, eS]
  refine fin_pure (by simp) ?_
  simp -implicitDefEqProofs [fS, rn0, pickObs, deI, F31, deI]
end Go.Proofs
