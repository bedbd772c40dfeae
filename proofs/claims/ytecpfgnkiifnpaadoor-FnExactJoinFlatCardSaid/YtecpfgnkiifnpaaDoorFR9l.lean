/-
  What is proved here: contracts of the words of a line, and of what the numbers make. Condition: none.
-/
import Derived.Test.YtecpfgnkiifnpaaDoorFR8l
import Derived.Test.YtecpfgnkiifnpaaDoorFP4
import Derived.Test.YtecpfgnkiifnpaaDoorS0l
namespace Go.Proofs
open Go.Abs Go.Flat
set_option linter.unusedSimpArgs false
set_option linter.unnecessarySimpa false
set_option linter.unusedVariables false
set_option maxHeartbeats 8000000
set_option maxRecDepth 20000
def F77 : Fun := ⟨fun xs => xs = [], fun _ => (.sl (sR fwL), [])⟩
theorem c77 : GenCA K Tryd.prog 77 F77 := by
  refine contractA Tryd.mix K [] [] (by simp) (by simp) Tryd.func77 rfl (by decide) ?_
  rintro xs rfl
  refine ⟨by rw [Tryd.ntmps77]; simp, ?_⟩
  simp -implicitDefEqProofs [Tryd.f77, List.lookup_cons, eS, eBuildSlice, fillX, chunk, plain, cellsX, splice]
  refine fin_pure (by simp) ?_
  rfl
def F75 : Fun := ⟨fun xs => xs = [], fun _ => (.sl (sR cwL), [])⟩
theorem c75 : GenCA K Tryd.prog 75 F75 := by
  refine contractA Tryd.mix K [] [] (by simp) (by simp) Tryd.func75 rfl (by decide) ?_
  rintro xs rfl
  refine ⟨by rw [Tryd.ntmps75]; simp, ?_⟩
  simp -implicitDefEqProofs [Tryd.f75, List.lookup_cons, eS, eBuildSlice, fillX, chunk, plain, cellsX, splice]
  refine fin_pure (by simp) ?_
  rfl
def F76 : Fun := ⟨fun xs => ∃ a0 a1 a2 a3 a4 : Int, xs = [.sl (iR [a0, a1, a2, a3, a4])], fun xs => (.agg ((deIs (xs.getD 0 .top)).map fun a => I a), [])⟩
theorem wi_5 (a0 a1 a2 a3 a4 : Int) : F76.res [.sl (iR [a0, a1, a2, a3, a4])] = (.agg [I a0, I a1, I a2, I a3, I a4], []) := by simp [F76]
theorem c76 : GenCA K Tryd.prog 76 F76 := by
  refine contractA Tryd.mix K [] [] (by simp) (by simp) Tryd.func76 rfl (by decide) ?_
  rintro xs ⟨a0, a1, a2, a3, a4, rfl⟩
  rw [wi_5]
  refine ⟨by rw [Tryd.ntmps76]; simp, ?_⟩
  simp -implicitDefEqProofs [Tryd.f76, List.lookup_cons, eS, iR]
  refine drawP_cut _ 16 (by decide) ?_
  simp -implicitDefEqProofs [List.lookup_cons, eS, iR]
  refine fin_pure (by simp) ?_
  simp -implicitDefEqProofs [fS, rn0, pickObs, deI]
theorem c67 : GenCA K Tryd.prog 67 F76 := by
  refine contractA Tryd.mix K [] [] (by simp) (by simp) Tryd.func67 rfl (by decide) ?_
  rintro xs ⟨a0, a1, a2, a3, a4, rfl⟩
  rw [wi_5]
  refine ⟨by rw [Tryd.ntmps67]; simp, ?_⟩
  simp -implicitDefEqProofs [Tryd.f67, List.lookup_cons, eS, iR]
  refine drawP_cut _ 16 (by decide) ?_
  simp -implicitDefEqProofs [List.lookup_cons, eS, iR]
  refine fin_pure (by simp) ?_
  simp -implicitDefEqProofs [fS, rn0, pickObs, deI]
def F74 : Fun := ⟨fun xs => ∃ a0 a1 a2 a3 a4 a5 a6 a7 : Int, xs = [.sl (iR [a0, a1, a2, a3, a4, a5, a6, a7])], fun xs => (.agg ((deIs (xs.getD 0 .top)).map fun a => I a), [])⟩
theorem wi_8 (a0 a1 a2 a3 a4 a5 a6 a7 : Int) : F74.res [.sl (iR [a0, a1, a2, a3, a4, a5, a6, a7])] = (.agg [I a0, I a1, I a2, I a3, I a4, I a5, I a6, I a7], []) := by simp [F74]
theorem c74 : GenCA K Tryd.prog 74 F74 := by
  refine contractA Tryd.mix K [] [] (by simp) (by simp) Tryd.func74 rfl (by decide) ?_
  rintro xs ⟨a0, a1, a2, a3, a4, a5, a6, a7, rfl⟩
  rw [wi_8]
  refine ⟨by rw [Tryd.ntmps74]; simp, ?_⟩
  simp -implicitDefEqProofs [Tryd.f74, List.lookup_cons, eS, iR]
  refine drawP_cut _ 25 (by decide) ?_
  simp -implicitDefEqProofs [List.lookup_cons, eS, iR]
  refine fin_pure (by simp) ?_
  simp -implicitDefEqProofs [fS, rn0, pickObs, deI]
theorem c66 : GenCA K Tryd.prog 66 F74 := by
  refine contractA Tryd.mix K [] [] (by simp) (by simp) Tryd.func66 rfl (by decide) ?_
  rintro xs ⟨a0, a1, a2, a3, a4, a5, a6, a7, rfl⟩
  rw [wi_8]
  refine ⟨by rw [Tryd.ntmps66]; simp, ?_⟩
  simp -implicitDefEqProofs [Tryd.f66, List.lookup_cons, eS, iR]
  refine drawP_cut _ 25 (by decide) ?_
  simp -implicitDefEqProofs [List.lookup_cons, eS, iR]
  refine fin_pure (by simp) ?_
  simp -implicitDefEqProofs [fS, rn0, pickObs, deI]
def F87 : Fun := ⟨fun xs => ∃ w, xs = [Sx w], fun xs => (.sl (sR (wordsW (deS (xs.getD 0 .top)))), [])⟩
theorem toL_ne {b : ByteArray} {l : List UInt8} (h : b ≠ ofL l) : ¬ b.toList = l := by
  rw [toL]
  intro e
  exact h (by rw [← e, ofL_bL])
theorem c87 : GenCA K Tryd.prog 87 F87 := by
  refine contractA Tryd.mix K [] [] (by simp) (by simp) Tryd.func87 rfl (by decide) ?_
  rintro xs ⟨w, rfl⟩
  refine ⟨by rw [Tryd.ntmps87]; simp, ?_⟩
  have hr : F87.res [Sx w] = (.sl (sR (wordsW w)), []) := rfl
  rw [hr]
  by_cases h1 : w = kwConfig
  · subst h1
    simp -implicitDefEqProofs [Tryd.f87, List.lookup_cons, eS, Sx, kwConfig, eBuildSlice, fillX, chunk, plain, cellsX, splice]
    refine fin_pure (by simp) ?_
    rfl
  by_cases h2 : w = kwDefault
  · subst h2
    simp -implicitDefEqProofs [Tryd.f87, List.lookup_cons, eS, Sx, kwDefault, eBuildSlice, fillX, chunk, plain, cellsX, splice]
    refine fin_pure (by simp) ?_
    rfl
  by_cases h3 : w = kwClass
  · subst h3
    simp -implicitDefEqProofs [Tryd.f87, List.lookup_cons, eS, Sx, kwClass, eBuildSlice, fillX, chunk, plain, cellsX, splice]
    refine fin_pure (by simp) ?_
    rfl
  by_cases h4 : w = kwFilter
  · subst h4
    simp -implicitDefEqProofs [Tryd.f87, List.lookup_cons, eS, Sx, kwFilter, eBuildSlice, fillX, chunk, plain, cellsX, splice]
    refine fin_pure (by simp) ?_
    rfl
  have g1 : ¬ w.toList = [99, 111, 110, 102, 105, 103] := toL_ne h1
  have g2 : ¬ w.toList = [100, 101, 102, 97, 117, 108, 116] := toL_ne h2
  have g3 : ¬ w.toList = [99, 108, 97, 115, 115] := toL_ne h3
  have g4 : ¬ w.toList = [102, 105, 108, 116, 101, 114] := toL_ne h4
  have e : wordsW w = [] := by simp only [wordsW, if_neg h1, if_neg h2, if_neg h3, if_neg h4]
  rw [e]
  simp -implicitDefEqProofs [Tryd.f87, List.lookup_cons, eS, Sx, g1, g2, g3, g4]
  refine fin_pure (by simp) ?_
  simp -implicitDefEqProofs [fS, rn0, pickObs, deI, sR]
def F43 : Fun := ⟨fun xs => ∃ k a, xs = [I k, I a], fun xs => (.agg [I (deI (xs.getD 0 .top)), I (deI (xs.getD 1 .top))], [])⟩
theorem c43 : GenCA K Tryd.prog 43 F43 := by
  refine contractA Tryd.mix K [] [] (by simp) (by simp) Tryd.func43 rfl (by decide) ?_
  rintro xs ⟨k, a, rfl⟩
  refine ⟨by rw [Tryd.ntmps43]; simp, ?_⟩
  simp -implicitDefEqProofs [Tryd.f43, List.lookup_cons, eS]
  refine fin_pure (by simp) ?_
  simp -implicitDefEqProofs [fS, rn0, pickObs, deI, F43, deI]
end Go.Proofs
