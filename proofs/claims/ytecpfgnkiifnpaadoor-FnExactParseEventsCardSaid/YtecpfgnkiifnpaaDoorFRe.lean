/-
  What is proved here: contracts of the words of a line, and of what the numbers make. Condition: none.
  What is proved here: the contract of the reference's splitting. Condition: none.
-/
import Derived.Test.YtecpfgnkiifnpaaDoorFR8n
import Derived.Test.YtecpfgnkiifnpaaDoorFPb
import Derived.Test.YtecpfgnkiifnpaaDoorS0n
set_option linter.unusedVariables false
set_option linter.unusedSimpArgs false
set_option linter.unnecessarySimpa false
set_option maxHeartbeats 8000000
set_option maxRecDepth 20000
namespace Go.Proofs
open Go.Abs Go.Flat
def Fr77 : Fun := ⟨fun xs => xs = [], fun _ => (.sl (sR fwL), [])⟩
theorem cr77 : GenCA K Tryd.prog 77 Fr77 := by
  refine contractA Tryd.mix K [] [] (by simp) (by simp) Tryd.func77 rfl (by decide) ?_
  rintro xs rfl
  refine ⟨by rw [Tryd.ntmps77]; simp, ?_⟩
  simp -implicitDefEqProofs [Tryd.f77, List.lookup_cons, eS, eBuildSlice, fillX, chunk, plain, cellsX, splice]
  refine fin_pure (by simp) ?_
  rfl
def Fr75 : Fun := ⟨fun xs => xs = [], fun _ => (.sl (sR cwL), [])⟩
theorem cr75 : GenCA K Tryd.prog 75 Fr75 := by
  refine contractA Tryd.mix K [] [] (by simp) (by simp) Tryd.func75 rfl (by decide) ?_
  rintro xs rfl
  refine ⟨by rw [Tryd.ntmps75]; simp, ?_⟩
  simp -implicitDefEqProofs [Tryd.f75, List.lookup_cons, eS, eBuildSlice, fillX, chunk, plain, cellsX, splice]
  refine fin_pure (by simp) ?_
  rfl
def F76 : Fun := ⟨fun xs => ∃ a0 a1 a2 a3 a4 : Int, xs = [.sl (iR [a0, a1, a2, a3, a4])], fun xs => (.agg ((deIs (xs.getD 0 .top)).map fun a => I a), [])⟩
theorem wi_5 (a0 a1 a2 a3 a4 : Int) : F76.res [.sl (iR [a0, a1, a2, a3, a4])] = (.agg [I a0, I a1, I a2, I a3, I a4], []) := by simp [F76]
theorem c76 : GenCA K Tryd.prog 76 F76 := by
  refine contractA Tryd.mix K [] [] (by simp) (by simp) Tryd.func76 rfl (by decide) ?_
  rintro xs ⟨a0, a1, a2, a3, a4, rfl⟩
  rw [wi_5]
  refine ⟨by rw [Tryd.ntmps76]; simp, ?_⟩
  simp -implicitDefEqProofs [Tryd.f76, List.lookup_cons, eS, iR]
  refine drawP_cut _ 16 (by decide) ?_
  simp -implicitDefEqProofs [List.lookup_cons, eS, iR]
  refine fin_pure (by simp) ?_
  simp -implicitDefEqProofs [fS, rn0, pickObs, deI]
theorem c67 : GenCA K Tryd.prog 67 F76 := by
  refine contractA Tryd.mix K [] [] (by simp) (by simp) Tryd.func67 rfl (by decide) ?_
  rintro xs ⟨a0, a1, a2, a3, a4, rfl⟩
  rw [wi_5]
  refine ⟨by rw [Tryd.ntmps67]; simp, ?_⟩
  simp -implicitDefEqProofs [Tryd.f67, List.lookup_cons, eS, iR]
  refine drawP_cut _ 16 (by decide) ?_
  simp -implicitDefEqProofs [List.lookup_cons, eS, iR]
  refine fin_pure (by simp) ?_
  simp -implicitDefEqProofs [fS, rn0, pickObs, deI]
def F74 : Fun := ⟨fun xs => ∃ a0 a1 a2 a3 a4 a5 a6 a7 : Int, xs = [.sl (iR [a0, a1, a2, a3, a4, a5, a6, a7])], fun xs => (.agg ((deIs (xs.getD 0 .top)).map fun a => I a), [])⟩
theorem wi_8 (a0 a1 a2 a3 a4 a5 a6 a7 : Int) : F74.res [.sl (iR [a0, a1, a2, a3, a4, a5, a6, a7])] = (.agg [I a0, I a1, I a2, I a3, I a4, I a5, I a6, I a7], []) := by simp [F74]
theorem c74 : GenCA K Tryd.prog 74 F74 := by
  refine contractA Tryd.mix K [] [] (by simp) (by simp) Tryd.func74 rfl (by decide) ?_
  rintro xs ⟨a0, a1, a2, a3, a4, a5, a6, a7, rfl⟩
  rw [wi_8]
  refine ⟨by rw [Tryd.ntmps74]; simp, ?_⟩
  simp -implicitDefEqProofs [Tryd.f74, List.lookup_cons, eS, iR]
  refine drawP_cut _ 25 (by decide) ?_
  simp -implicitDefEqProofs [List.lookup_cons, eS, iR]
  refine fin_pure (by simp) ?_
  simp -implicitDefEqProofs [fS, rn0, pickObs, deI]
theorem c66 : GenCA K Tryd.prog 66 F74 := by
  refine contractA Tryd.mix K [] [] (by simp) (by simp) Tryd.func66 rfl (by decide) ?_
  rintro xs ⟨a0, a1, a2, a3, a4, a5, a6, a7, rfl⟩
  rw [wi_8]
  refine ⟨by rw [Tryd.ntmps66]; simp, ?_⟩
  simp -implicitDefEqProofs [Tryd.f66, List.lookup_cons, eS, iR]
  refine drawP_cut _ 25 (by decide) ?_
  simp -implicitDefEqProofs [List.lookup_cons, eS, iR]
  refine fin_pure (by simp) ?_
  simp -implicitDefEqProofs [fS, rn0, pickObs, deI]
def Fr87 : Fun := ⟨fun xs => ∃ w, xs = [Sx w], fun xs => (.sl (sR (wordsW (deS (xs.getD 0 .top)))), [])⟩
theorem toL_ne {b : ByteArray} {l : List UInt8} (h : b ≠ ofL l) : ¬ b.toList = l := by
  rw [toL]
  intro e
  exact h (by rw [← e, ofL_bL])
theorem cr87 : GenCA K Tryd.prog 87 Fr87 := by
  refine contractA Tryd.mix K [] [] (by simp) (by simp) Tryd.func87 rfl (by decide) ?_
  rintro xs ⟨w, rfl⟩
  refine ⟨by rw [Tryd.ntmps87]; simp, ?_⟩
  have hr : Fr87.res [Sx w] = (.sl (sR (wordsW w)), []) := rfl
  rw [hr]
  by_cases h1 : w = kwConfig
  · subst h1
    simp -implicitDefEqProofs [Tryd.f87, List.lookup_cons, eS, Sx, kwConfig, eBuildSlice, fillX, chunk, plain, cellsX, splice]
    refine fin_pure (by simp) ?_
    rfl
  by_cases h2 : w = kwDefault
  · subst h2
    simp -implicitDefEqProofs [Tryd.f87, List.lookup_cons, eS, Sx, kwDefault, eBuildSlice, fillX, chunk, plain, cellsX, splice]
    refine fin_pure (by simp) ?_
    rfl
  by_cases h3 : w = kwClass
  · subst h3
    simp -implicitDefEqProofs [Tryd.f87, List.lookup_cons, eS, Sx, kwClass, eBuildSlice, fillX, chunk, plain, cellsX, splice]
    refine fin_pure (by simp) ?_
    rfl
  by_cases h4 : w = kwFilter
  · subst h4
    simp -implicitDefEqProofs [Tryd.f87, List.lookup_cons, eS, Sx, kwFilter, eBuildSlice, fillX, chunk, plain, cellsX, splice]
    refine fin_pure (by simp) ?_
    rfl
  have g1 : ¬ w.toList = [99, 111, 110, 102, 105, 103] := toL_ne h1
  have g2 : ¬ w.toList = [100, 101, 102, 97, 117, 108, 116] := toL_ne h2
  have g3 : ¬ w.toList = [99, 108, 97, 115, 115] := toL_ne h3
  have g4 : ¬ w.toList = [102, 105, 108, 116, 101, 114] := toL_ne h4
  have e : wordsW w = [] := by simp only [wordsW, if_neg h1, if_neg h2, if_neg h3, if_neg h4]
  rw [e]
  simp -implicitDefEqProofs [Tryd.f87, List.lookup_cons, eS, Sx, g1, g2, g3, g4]
  refine fin_pure (by simp) ?_
  simp -implicitDefEqProofs [fS, rn0, pickObs, deI, sR]
def F43 : Fun := ⟨fun xs => ∃ k a, xs = [I k, I a], fun xs => (.agg [I (deI (xs.getD 0 .top)), I (deI (xs.getD 1 .top))], [])⟩
theorem c43 : GenCA K Tryd.prog 43 F43 := by
  refine contractA Tryd.mix K [] [] (by simp) (by simp) Tryd.func43 rfl (by decide) ?_
  rintro xs ⟨k, a, rfl⟩
  refine ⟨by rw [Tryd.ntmps43]; simp, ?_⟩
  simp -implicitDefEqProofs [Tryd.f43, List.lookup_cons, eS]
  refine fin_pure (by simp) ?_
  simp -implicitDefEqProofs [fS, rn0, pickObs, deI, F43, deI]
end Go.Proofs
namespace Go.Proofs
open Go.Abs Go.Flat
def spOb (l : List ByteArray) : Ob := ⟨9, 1, 0, sR l, false, true, none⟩
def F26 : Fun := ⟨fun xs => ∃ (s : ByteArray) (c : UInt8), xs = [Sx s, .v (.int .u8 (c.toNat : Int))] ∧ s.size ≤ 1048576, fun xs => (.sl (sR (splitB (deU (xs.getD 1 .top)).toNat.toUInt8 (deS (xs.getD 0 .top)))), [])⟩
theorem sp_res (s : ByteArray) (c : UInt8) : F26.res [Sx s, .v (.int .u8 (c.toNat : Int))] = (.sl (sR (splitB c s)), []) := by simp [F26, deU, deS, Sx]
theorem byt_some {s : ByteArray} {k : Nat} (h : k < s.size) (c : UInt8) : byt s k = (c.toNat : Int) ↔ (bL s)[k]? = some c := by
  have hl : k < (bL s).length := by rw [bL_len]; exact h
  rw [byt_at hl, List.getElem?_eq_getElem hl]
  exact ⟨fun e => by rw [UInt8.toNat_inj.1 (Int.ofNat_inj.1 e)], fun e => by injection e with e; rw [e]⟩
theorem c26 : GenCA K Tryd.prog 26 F26 := by
  refine contractA Tryd.mix K [] [] (by simp) (by simp) Tryd.func26 rfl (by decide) ?_
  rintro xs ⟨s, c, rfl, hs⟩
  rw [sp_res]
  refine ⟨by rw [Tryd.ntmps26]; simp, ?_⟩
  simp -implicitDefEqProofs [Tryd.f26, List.lookup_cons, eS, Sx]
  refine loopP_inv (fun p : List ByteArray × Nat × Nat => ⟨34, tl [(0, .v (.string s)), (1, .v (.int .u8 (c.toNat : Int))), (5, .osl 0 0), (6, I p.2.1), (7, I p.2.2)], [spOb p.1]⟩) (fun p => p.2.1 ≤ p.2.2 ∧ p.2.2 ≤ s.size ∧ p.1.length ≤ p.2.1 ∧ noB c s p.2.1 p.2.2 ∧ p.1 ++ splitB c (s.extract p.2.1 s.size) = splitB c s) (fun p => s.size - p.2.2) ([], 0, 0) ⟨Nat.le_refl _, Nat.zero_le _, Nat.le_refl _, noB_refl _ _ _, by rw [ext_all]; rfl⟩ (Wk.tlN (h := []) 9 1 5 (by simp [upd]) (by simp [hold, upd, tl_cons])) ?_
  rintro ⟨l, f, k⟩ ⟨h1, h2, h3, h4, h5⟩
  dsimp only at h1 h2 h3 h4 h5 ⊢
  by_cases h : k < s.size
  · have hw := w64n (show k < 4611686018427387904 by omega)
    have hfs : f ≤ s.size := by omega
    by_cases hc : byt s k = (c.toNat : Int)
    · have e := split_at h1 h ((byt_some h c).1 hc) h4
      rw [e] at h5
      simp -implicitDefEqProofs [List.lookup_cons, eS, h, ei_str, hc, spOb, eAppend, eBuildSlice, srcRows, srcOk, chunk, eSlice, bnd, h1, h2, hfs]
      refine ⟨by omega, by omega, l ++ [s.extract f k], k + 1, k + 1, Nat.le_refl _, by omega, by simp; omega, noB_refl _ _ _, by rw [List.append_assoc]; exact h5, by omega, ?_⟩
      rw [show sR l ++ [[.v (.string (s.extract f k))]] = sR (l ++ [s.extract f k]) by simp [sR]]
      refine Wk.tlP [0] (by simp [pickOk, -List.all_eq_true, sR_ok, ok0]) ?_ ?_
      · simp [pickObs]
      · simp [hold, upd, tl_cons, rn1, rn0, hw]
    · have hn := noB_succ h4 fun e => hc ((byt_some h c).2 e)
      simp -implicitDefEqProofs [List.lookup_cons, eS, h, ei_str, hc, spOb]
      refine ⟨l, f, k + 1, by omega, by omega, h3, hn, h5, by omega, ?_⟩
      exact Wk.tl (by simp [hold, upd, tl_cons, hw])
  · have ek : k = s.size := by omega
    subst ek
    rw [split_end h4] at h5
    simp -implicitDefEqProofs [List.lookup_cons, eS, spOb, eAppend, eBuildSlice, srcRows, srcOk, chunk, eSlice, bnd, h1]
    refine ⟨by omega, by omega, ?_⟩
    rw [show sR l ++ [[.v (.string (s.extract f s.size))]] = sR (splitB c s) by rw [← h5]; simp [sR]]
    refine fin_pure (by simp) ?_
    simp -implicitDefEqProofs [fS, rn0, pickObs, deI]
end Go.Proofs
