/-
  What is proved here: the contract of the reference's splitting. Condition: none.
-/
import Derived.Test.YtecpfgnkiifnpaaGreatDoorFR9m
import Derived.Test.YtecpfgnkiifnpaaGreatDoorFP3
namespace Go.Proofs
open Go.Abs Go.Flat
set_option linter.unusedSimpArgs false
set_option linter.unnecessarySimpa false
set_option linter.unusedVariables false
set_option maxHeartbeats 8000000
set_option maxRecDepth 20000
def spOb (l : List ByteArray) : Ob := ⟨9, 1, 0, sR l, false, true, none⟩
def F26 : Fun := ⟨fun xs => ∃ (s : ByteArray) (c : UInt8), xs = [Sx s, .v (.int .u8 (c.toNat : Int))] ∧ s.size ≤ 1048576, fun xs => (.sl (sR (splitB (deU (xs.getD 1 .top)).toNat.toUInt8 (deS (xs.getD 0 .top)))), [])⟩
theorem sp_res (s : ByteArray) (c : UInt8) : F26.res [Sx s, .v (.int .u8 (c.toNat : Int))] = (.sl (sR (splitB c s)), []) := by simp [F26, deU, deS, Sx]
theorem byt_some {s : ByteArray} {k : Nat} (h : k < s.size) (c : UInt8) : byt s k = (c.toNat : Int) ↔ (bL s)[k]? = some c := by
  have hl : k < (bL s).length := by rw [bL_len]; exact h
  rw [byt_at hl, List.getElem?_eq_getElem hl]
  exact ⟨fun e => by rw [UInt8.toNat_inj.1 (Int.ofNat_inj.1 e)], fun e => by injection e with e; rw [e]⟩
theorem c26 : GenCA K Tryz.prog 26 F26 := by
  refine contractA Tryz.mix K [] [] (by simp) (by simp) Tryz.func26 rfl (by decide) ?_
  rintro xs ⟨s, c, rfl, hs⟩
  rw [sp_res]
  refine ⟨by rw [Tryz.ntmps26]; simp, ?_⟩
  simp -implicitDefEqProofs [Tryz.f26, List.lookup_cons, eS, Sx]
  refine loopP_inv (fun p : List ByteArray × Nat × Nat => ⟨34, tl [(0, .v (.string s)), (1, .v (.int .u8 (c.toNat : Int))), (5, .osl 0 0), (6, I p.2.1), (7, I p.2.2)], [spOb p.1]⟩) (fun p => p.2.1 ≤ p.2.2 ∧ p.2.2 ≤ s.size ∧ p.1.length ≤ p.2.1 ∧ noB c s p.2.1 p.2.2 ∧ p.1 ++ splitB c (s.extract p.2.1 s.size) = splitB c s) (fun p => s.size - p.2.2) ([], 0, 0) ⟨Nat.le_refl _, Nat.zero_le _, Nat.le_refl _, noB_refl _ _ _, by rw [ext_all]; rfl⟩ (Wk.tlN (h := []) 9 1 5 (by simp [upd]) (by simp [hold, upd, tl_cons])) ?_
  rintro ⟨l, f, k⟩ ⟨h1, h2, h3, h4, h5⟩
  dsimp only at h1 h2 h3 h4 h5 ⊢
  by_cases h : k < s.size
  · have hw := w64n (show k < 4611686018427387904 by omega)
    have hfs : f ≤ s.size := by omega
    by_cases hc : byt s k = (c.toNat : Int)
    · have e := split_at h1 h ((byt_some h c).1 hc) h4
      rw [e] at h5
      simp -implicitDefEqProofs [List.lookup_cons, eS, h, ei_str, hc, spOb, eAppend, eBuildSlice, srcRows, srcOk, chunk, eSlice, bnd, h1, h2, hfs]
      refine ⟨by omega, by omega, l ++ [s.extract f k], k + 1, k + 1, Nat.le_refl _, by omega, by simp; omega, noB_refl _ _ _, by rw [List.append_assoc]; exact h5, by omega, ?_⟩
      rw [show sR l ++ [[.v (.string (s.extract f k))]] = sR (l ++ [s.extract f k]) by simp [sR]]
      refine Wk.tlP [0] (by simp [pickOk, -List.all_eq_true, sR_ok, ok0]) ?_ ?_
      · simp [pickObs]
      · simp [hold, upd, tl_cons, rn1, rn0, hw]
    · have hn := noB_succ h4 fun e => hc ((byt_some h c).2 e)
      simp -implicitDefEqProofs [List.lookup_cons, eS, h, ei_str, hc, spOb]
      refine ⟨l, f, k + 1, by omega, by omega, h3, hn, h5, by omega, ?_⟩
      exact Wk.tl (by simp [hold, upd, tl_cons, hw])
  · have ek : k = s.size := by omega
    subst ek
    rw [split_end h4] at h5
    simp -implicitDefEqProofs [List.lookup_cons, eS, spOb, eAppend, eBuildSlice, srcRows, srcOk, chunk, eSlice, bnd, h1]
    refine ⟨by omega, by omega, ?_⟩
    rw [show sR l ++ [[.v (.string (s.extract f s.size))]] = sR (splitB c s) by rw [← h5]; simp [sR]]
    refine fin_pure (by simp) ?_
    simp -implicitDefEqProofs [fS, rn0, pickObs, deI]
end Go.Proofs
