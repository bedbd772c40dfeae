/-
  What is proved here: contracts of the reader of words. Condition: none.
-/
import Derived.Test.YtecpfgnkiifnpaaDoorFR2n
import Derived.Test.YtecpfgnkiifnpaaDoorAbsE
import Derived.Test.YtecpfgnkiifnpaaDoorAbsG
namespace Go.Proofs
open Go.Abs Go.Flat
set_option linter.unusedSimpArgs false
set_option linter.unnecessarySimpa false
set_option linter.unusedVariables false
set_option maxHeartbeats 8000000
set_option maxRecDepth 20000
def anyT (b : ByteArray) : X := if rdAny b < 0 then .tup [I 0, B false] else .tup [I (rdAny b), B true]
theorem isHex_ext (b : ByteArray) : isHexL (bL b) = true ↔ 2 ≤ b.size ∧ (b.extract 0 2).toList = [48, 120] := by
  rw [toL, bL_ext]
  unfold isHexL
  simp only [List.drop_zero, decide_eq_true_eq, Nat.sub_zero]
  constructor
  · intro h
    refine ⟨?_, h⟩
    have := congrArg List.length h
    rw [List.length_take, bL_len] at this
    simp at this
    omega
  · exact fun h => h.2
def F112 : Fun := ⟨fun xs => ∃ b, xs = [Sx b] ∧ b.size ≤ 1048576, fun xs => (anyT (deS (xs.getD 0 .top)), [])⟩
theorem c112 : GenCA K Tryd.prog 112 F112 := by
  refine contractA Tryd.mix K [(128, F128), (129, F129)] [] (by simp [c128, c129]) (by simp) Tryd.func112 rfl (by decide) ?_
  rintro xs ⟨b, rfl, hb⟩
  have hres : F112.res [Sx b] = (anyT b, []) := rfl
  rw [hres]
  refine ⟨by rw [Tryd.ntmps112]; simp, ?_⟩
  have p1 : F128.pre [.v (.string b)] := ⟨b, rfl, hb⟩
  have p2 : F129.pre [.v (.string b)] := ⟨b, rfl, hb⟩
  have r1 : F128.res [.v (.string b)] = (hexT b, []) := rfl
  have r2 : F129.res [.v (.string b)] = (numT b, []) := rfl
  by_cases hx : isHexL (bL b) = true
  · obtain ⟨h2, h3⟩ := (isHex_ext b).1 hx
    have h2i : (2 : Int) ≤ b.size := by omega
    have e : rdAny b = rdHex (bL b) := by unfold rdAny rdAnyL; rw [if_pos hx]
    unfold anyT
    rw [e]
    unfold hexT at r1
    by_cases hr : rdHex (bL b) < 0
    · rw [if_pos hr] at r1 ⊢
      simp -implicitDefEqProofs [Tryd.f112, List.lookup_cons, eS, Sx, h2, h2i, h3, p1, r1, eSlice, bnd]
      refine fin_pure (by simp) ?_
      simp -implicitDefEqProofs [fS, rn0, pickObs, deI]
    · rw [if_neg hr] at r1 ⊢
      simp -implicitDefEqProofs [Tryd.f112, List.lookup_cons, eS, Sx, h2, h2i, h3, p1, r1, eSlice, bnd]
      refine fin_pure (by simp) ?_
      simp -implicitDefEqProofs [fS, rn0, pickObs, deI]
  · have e : rdAny b = rdNum (bL b) := by unfold rdAny rdAnyL; rw [if_neg hx]
    unfold anyT
    rw [e]
    unfold numT at r2
    have hx' : 2 ≤ b.size → ¬ (b.extract 0 2).toList = [48, 120] := fun h1 h2 => hx ((isHex_ext b).2 ⟨h1, h2⟩)
    by_cases h2 : 2 ≤ b.size
    · have h2i : (2 : Int) ≤ b.size := by omega
      have h3 := hx' h2
      by_cases hr : rdNum (bL b) < 0
      · rw [if_pos hr] at r2 ⊢
        simp -implicitDefEqProofs [Tryd.f112, List.lookup_cons, eS, Sx, h2, h2i, h3, p2, r2, eSlice, bnd]
        refine fin_pure (by simp) ?_
        simp -implicitDefEqProofs [fS, rn0, pickObs, deI]
      · rw [if_neg hr] at r2 ⊢
        simp -implicitDefEqProofs [Tryd.f112, List.lookup_cons, eS, Sx, h2, h2i, h3, p2, r2, eSlice, bnd]
        refine fin_pure (by simp) ?_
        simp -implicitDefEqProofs [fS, rn0, pickObs, deI]
    · have h2i : ¬ (2 : Int) ≤ b.size := by omega
      by_cases hr : rdNum (bL b) < 0
      · rw [if_pos hr] at r2 ⊢
        simp -implicitDefEqProofs [Tryd.f112, List.lookup_cons, eS, Sx, h2, h2i, p2, r2, eSlice, bnd]
        refine fin_pure (by simp) ?_
        simp -implicitDefEqProofs [fS, rn0, pickObs, deI]
      · rw [if_neg hr] at r2 ⊢
        simp -implicitDefEqProofs [Tryd.f112, List.lookup_cons, eS, Sx, h2, h2i, p2, r2, eSlice, bnd]
        refine fin_pure (by simp) ?_
        simp -implicitDefEqProofs [fS, rn0, pickObs, deI]
end Go.Proofs
