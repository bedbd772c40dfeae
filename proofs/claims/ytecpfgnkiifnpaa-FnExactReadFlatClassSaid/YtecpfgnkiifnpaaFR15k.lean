/-
  What is proved here: contracts of the laws of the reading of a line of its own. Condition: none.
-/
import Derived.Test.YtecpfgnkiifnpaaFR14k
namespace Go.Proofs
open Go.Abs Go.Flat
set_option linter.unusedSimpArgs false
set_option linter.unnecessarySimpa false
set_option linter.unusedVariables false
set_option maxHeartbeats 8000000
set_option maxRecDepth 20000
def F14 : Fun := ⟨fun xs => xs = [.agg (rX (deA (xs.getD 0 .top) : Fil)), .agg (rX (deA (xs.getD 0 .top) : Fil))], fun _ => (B true, [])⟩
theorem c14 : GenCA K Try.prog 14 F14 := by
  refine contractA Try.mix K [] [] (by simp []) (by simp) Try.func14 rfl (by decide) ?_
  intro xs hxs
  obtain ⟨a, rfl⟩ : ∃ a : Fil, xs = [.agg (rX a), .agg (rX a)] := ⟨_, hxs⟩
  refine ⟨by rw [Try.ntmps14]; simp, ?_⟩
  simp -implicitDefEqProofs [Try.f14, List.lookup_cons, eS]
  refine fin_pure (by simp) ?_
  simp -implicitDefEqProofs [fS, rn0, pickObs, deI, F14]
def F17 : Fun := ⟨fun xs => xs = [.agg (rX (deA (xs.getD 0 .top) : Cls)), .agg (rX (deA (xs.getD 0 .top) : Cls))], fun _ => (B true, [])⟩
theorem c17 : GenCA K Try.prog 17 F17 := by
  refine contractA Try.mix K [] [] (by simp []) (by simp) Try.func17 rfl (by decide) ?_
  intro xs hxs
  obtain ⟨a, rfl⟩ : ∃ a : Cls, xs = [.agg (rX a), .agg (rX a)] := ⟨_, hxs⟩
  refine ⟨by rw [Try.ntmps17]; simp, ?_⟩
  simp -implicitDefEqProofs [Try.f17, List.lookup_cons, eS]
  refine fin_pure (by simp) ?_
  simp -implicitDefEqProofs [fS, rn0, pickObs, deI, F17]
def F4 : Fun := ⟨fun xs => ∃ s, xs = [Sx s], fun _ => (B true, [])⟩
theorem F4_in {xs : List X} (h : F4.pre xs) : ∃ s : ByteArray, xs = [Sx s] ∧ True := h.imp fun _ e => ⟨e, trivial⟩
theorem F4_res (s : ByteArray) : F4.res [Sx s] = (B true, []) := rfl
theorem F4_mk (s : ByteArray) (h : True) : F4.pre [Sx s] := ⟨s, rfl⟩
theorem c4 : GenCA K Try.prog 4 F4 := by
  refine contractA Try.mix K [(12, F13), (13, F13), (14, F14)] [] (by simp [c12, c13, c14]) (by simp) Try.func4 rfl (by decide) ?_
  intro xs hxs
  obtain ⟨s, rfl, hp⟩ := F4_in hxs
  rw [F4_res]
  refine ⟨by rw [Try.ntmps4]; simp, ?_⟩
  by_cases hbig : (1048576 : Int) < s.size
  · have hbn : 1048576 < s.size := by omega
    simp -implicitDefEqProofs [Try.f4, F13, F13, F14, List.lookup_cons, eS, Sx, hbig, hbn]
    refine fin_pure (by simp) ?_
    simp -implicitDefEqProofs [fS, rn0, pickObs, deI]
  · have hs : s.size ≤ 1048576 := by omega
    have hbn : ¬ 1048576 < s.size := by omega
    have p1 : F13.pre [.v (.string s)] := ⟨s, rfl, hs⟩
    have q1 : F13.res [.v (.string s)] = roX 5 (lnS nmF s kwFilter fwL) := rfl
    have qe : ∀ xs, F14.res xs = (B true, []) := fun _ => rfl
    cases h : lnS nmF s kwFilter fwL with
    | none =>
      rw [h] at q1
      simp only [roX, zAg] at q1
      have p2 : F14.pre [.agg [I 0, I 0, I 0, I 0, I 0], .agg [I 0, I 0, I 0, I 0, I 0]] := rfl
      simp -implicitDefEqProofs [Try.f4, List.lookup_cons, eS, Sx, hbig, hbn, hs, p1, q1, p2, qe]
      refine fin_pure (by simp) ?_
      simp -implicitDefEqProofs [fS, rn0, pickObs, deI]
    | some l =>
      obtain ⟨a0, a1, a2, a3, a4, rfl⟩ := fwL_five ((lnS_len (by decide) fw_ok h).trans rfl)
      rw [h] at q1
      simp only [roX] at q1
      have p2 : F14.pre [.agg [I a0, I a1, I a2, I a3, I a4], .agg [I a0, I a1, I a2, I a3, I a4]] := rfl
      simp -implicitDefEqProofs [Try.f4, List.lookup_cons, eS, Sx, hbig, hbn, hs, p1, q1, p2, qe]
      refine fin_pure (by simp) ?_
      simp -implicitDefEqProofs [fS, rn0, pickObs, deI]
def F5 : Fun := ⟨fun xs => ∃ s, xs = [Sx s], fun _ => (B true, [])⟩
theorem F5_in {xs : List X} (h : F5.pre xs) : ∃ s : ByteArray, xs = [Sx s] ∧ True := h.imp fun _ e => ⟨e, trivial⟩
theorem F5_res (s : ByteArray) : F5.res [Sx s] = (B true, []) := rfl
theorem F5_mk (s : ByteArray) (h : True) : F5.pre [Sx s] := ⟨s, rfl⟩
theorem c5 : GenCA K Try.prog 5 F5 := by
  refine contractA Try.mix K [(15, F16), (16, F16), (17, F17)] [] (by simp [c15, c16, c17]) (by simp) Try.func5 rfl (by decide) ?_
  intro xs hxs
  obtain ⟨s, rfl, hp⟩ := F5_in hxs
  rw [F5_res]
  refine ⟨by rw [Try.ntmps5]; simp, ?_⟩
  by_cases hbig : (1048576 : Int) < s.size
  · have hbn : 1048576 < s.size := by omega
    simp -implicitDefEqProofs [Try.f5, F16, F16, F17, List.lookup_cons, eS, Sx, hbig, hbn]
    refine fin_pure (by simp) ?_
    simp -implicitDefEqProofs [fS, rn0, pickObs, deI]
  · have hs : s.size ≤ 1048576 := by omega
    have hbn : ¬ 1048576 < s.size := by omega
    have p1 : F16.pre [.v (.string s)] := ⟨s, rfl, hs⟩
    have q1 : F16.res [.v (.string s)] = roX 8 (lnS nmF s kwClass cwL) := rfl
    have qe : ∀ xs, F17.res xs = (B true, []) := fun _ => rfl
    cases h : lnS nmF s kwClass cwL with
    | none =>
      rw [h] at q1
      simp only [roX, zAg] at q1
      have p2 : F17.pre [.agg [I 0, I 0, I 0, I 0, I 0, I 0, I 0, I 0], .agg [I 0, I 0, I 0, I 0, I 0, I 0, I 0, I 0]] := rfl
      simp -implicitDefEqProofs [Try.f5, List.lookup_cons, eS, Sx, hbig, hbn, hs, p1, q1, p2, qe]
      refine fin_pure (by simp) ?_
      simp -implicitDefEqProofs [fS, rn0, pickObs, deI]
    | some l =>
      obtain ⟨a0, a1, a2, a3, a4, a5, a6, a7, rfl⟩ := cwL_five ((lnS_len (by decide) cw_ok h).trans rfl)
      rw [h] at q1
      simp only [roX] at q1
      have p2 : F17.pre [.agg [I a0, I a1, I a2, I a3, I a4, I a5, I a6, I a7], .agg [I a0, I a1, I a2, I a3, I a4, I a5, I a6, I a7]] := rfl
      simp -implicitDefEqProofs [Try.f5, List.lookup_cons, eS, Sx, hbig, hbn, hs, p1, q1, p2, qe]
      refine fin_pure (by simp) ?_
      simp -implicitDefEqProofs [fS, rn0, pickObs, deI]
end Go.Proofs
