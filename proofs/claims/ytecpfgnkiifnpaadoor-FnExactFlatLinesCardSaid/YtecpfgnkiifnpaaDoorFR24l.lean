/-
  What is proved here: the law of FlatLines. Condition: none.
-/
import Derived.Test.YtecpfgnkiifnpaaDoorFR22l
namespace Go.Proofs
open Go.Abs Go.Flat
set_option linter.unusedSimpArgs false
set_option linter.unnecessarySimpa false
set_option linter.unusedVariables false
set_option maxHeartbeats 16000000
set_option maxRecDepth 20000
def F4 : Fun := ⟨fun xs => ∃ s, xs = [Sx s], fun _ => (B true, [])⟩
theorem F4_in {xs : List X} (h : F4.pre xs) : ∃ s : ByteArray, xs = [Sx s] ∧ True := h.imp fun _ e => ⟨e, trivial⟩
theorem F4_res (s : ByteArray) : F4.res [Sx s] = (B true, []) := rfl
theorem F4_mk (s : ByteArray) (h : True) : F4.pre [Sx s] := ⟨s, rfl⟩
theorem c4 : GenCA K Tryd.prog 4 F4 := by
  refine contractA Tryd.mix K [(9, F9), (10, F10), (11, F11), (13, F13)] [(12, M12)] (by simp [c9, c10, c11, c13]) (by simp [m12]) Tryd.func4 rfl (by decide) ?_
  intro xs hxs
  obtain ⟨s, rfl, hp⟩ := F4_in hxs
  rw [F4_res]
  refine ⟨by rw [Tryd.ntmps4]; simp, ?_⟩
  by_cases hbig : (1048576 : Int) < s.size
  · have hbn : 1048576 < s.size := by omega
    simp -implicitDefEqProofs [Tryd.f4, List.lookup_cons, eS, Sx, hbig, hbn]
    refine fin_pure (by simp) ?_
    simp -implicitDefEqProofs [fS, rn0, pickObs, deI]
  have hbn : ¬ 1048576 < s.size := by omega
  have p1 : F9.pre [.v (.string s)] := ⟨s, rfl, by omega⟩
  have q1 : F9.res [.v (.string s)] = fmX (parseS s) := rfl
  have p2 : F10.pre [.v (.string s)] := ⟨s, rfl, by omega⟩
  have q2 : F10.res [.v (.string s)] = flX (parseS s) := rfl
  have hmi : M12.mu = [true] := rfl
  cases h : parseS s with
  | er k a =>
    rw [h] at q1 q2
    simp only [fmX, flX] at q1 q2
    simp -implicitDefEqProofs [Tryd.f4, List.lookup_cons, eS, rbR_iR, rbR_nil, rbOb_mk, iR_mf, pickOk, -List.all_eq_true, iR_ok, ok0, iR_eq_nil, deIs_nil, Sx, hbig, hbn, p1, q1, p2, q2, hmi, iOb, ints, F11, F13, M12]
    refine fin_pure (by simp) ?_
    simp -implicitDefEqProofs [fS, rn0, pickObs, deI]
  | ok st =>
    rw [h] at q1 q2
    simp only [fmX, flX] at q1 q2
    generalize hL : cntL st = L at q1 q2
    have hl4 : L.length = 4 := by rw [← hL]; rfl
    simp -implicitDefEqProofs [Tryd.f4, List.lookup_cons, eS, rbR_iR, rbR_nil, rbOb_mk, iR_mf, pickOk, -List.all_eq_true, iR_ok, ok0, iR_eq_nil, deIs_nil, Sx, hbig, hbn, p1, q1, p2, q2, hmi, iOb, ints, F11, F13, M12, hl4]
    refine fin_pure (by simp) ?_
    simp -implicitDefEqProofs [fS, rn0, pickObs, deI]
end Go.Proofs
