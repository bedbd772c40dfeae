/-
  What is proved here: the contract of the law of EventsText. Condition: none.
-/
import Derived.Test.YtlkohlnkhpknhaaDoorEV2t
namespace Go.Proofs
open Go.Abs
set_option linter.unusedSimpArgs false
set_option linter.unnecessarySimpa false
set_option linter.unusedVariables false
set_option maxHeartbeats 8000000
set_option maxRecDepth 20000

def F5 : Fun := ⟨fun xs => xs = [.sl (tR (deT (xs.getD 0 .top) : List Evt))] ∧ (fun (l : List Evt) => (l.length ≤ 9223372036854775807)) (deT (xs.getD 0 .top) : List Evt), fun xs => (fun (l : List Evt) => ((B true, []) : X × List Ob)) (deT (xs.getD 0 .top) : List Evt)⟩
theorem F5_in {xs : List X} (h : F5.pre xs) : ∃ (l : List Evt), xs = [.sl (tR l)] ∧ (l.length ≤ 9223372036854775807) := ⟨_, h.1, h.2⟩
theorem F5_res (l : List Evt) : F5.res [.sl (tR l)] = (B true, []) := by simp [F5]
theorem F5_mk (l : List Evt) (h : l.length ≤ 9223372036854775807) : F5.pre [.sl (tR l)] := by simpa [F5] using h
theorem c5 : GenCA K2 Tryd.prog 5 F5 := by
  refine contractA Tryd.mix K2 [(13, F13), (15, F15), (14, F16), (16, F16), (17, F17)] [] (by simp [genMore c13 hK2, genMore c15 hK2, genMore c14 hK2, c16, genMore c17 hK2]) (by simp) Tryd.func5 rfl (by decide) ?_
  intro xs hxs
  obtain ⟨l, rfl, hp⟩ := F5_in hxs
  rw [F5_res]
  refine ⟨by rw [Tryd.ntmps5]; simp, ?_⟩
  by_cases hbig : (1048576 : Int) < l.length
  · simp -implicitDefEqProofs [Tryd.f5, List.lookup_cons, and_assoc, pick_and, pick_or, if_and, if_or, F13, hp, hbig]
    refine fin_pure (by simp) ?_
    simp -implicitDefEqProofs [pur2_i, pur2_b, pur2_s, pur2_nil, pur2_sl, pur2_tup, rn2_tup, rn2_agg, rn2_osl, rn1_v, rn1_osl, rn1_agg, rn0_v, rn0_sl, rn0, pickObs, pur_v, pur_b, pur_s, pur_nil, pur_sl, deI, deIs_sl]
  · have hl1 : l.length ≤ 1048576 := by omega
    have hneg : ¬ (1048576 : Int) - l.length < 0 := by omega
    have hR : ∃ b c, evR l = .tup [.v (.string b), B c] := by
      unfold evR
      split
      · exact ⟨_, _, rfl⟩
      · exact ⟨_, _, rfl⟩
    obtain ⟨b, c, hR⟩ := hR
    simp -implicitDefEqProofs [Tryd.f5, List.lookup_cons, and_assoc, pick_and, pick_or, if_and, if_or, F13, F15, F16, F17, hp, hbig, hl1, hneg, hR, tOb, tR_rb]
    refine fin_pure (by simp) ?_
    simp -implicitDefEqProofs [pur2_i, pur2_b, pur2_s, pur2_nil, pur2_sl, pur2_tup, rn2_tup, rn2_agg, rn2_osl, rn1_v, rn1_osl, rn1_agg, rn0_v, rn0_sl, rn0, pickObs, pur_v, pur_b, pur_s, pur_nil, pur_sl, deI, deIs_sl]
end Go.Proofs
