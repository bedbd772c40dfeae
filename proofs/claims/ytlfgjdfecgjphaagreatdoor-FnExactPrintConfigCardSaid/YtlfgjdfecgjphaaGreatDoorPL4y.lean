/-
  What is proved here: the law of PrintConfig. Condition: none.
-/
import Derived.Test.YtlfgjdfecgjphaaGreatDoorPS4y
import Derived.Test.YtlfgjdfecgjphaaGreatDoorLCy
import Derived.Test.YtlfgjdfecgjphaaGreatDoorOCy
namespace Go.Proofs
open Go.Abs
set_option linter.unusedSimpArgs false
set_option linter.unnecessarySimpa false
set_option linter.unusedVariables false
set_option maxHeartbeats 8000000
set_option maxRecDepth 20000
theorem purnil2' (h : List Ob) : purN h 2 (.v (.slice none 0 0)) = .sl [] := rfl
theorem pur2osl' (h : List Ob) (k ver : Nat) : purN h 2 (.osl k ver) = (match h[k]? with
    | some ob => if ob.ver = ver ∧ ob.bx = false then .sl (ob.rows.map fun r => r.map (purN h 1)) else .top
    | none => .top) := rfl
def F7 : Fun := ⟨fun xs => xs = [.agg (cX (deC (xs.getD 0 .top) : Cfg))] ∧ (fun (c : Cfg) => (bigC c)) (deC (xs.getD 0 .top) : Cfg), fun xs => (fun (c : Cfg) => ((B true, []) : X × List Ob)) (deC (xs.getD 0 .top) : Cfg)⟩
theorem F7_in {xs : List X} (h : F7.pre xs) : ∃ (c : Cfg), xs = [.agg (cX c)] ∧ (bigC c) := ⟨_, h.1, h.2⟩
theorem F7_res (c : Cfg) : F7.res [.agg (cX c)] = (B true, []) := by simp [F7]
theorem F7_mk (c : Cfg) (h : bigC c) : F7.pre [.agg (cX c)] := by simpa [F7] using h
theorem c7 : GenCA K Tryz.prog 7 F7 := by
  refine contractA Tryz.mix K [(9, F9), (11, F11), (24, F25), (25, F25), (13, F13)] [] (by simp [c9, c11, c24, c25, c13]) (by simp) Tryz.func7 rfl (by decide) ?_
  intro xs hxs
  obtain ⟨c, rfl, hp⟩ := F7_in hxs
  rw [F7_res]
  refine ⟨by rw [Tryz.ntmps7]; simp, ?_⟩
  have hbc := hp
  by_cases h1 : (1048576 : Int) < cSz c
  · simp -implicitDefEqProofs [Tryz.f7, F9, F11, F25, F25, F13, List.lookup_cons, and_assoc, pick_and, pick_or, if_and, if_or, rbR_iR, rbR_nil, rbOb_mk, iR_mf, pickOk, -List.all_eq_true, iR_ok, ok0, iR_eq_nil, deIs_nil, hbc, h1]
    refine fin_pure (by simp) ?_
    simp -implicitDefEqProofs [pur2_i, pur2_b, pur2_s, pur2_nil, pur2_sl, pur2_tup, rn2_tup, rn2_agg, rn2_osl, rn1_v, rn1_osl, rn1_agg, rn0_v, rn0_sl, rn0, pickObs, pur_v, pur_b, pur_s, pur_nil, pur_sl, deI, deIs_sl]
  have hz1 : 0 ≤ cSz c := by unfold cSz; omega
  have e1 : ¬ (1048576 : Int) - cSz c < 0 := by omega
  have e1' : cSz c ≤ 1048576 := by omega
  have hoc := okC_of h1 (Int.le_refl _)
  have hR : ∃ a b, pcR c = .tup [.v (.string a), B b] := by
    unfold pcR
    split
    · exact ⟨_, _, rfl⟩
    · exact ⟨_, _, rfl⟩
  obtain ⟨a, b, hK⟩ := hR
  simp -implicitDefEqProofs [Tryz.f7, F25, hK, F9, F11, F13, List.lookup_cons, and_assoc, pick_and, pick_or, if_and, if_or, rbR_iR, rbR_nil, rbOb_mk, iR_mf, pickOk, -List.all_eq_true, iR_ok, ok0, iR_eq_nil, deIs_nil, hbc, h1, e1, e1', hoc, cO, cOb, tOb, tR_rb, pur2_tup, pur2_b, pur2_i, pur2_sl, pur_sl, pur_b, pur_v, pur_oslE, pur2osl', purnil2']
  refine drawP_pu _ (by decide) ?_
  simp -implicitDefEqProofs [F25, hK, F9, F11, F13, List.lookup_cons, and_assoc, pick_and, pick_or, if_and, if_or, rbR_iR, rbR_nil, rbOb_mk, iR_mf, pickOk, -List.all_eq_true, iR_ok, ok0, iR_eq_nil, deIs_nil, hbc, h1, e1, e1', hoc, cO, cOb, tOb, tR_rb, pur2_tup, pur2_b, pur2_i, pur2_sl, pur_sl, pur_b, pur_v, pur_oslE, pur2osl', purnil2']
  refine fin_pure (by simp) ?_
  simp -implicitDefEqProofs [pur2_i, pur2_b, pur2_s, pur2_nil, pur2_sl, pur2_tup, rn2_tup, rn2_agg, rn2_osl, rn1_v, rn1_osl, rn1_agg, rn0_v, rn0_sl, rn0, pickObs, pur_v, pur_b, pur_s, pur_nil, pur_sl, deI, deIs_sl]
end Go.Proofs
