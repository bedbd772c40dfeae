/-
  What is proved here: the law of TreeText. Condition: none.
-/
import Derived.Test.YtlfgjdfecgjphaaGreatDoorPS2y
import Derived.Test.YtlfgjdfecgjphaaGreatDoorLCy
import Derived.Test.YtlfgjdfecgjphaaGreatDoorOCy
namespace Go.Proofs
open Go.Abs
set_option linter.unusedSimpArgs false
set_option linter.unnecessarySimpa false
set_option linter.unusedVariables false
set_option maxHeartbeats 8000000
set_option maxRecDepth 20000
theorem purnil2' (h : List Ob) : purN h 2 (.v (.slice none 0 0)) = .sl [] := rfl
theorem pur2osl' (h : List Ob) (k ver : Nat) : purN h 2 (.osl k ver) = (match h[k]? with
    | some ob => if ob.ver = ver ∧ ob.bx = false then .sl (ob.rows.map fun r => r.map (purN h 1)) else .top
    | none => .top) := rfl
def F5 : Fun := ⟨fun xs => xs = [.agg (cX (deC (xs.getD 0 .top) : Cfg))] ∧ (fun (c : Cfg) => (bigC c)) (deC (xs.getD 0 .top) : Cfg), fun xs => (fun (c : Cfg) => ((B true, []) : X × List Ob)) (deC (xs.getD 0 .top) : Cfg)⟩
theorem F5_in {xs : List X} (h : F5.pre xs) : ∃ (c : Cfg), xs = [.agg (cX c)] ∧ (bigC c) := ⟨_, h.1, h.2⟩
theorem F5_res (c : Cfg) : F5.res [.agg (cX c)] = (B true, []) := by simp [F5]
theorem F5_mk (c : Cfg) (h : bigC c) : F5.pre [.agg (cX c)] := by simpa [F5] using h
theorem c5 : GenCA K Tryz.prog 5 F5 := by
  refine contractA Tryz.mix K [(9, F9), (11, F11), (16, F17), (17, F17), (13, F13)] [] (by simp [c9, c11, c16, c17, c13]) (by simp) Tryz.func5 rfl (by decide) ?_
  intro xs hxs
  obtain ⟨c, rfl, hp⟩ := F5_in hxs
  rw [F5_res]
  refine ⟨by rw [Tryz.ntmps5]; simp, ?_⟩
  have hbc := hp
  by_cases h1 : (1048576 : Int) < cSz c
  · simp -implicitDefEqProofs [Tryz.f5, F9, F11, F17, F17, F13, List.lookup_cons, and_assoc, pick_and, pick_or, if_and, if_or, rbR_iR, rbR_nil, rbOb_mk, iR_mf, pickOk, -List.all_eq_true, iR_ok, ok0, iR_eq_nil, deIs_nil, hbc, h1]
    refine fin_pure (by simp) ?_
    simp -implicitDefEqProofs [pur2_i, pur2_b, pur2_s, pur2_nil, pur2_sl, pur2_tup, rn2_tup, rn2_agg, rn2_osl, rn1_v, rn1_osl, rn1_agg, rn0_v, rn0_sl, rn0, pickObs, pur_v, pur_b, pur_s, pur_nil, pur_sl, deI, deIs_sl]
  have hz1 : 0 ≤ cSz c := by unfold cSz; omega
  have e1 : ¬ (1048576 : Int) - cSz c < 0 := by omega
  have e1' : cSz c ≤ 1048576 := by omega
  have hoc := okC_of h1 (Int.le_refl _)
  have hR : ∃ a b, trR c = .tup [.v (.string a), B b] := by
    unfold trR
    split
    · exact ⟨_, _, rfl⟩
    · exact ⟨_, _, rfl⟩
  obtain ⟨a, b, hK⟩ := hR
  simp -implicitDefEqProofs [Tryz.f5, F17, hK, F9, F11, F13, List.lookup_cons, and_assoc, pick_and, pick_or, if_and, if_or, rbR_iR, rbR_nil, rbOb_mk, iR_mf, pickOk, -List.all_eq_true, iR_ok, ok0, iR_eq_nil, deIs_nil, hbc, h1, e1, e1', hoc, cO, cOb, tOb, tR_rb, pur2_tup, pur2_b, pur2_i, pur2_sl, pur_sl, pur_b, pur_v, pur_oslE, pur2osl', purnil2']
  refine drawP_pu _ (by decide) ?_
  simp -implicitDefEqProofs [F17, hK, F9, F11, F13, List.lookup_cons, and_assoc, pick_and, pick_or, if_and, if_or, rbR_iR, rbR_nil, rbOb_mk, iR_mf, pickOk, -List.all_eq_true, iR_ok, ok0, iR_eq_nil, deIs_nil, hbc, h1, e1, e1', hoc, cO, cOb, tOb, tR_rb, pur2_tup, pur2_b, pur2_i, pur2_sl, pur_sl, pur_b, pur_v, pur_oslE, pur2osl', purnil2']
  refine fin_pure (by simp) ?_
  simp -implicitDefEqProofs [pur2_i, pur2_b, pur2_s, pur2_nil, pur2_sl, pur2_tup, rn2_tup, rn2_agg, rn2_osl, rn1_v, rn1_osl, rn1_agg, rn0_v, rn0_sl, rn0, pickObs, pur_v, pur_b, pur_s, pur_nil, pur_sl, deI, deIs_sl]
end Go.Proofs
