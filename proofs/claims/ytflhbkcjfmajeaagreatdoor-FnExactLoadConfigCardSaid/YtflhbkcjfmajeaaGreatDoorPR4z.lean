/-
  What is proved here: contracts of the search of the top, on both sides. Condition: none.
-/
import Derived.Test.YtflhbkcjfmajeaaGreatDoorPWs
import Derived.Test.YtflhbkcjfmajeaaGreatDoorC2z
namespace Go.Proofs
open Go.Abs
set_option linter.unusedSimpArgs false
set_option linter.unnecessarySimpa false
set_option linter.unusedVariables false
set_option maxHeartbeats 8000000
set_option maxRecDepth 20000

def prTop (_ : List X) (x : Cls) : Bool := decide (x.par = 0)
theorem top_idx {c : Cfg} (h : isCfg c = true) : idxB (prTop []) c.cls = (topN c.cls : Int) := by
  obtain ⟨t1, t2⟩ := top_spec h
  refine idxB_found _ c.cls (topN c.cls) t1 ?_ ?_
  · rw [List.all_eq_true]
    intro x hx
    obtain ⟨j, hj, rfl⟩ := List.mem_take_iff_getElem.1 hx
    have := top_lt (c := c) j (by omega) (by omega)
    simp [prTop, this]
  · rw [atC_eq t1] at t2
    simp [prTop, t2]
theorem c111 : GenCA K Tryz.prog 111 (FPr cp0 prTop) := by
  refine contractA Tryz.mix K [] [] (by simp) (by simp) Tryz.func111 rfl (by decide) ?_
  intro xs hxs
  obtain ⟨x, rfl⟩ : ∃ (x : Cls), xs = [.agg (rX x)] := ⟨_, hxs.1.trans (congrArg (List.cons _) hxs.2)⟩
  have hres : (FPr cp0 prTop).res [.agg (rX x)] = (B (decide (x.par = 0)), []) := by simp [FPr, prTop]
  rw [hres]
  refine ⟨by rw [Tryz.ntmps111]; simp, ?_⟩
  simp -implicitDefEqProofs [Tryz.f111, List.lookup_cons, and_assoc, pick_and, pick_or, if_and, if_or]
  refine fin_pure (by simp) ?_
  simp -implicitDefEqProofs [pur2_i, pur2_b, pur2_s, pur2_nil, pur2_sl, pur2_tup, rn2_tup, rn2_agg, rn2_osl, rn1_v, rn1_osl, rn1_agg, rn0_v, rn0_sl, rn0, pickObs, pur_v, pur_b, pur_s, pur_nil, pur_sl, deI, deIs_sl]
  rfl
def F87 : Fun := ⟨fun xs => xs = [.agg (cX (deC (xs.getD 0 .top) : Cfg))] ∧ (fun (c : Cfg) => (okC c ∧ isCfg c = true)) (deC (xs.getD 0 .top) : Cfg), fun xs => (fun (c : Cfg) => ((I (topN c.cls), []) : X × List Ob)) (deC (xs.getD 0 .top) : Cfg)⟩
theorem F87_in {xs : List X} (h : F87.pre xs) : ∃ (c : Cfg), xs = [.agg (cX c)] ∧ (okC c ∧ isCfg c = true) := ⟨_, h.1, h.2⟩
theorem F87_res (c : Cfg) : F87.res [.agg (cX c)] = (I (topN c.cls), []) := by simp [F87]
theorem F87_mk (c : Cfg) (h : okC c ∧ isCfg c = true) : F87.pre [.agg (cX c)] := by simpa [F87] using h
theorem c87 : GenCA K Tryz.prog 87 F87 := by
  refine contractA Tryz.mix K [(100, FIx 111 cp0 prTop)] [] (by simp [cIxCls 111 cp0 prTop cp0_pu c111]) (by simp) Tryz.func87 rfl (by decide) ?_
  intro xs hxs
  obtain ⟨c, rfl, hp, hg⟩ := F87_in hxs
  rw [F87_res]
  have ht := top_idx hg
  have hc0 : cp0 [] := rfl
  refine ⟨by rw [Tryz.ntmps87]; simp, ?_⟩
  simp -implicitDefEqProofs [Tryz.f87, List.lookup_cons, and_assoc, pick_and, pick_or, if_and, if_or, FIx, hp.1, ht, hc0]
  refine fin_pure (by simp) ?_
  simp -implicitDefEqProofs [pur2_i, pur2_b, pur2_s, pur2_nil, pur2_sl, pur2_tup, rn2_tup, rn2_agg, rn2_osl, rn1_v, rn1_osl, rn1_agg, rn0_v, rn0_sl, rn0, pickObs, pur_v, pur_b, pur_s, pur_nil, pur_sl, deI, deIs_sl]
theorem c47 : GenCA K Tryz.prog 47 F87 := by
  refine contractA Tryz.mix K [] [] (by simp) (by simp) Tryz.func47 rfl (by decide) ?_
  intro xs hxs
  obtain ⟨c, rfl, hp⟩ := F87_in hxs
  rw [F87_res]
  refine ⟨by rw [Tryz.ntmps47]; simp, ?_⟩
  obtain ⟨⟨h1, h2, h3⟩, hg⟩ := hp
  obtain ⟨t1, t2⟩ := top_spec hg
  rw [atC_eq t1] at t2
  simp -implicitDefEqProofs [Tryz.f47, List.lookup_cons, and_assoc, pick_and, pick_or, if_and, if_or]
  refine loopP_inv (fun k : Nat => ⟨14, tl [(1, .optr 0 0 0 0), (3, I k)], [cBx c]⟩) (fun k => k ≤ topN c.cls) (fun k => topN c.cls - k) 0 (Nat.zero_le _) (Wk.tl (by simp [hold, upd, tl_cons, cBx])) ?_
  intro k hk
  have hkl : k < c.cls.length := by omega
  have hw := w64n (show k < 4611686018427387904 by omega)
  by_cases h : k < topN c.cls
  · have hn := top_lt (c := c) k h hkl
    simp -implicitDefEqProofs [List.lookup_cons, and_assoc, pick_and, pick_or, if_and, if_or, hkl, hn, cBx]
    refine ⟨k + 1, by omega, by omega, ?_⟩
    exact Wk.tl (by simp [hold, upd, tl_cons, hw])
  · have e : k = topN c.cls := by omega
    subst e
    simp -implicitDefEqProofs [List.lookup_cons, and_assoc, pick_and, pick_or, if_and, if_or, hkl, t2, cBx]
    refine fin_pure (by simp) ?_
    simp -implicitDefEqProofs [pur2_i, pur2_b, pur2_s, pur2_nil, pur2_sl, pur2_tup, rn2_tup, rn2_agg, rn2_osl, rn1_v, rn1_osl, rn1_agg, rn0_v, rn0_sl, rn0, pickObs, pur_v, pur_b, pur_s, pur_nil, pur_sl, deI, deIs_sl]
end Go.Proofs
