/-
  What is proved here: contracts of the searches of a filter by its prio and by its value. Condition: none.
-/
import Derived.Test.YteleljfnjdlnkaaGreatDoorC10x
import Derived.Test.YteleljfnjdlnkaaGreatDoorP1x
namespace Go.Proofs
open Go.Abs
set_option linter.unusedSimpArgs false
set_option linter.unnecessarySimpa false
set_option linter.unusedVariables false
set_option maxHeartbeats 4000000
set_option maxRecDepth 20000

def Fil.eqB (a b : Fil) : Bool := a.prio == b.prio && a.field == b.field && a.mask == b.mask && a.value == b.value && a.target == b.target
theorem Fil.eqB_iff (a b : Fil) : Fil.eqB a b = true ↔ a = b := by
  cases a; cases b
  simp [Fil.eqB, and_assoc]
def F109 : Fun := ⟨fun xs => xs = [.sl (tR (deT (xs.getD 0 .top) : List Fil)), .agg (rX (deA (xs.getD 1 .top) : Fil))] ∧ (fun (l : List Fil) (v : Fil) => (l.length ≤ 1048576)) (deT (xs.getD 0 .top) : List Fil) (deA (xs.getD 1 .top) : Fil), fun xs => (fun (l : List Fil) (v : Fil) => ((I (idxB (Fil.eqB v) l), []) : X × List Ob)) (deT (xs.getD 0 .top) : List Fil) (deA (xs.getD 1 .top) : Fil)⟩
theorem F109_in {xs : List X} (h : F109.pre xs) : ∃ (l : List Fil) (v : Fil), xs = [.sl (tR l), .agg (rX v)] ∧ (l.length ≤ 1048576) := ⟨_, _, h.1, h.2⟩
theorem F109_res (l : List Fil) (v : Fil) : F109.res [.sl (tR l), .agg (rX v)] = (I (idxB (Fil.eqB v) l), []) := by simp [F109]
theorem F109_mk (l : List Fil) (v : Fil) (h : l.length ≤ 1048576) : F109.pre [.sl (tR l), .agg (rX v)] := by simpa [F109] using h
theorem c109 : GenCA K Tryz.prog 109 F109 := by
  refine contractA Tryz.mix K [] [] (by simp) (by simp) Tryz.func109 rfl (by decide) ?_
  intro xs hxs
  obtain ⟨l, v, rfl, hp⟩ := F109_in hxs
  rw [F109_res]
  refine ⟨by rw [Tryz.ntmps109]; simp, ?_⟩
  simp -implicitDefEqProofs [Tryz.f109, List.lookup_cons, and_assoc, pick_and, pick_or, if_and, if_or]
  refine loopP_inv (fun k : Nat => ⟨19, tl [(0, .sl (tR l)), (3, .optr 0 0 0 0), (7, I l.length), (8, I k)], [⟨59, 5, 0, [rX v], true, true, none⟩]⟩) (fun k => k ≤ l.length ∧ (l.take k).all (fun x => !Fil.eqB v x) = true) (fun k => l.length - k) 0 (by simp) (Wk.tl (by simp [hold, upd, tl_cons])) ?_
  rintro k ⟨hk, ha⟩
  by_cases h : k < l.length
  · have hw1 := w64n (show k < 4611686018427387904 by omega)
    simp -implicitDefEqProofs [List.lookup_cons, and_assoc, pick_and, pick_or, if_and, if_or, h]
    refine drawP_all _ (by decide) ?_
    simp -implicitDefEqProofs [List.lookup_cons, and_assoc, pick_and, pick_or, if_and, if_or, h, planEq]
    refine ⟨fun a1 a2 a3 a4 a5 => ?_, fun hne => ?_⟩
    · have he : Fil.eqB v l[k] = true := by simp [Fil.eqB, a1, a2, a3, a4, a5]
      have hf := idxB_found _ l k h ha he
      refine fin_pure (by simp) ?_
      simp -implicitDefEqProofs [pur2_i, pur2_b, pur2_s, pur2_nil, pur2_sl, pur2_tup, rn2_tup, rn2_agg, rn2_osl, rn1_v, rn1_osl, rn1_agg, rn0_v, rn0_sl, rn0, pickObs, pur_v, pur_b, pur_s, pur_nil, pur_sl, deI, deIs_sl, hf]
    · have he : Fil.eqB v l[k] = false := not_true fun he => by
        have e := (Fil.eqB_iff _ _).1 he
        rw [e] at hne
        exact hne rfl rfl rfl rfl rfl
      have hg := all_stepF l (fun x => !Fil.eqB v x) k h ha (by simp [he])
      exact ⟨k + 1, by omega, by simpa using hg, by omega, Wk.tl (by simp [hold, upd, tl_cons, hw1])⟩
  · have e : k = l.length := by omega
    subst e
    rw [List.take_length] at ha
    have hf := idxB_none _ l ha
    simp -implicitDefEqProofs [List.lookup_cons, and_assoc, pick_and, pick_or, if_and, if_or]
    refine fin_pure (by simp) ?_
    simp -implicitDefEqProofs [pur2_i, pur2_b, pur2_s, pur2_nil, pur2_sl, pur2_tup, rn2_tup, rn2_agg, rn2_osl, rn1_v, rn1_osl, rn1_agg, rn0_v, rn0_sl, rn0, pickObs, pur_v, pur_b, pur_s, pur_nil, pur_sl, deI, deIs_sl, hf]
def F74 : Fun := ⟨fun xs => xs = [.sl (tR (deT (xs.getD 0 .top) : List Fil)), .agg (rX (deA (xs.getD 1 .top) : Fil))] ∧ (fun (l : List Fil) (v : Fil) => (l.length ≤ 1048576)) (deT (xs.getD 0 .top) : List Fil) (deA (xs.getD 1 .top) : Fil), fun xs => (fun (l : List Fil) (v : Fil) => ((B (l.any (Fil.eqB v)), []) : X × List Ob)) (deT (xs.getD 0 .top) : List Fil) (deA (xs.getD 1 .top) : Fil)⟩
theorem F74_in {xs : List X} (h : F74.pre xs) : ∃ (l : List Fil) (v : Fil), xs = [.sl (tR l), .agg (rX v)] ∧ (l.length ≤ 1048576) := ⟨_, _, h.1, h.2⟩
theorem F74_res (l : List Fil) (v : Fil) : F74.res [.sl (tR l), .agg (rX v)] = (B (l.any (Fil.eqB v)), []) := by simp [F74]
theorem F74_mk (l : List Fil) (v : Fil) (h : l.length ≤ 1048576) : F74.pre [.sl (tR l), .agg (rX v)] := by simpa [F74] using h
theorem c74 : GenCA K Tryz.prog 74 F74 := by
  refine contractA Tryz.mix K [(109, F109)] [] (by simp [c109]) (by simp) Tryz.func74 rfl (by decide) ?_
  intro xs hxs
  obtain ⟨l, v, rfl, hp⟩ := F74_in hxs
  rw [F74_res]
  refine ⟨by rw [Tryz.ntmps74]; simp, ?_⟩
  have hh := idxB_any (Fil.eqB v) l
  simp -implicitDefEqProofs [Tryz.f74, F109, List.lookup_cons, and_assoc, pick_and, pick_or, if_and, if_or, hp, hh]
  refine fin_pure (by simp) ?_
  simp -implicitDefEqProofs [pur2_i, pur2_b, pur2_s, pur2_nil, pur2_sl, pur2_tup, rn2_tup, rn2_agg, rn2_osl, rn1_v, rn1_osl, rn1_agg, rn0_v, rn0_sl, rn0, pickObs, pur_v, pur_b, pur_s, pur_nil, pur_sl, deI, deIs_sl]

theorem cfg_upF {c : Cfg} (h : cfgOk c = true) : (List.range c.fil.length).all (upF c.fil) = true := by
  simp only [cfgOk, Bool.and_eq_true] at h
  have h1 := h.1.2
  simp only [filOk, filUp, Bool.and_eq_true] at h1
  rw [all_range]
  intro i hi
  have := all_range.1 h1.1 i hi
  simp only [Bool.and_eq_true] at this
  exact this.1.2
end Go.Proofs
