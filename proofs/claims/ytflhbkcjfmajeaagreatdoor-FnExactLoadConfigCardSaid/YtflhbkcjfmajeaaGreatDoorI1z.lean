/-
  What is proved here: contracts of slices.Index and slices.Contains on integers. Condition: none.
-/
import Derived.Test.YtflhbkcjfmajeaaGreatDoorB1z
namespace Go.Proofs
open Go.Abs
set_option linter.unusedSimpArgs false
set_option linter.unnecessarySimpa false
set_option linter.unusedVariables false
set_option maxHeartbeats 4000000
set_option maxRecDepth 20000

theorem all_stepI (l : List Int) (p : Int → Bool) (k : Nat) (h : k < l.length) (h1 : (l.take k).all p = true) (h2 : p l[k] = true) : (l.take (k + 1)).all p = true := by
  rw [takeS l k h, List.all_append, h1]; simp [h2]
theorem all_badI (l : List Int) (p : Int → Bool) (k : Nat) (h : k < l.length) (h2 : p l[k] = false) : l.all p = false := not_true fun h3 => by
  rw [List.all_eq_true] at h3
  rw [h3 _ (List.getElem_mem h)] at h2; cases h2
def idxI (l : List Int) (q : Int) : Int := match l.findIdx? (fun x => decide (q = x)) with | some i => (i : Int) | none => -1
theorem idxI_found (l : List Int) (q : Int) (k : Nat) (h : k < l.length) (h1 : (l.take k).all (fun x => !decide (q = x)) = true) (h2 : q = l[k]) : idxI l q = (k : Int) := by
  have : l.findIdx? (fun x => decide (q = x)) = some k := by
    rw [List.findIdx?_eq_some_iff_getElem]
    refine ⟨h, by simpa using h2, fun j hj => ?_⟩
    rw [List.all_eq_true] at h1
    have := h1 l[j] (List.mem_take_iff_getElem.2 ⟨j, by omega, rfl⟩)
    simpa using this
  simp [idxI, this]
theorem idxI_none (l : List Int) (q : Int) (h1 : l.all (fun x => !decide (q = x)) = true) : idxI l q = -1 := by
  have : l.findIdx? (fun x => decide (q = x)) = none := by
    rw [List.findIdx?_eq_none_iff]
    intro x hx
    rw [List.all_eq_true] at h1
    simpa using h1 x hx
  simp [idxI, this]
theorem idxI_has (l : List Int) (q : Int) : decide (0 ≤ idxI l q) = l.contains q := by
  rw [Bool.eq_iff_iff, List.contains_iff_mem, decide_eq_true_eq]
  unfold idxI
  cases h : l.findIdx? (fun x => decide (q = x)) with
  | none =>
    rw [List.findIdx?_eq_none_iff] at h
    simp
    intro hm
    have := h q hm
    simp at this
  | some i =>
    obtain ⟨hi, hp, _⟩ := List.findIdx?_eq_some_iff_getElem.1 h
    simp at hp
    simp
    rw [hp]; exact List.getElem_mem hi
def F129 : Fun := ⟨fun xs => xs = [.sl (iR (deIs (xs.getD 0 .top) : List Int)), I (deI (xs.getD 1 .top) : Int)] ∧ (fun (l : List Int) (q : Int) => (l.length ≤ 1048576)) (deIs (xs.getD 0 .top) : List Int) (deI (xs.getD 1 .top) : Int), fun xs => (fun (l : List Int) (q : Int) => ((I (idxI l q), []) : X × List Ob)) (deIs (xs.getD 0 .top) : List Int) (deI (xs.getD 1 .top) : Int)⟩
theorem F129_in {xs : List X} (h : F129.pre xs) : ∃ (l : List Int) (q : Int), xs = [.sl (iR l), I q] ∧ (l.length ≤ 1048576) := ⟨_, _, h.1, h.2⟩
theorem F129_res (l : List Int) (q : Int) : F129.res [.sl (iR l), I q] = (I (idxI l q), []) := by simp [F129]
theorem F129_mk (l : List Int) (q : Int) (h : l.length ≤ 1048576) : F129.pre [.sl (iR l), I q] := by simpa [F129] using h
theorem c129 : GenCA K Tryz.prog 129 F129 := by
  refine contractA Tryz.mix K [] [] (by simp) (by simp) Tryz.func129 rfl (by decide) ?_
  intro xs hxs
  obtain ⟨l, q, rfl, hp⟩ := F129_in hxs
  rw [F129_res]
  refine ⟨by rw [Tryz.ntmps129]; simp, ?_⟩
  simp -implicitDefEqProofs [Tryz.f129, List.lookup_cons, and_assoc, pick_and, pick_or, if_and, if_or]
  refine loopP_inv (fun k : Nat => ⟨19, tl [(0, .sl (iR l)), (1, I q), (7, I l.length), (8, I k)], []⟩) (fun k => k ≤ l.length ∧ (l.take k).all (fun x => !decide (q = x)) = true) (fun k => l.length - k) 0 (by simp) (Wk.tl (by simp [hold, upd, tl_cons])) ?_
  rintro k ⟨hk, ha⟩
  by_cases h : k < l.length
  · have hw1 := w64n (show k < 4611686018427387904 by omega)
    by_cases hq : q = l[k]
    · have hf := idxI_found l q k h ha hq
      simp -implicitDefEqProofs [List.lookup_cons, and_assoc, pick_and, pick_or, if_and, if_or, h, hq]
      refine fin_pure (by simp) ?_
      rw [← hq]
      simp -implicitDefEqProofs [pur2_i, pur2_b, pur2_s, pur2_nil, pur2_sl, pur2_tup, rn2_tup, rn2_agg, rn2_osl, rn1_v, rn1_osl, rn1_agg, rn0_v, rn0_sl, rn0, pickObs, pur_v, pur_b, pur_s, pur_nil, pur_sl, deI, deIs_sl, hf]
    · simp -implicitDefEqProofs [List.lookup_cons, and_assoc, pick_and, pick_or, if_and, if_or, h, hq]
      exact ⟨k + 1, by omega, by simpa using all_stepI l _ k h ha (by simp [hq]), by omega, Wk.tl (by simp [hold, upd, tl_cons, hw1])⟩
  · have e : k = l.length := by omega
    subst e
    rw [List.take_length] at ha
    simp -implicitDefEqProofs [List.lookup_cons, and_assoc, pick_and, pick_or, if_and, if_or]
    refine fin_pure (by simp) ?_
    simp -implicitDefEqProofs [pur2_i, pur2_b, pur2_s, pur2_nil, pur2_sl, pur2_tup, rn2_tup, rn2_agg, rn2_osl, rn1_v, rn1_osl, rn1_agg, rn0_v, rn0_sl, rn0, pickObs, pur_v, pur_b, pur_s, pur_nil, pur_sl, deI, deIs_sl, idxI_none l q ha]
def F118 : Fun := ⟨fun xs => xs = [.sl (iR (deIs (xs.getD 0 .top) : List Int)), I (deI (xs.getD 1 .top) : Int)] ∧ (fun (l : List Int) (q : Int) => (l.length ≤ 1048576)) (deIs (xs.getD 0 .top) : List Int) (deI (xs.getD 1 .top) : Int), fun xs => (fun (l : List Int) (q : Int) => ((B (l.contains q), []) : X × List Ob)) (deIs (xs.getD 0 .top) : List Int) (deI (xs.getD 1 .top) : Int)⟩
theorem F118_in {xs : List X} (h : F118.pre xs) : ∃ (l : List Int) (q : Int), xs = [.sl (iR l), I q] ∧ (l.length ≤ 1048576) := ⟨_, _, h.1, h.2⟩
theorem F118_res (l : List Int) (q : Int) : F118.res [.sl (iR l), I q] = (B (l.contains q), []) := by simp [F118]
theorem F118_mk (l : List Int) (q : Int) (h : l.length ≤ 1048576) : F118.pre [.sl (iR l), I q] := by simpa [F118] using h
theorem c118 : GenCA K Tryz.prog 118 F118 := by
  refine contractA Tryz.mix K [(129, F129)] [] (by simp [c129]) (by simp) Tryz.func118 rfl (by decide) ?_
  intro xs hxs
  obtain ⟨l, q, rfl, hp⟩ := F118_in hxs
  rw [F118_res]
  refine ⟨by rw [Tryz.ntmps118]; simp, ?_⟩
  have hh := idxI_has l q
  simp -implicitDefEqProofs [Tryz.f118, F129, List.lookup_cons, and_assoc, pick_and, pick_or, if_and, if_or, hp, hh]
  refine fin_pure (by simp) ?_
  simp -implicitDefEqProofs [pur2_i, pur2_b, pur2_s, pur2_nil, pur2_sl, pur2_tup, rn2_tup, rn2_agg, rn2_osl, rn1_v, rn1_osl, rn1_agg, rn0_v, rn0_sl, rn0, pickObs, pur_v, pur_b, pur_s, pur_nil, pur_sl, deI, deIs_sl]
end Go.Proofs
