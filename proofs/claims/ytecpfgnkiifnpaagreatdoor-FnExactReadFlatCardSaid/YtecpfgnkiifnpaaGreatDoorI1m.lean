/-
  What is proved here: contracts of slices.Index and slices.Contains on integers. Condition: none.
-/
import Derived.Test.YtecpfgnkiifnpaaGreatDoorLBN
namespace Go.Proofs
open Go.Abs
set_option linter.unusedSimpArgs false
set_option linter.unnecessarySimpa false
set_option linter.unusedVariables false
set_option maxHeartbeats 4000000
set_option maxRecDepth 20000
theorem all_stepI (l : List Int) (p : Int → Bool) (k : Nat) (h : k < l.length) (h1 : (l.take k).all p = true) (h2 : p l[k] = true) : (l.take (k + 1)).all p = true := by
  rw [takeS l k h, List.all_append, h1]; simp [h2]
theorem all_badI (l : List Int) (p : Int → Bool) (k : Nat) (h : k < l.length) (h2 : p l[k] = false) : l.all p = false := not_true fun h3 => by
  rw [List.all_eq_true] at h3
  rw [h3 _ (List.getElem_mem h)] at h2; cases h2
def idxI (l : List Int) (q : Int) : Int := match l.findIdx? (fun x => decide (q = x)) with | some i => (i : Int) | none => -1
theorem idxI_found (l : List Int) (q : Int) (k : Nat) (h : k < l.length) (h1 : (l.take k).all (fun x => !decide (q = x)) = true) (h2 : q = l[k]) : idxI l q = (k : Int) := by
  have : l.findIdx? (fun x => decide (q = x)) = some k := by
    rw [List.findIdx?_eq_some_iff_getElem]
    refine ⟨h, by simpa using h2, fun j hj => ?_⟩
    rw [List.all_eq_true] at h1
    have := h1 l[j] (List.mem_take_iff_getElem.2 ⟨j, by omega, rfl⟩)
    simpa using this
  simp [idxI, this]
theorem idxI_none (l : List Int) (q : Int) (h1 : l.all (fun x => !decide (q = x)) = true) : idxI l q = -1 := by
  have : l.findIdx? (fun x => decide (q = x)) = none := by
    rw [List.findIdx?_eq_none_iff]
    intro x hx
    rw [List.all_eq_true] at h1
    simpa using h1 x hx
  simp [idxI, this]
theorem idxI_has (l : List Int) (q : Int) : decide (0 ≤ idxI l q) = l.contains q := by
  rw [Bool.eq_iff_iff, List.contains_iff_mem, decide_eq_true_eq]
  unfold idxI
  cases h : l.findIdx? (fun x => decide (q = x)) with
  | none =>
    rw [List.findIdx?_eq_none_iff] at h
    simp
    intro hm
    have := h q hm
    simp at this
  | some i =>
    obtain ⟨hi, hp, _⟩ := List.findIdx?_eq_some_iff_getElem.1 h
    simp at hp
    simp
    rw [hp]; exact List.getElem_mem hi
def F148 : Fun := ⟨fun xs => xs = [.sl (iR (deIs (xs.getD 0 .top) : List Int)), I (deI (xs.getD 1 .top) : Int)] ∧ (fun (l : List Int) (q : Int) => (l.length ≤ 1048576)) (deIs (xs.getD 0 .top) : List Int) (deI (xs.getD 1 .top) : Int), fun xs => (fun (l : List Int) (q : Int) => ((I (idxI l q), []) : X × List Ob)) (deIs (xs.getD 0 .top) : List Int) (deI (xs.getD 1 .top) : Int)⟩
theorem F148_in {xs : List X} (h : F148.pre xs) : ∃ (l : List Int) (q : Int), xs = [.sl (iR l), I q] ∧ (l.length ≤ 1048576) := ⟨_, _, h.1, h.2⟩
theorem F148_res (l : List Int) (q : Int) : F148.res [.sl (iR l), I q] = (I (idxI l q), []) := by simp [F148]
theorem F148_mk (l : List Int) (q : Int) (h : l.length ≤ 1048576) : F148.pre [.sl (iR l), I q] := by simpa [F148] using h
theorem c148 : GenCA K Tryz.prog 148 F148 := by
  refine contractA Tryz.mix K [] [] (by simp) (by simp) Tryz.func148 rfl (by decide) ?_
  intro xs hxs
  obtain ⟨l, q, rfl, hp⟩ := F148_in hxs
  rw [F148_res]
  refine ⟨by rw [Tryz.ntmps148]; simp, ?_⟩
  simp -implicitDefEqProofs [Tryz.f148, List.lookup_cons, eS]
  refine loopP_inv (fun k : Nat => ⟨19, tl [(0, .sl (iR l)), (1, I q), (7, I l.length), (8, I k)], []⟩) (fun k => k ≤ l.length ∧ (l.take k).all (fun x => !decide (q = x)) = true) (fun k => l.length - k) 0 (by simp) (Wk.tl (by simp [hold, upd, tl_cons])) ?_
  rintro k ⟨hk, ha⟩
  by_cases h : k < l.length
  · have hw1 := w64n (show k < 4611686018427387904 by omega)
    by_cases hq : q = l[k]
    · have hf := idxI_found l q k h ha hq
      simp -implicitDefEqProofs [List.lookup_cons, eS, h, hq]
      refine fin_pure (by simp) ?_
      rw [← hq]
      simp -implicitDefEqProofs [fS, rn0, pickObs, deI, hf]
    · simp -implicitDefEqProofs [List.lookup_cons, eS, h, hq]
      exact ⟨k + 1, by omega, by simpa using all_stepI l _ k h ha (by simp [hq]), by omega, Wk.tl (by simp [hold, upd, tl_cons, hw1])⟩
  · have e : k = l.length := by omega
    subst e
    rw [List.take_length] at ha
    simp -implicitDefEqProofs [List.lookup_cons, eS]
    refine fin_pure (by simp) ?_
    simp -implicitDefEqProofs [fS, rn0, pickObs, deI, idxI_none l q ha]
def F136 : Fun := ⟨fun xs => xs = [.sl (iR (deIs (xs.getD 0 .top) : List Int)), I (deI (xs.getD 1 .top) : Int)] ∧ (fun (l : List Int) (q : Int) => (l.length ≤ 1048576)) (deIs (xs.getD 0 .top) : List Int) (deI (xs.getD 1 .top) : Int), fun xs => (fun (l : List Int) (q : Int) => ((B (l.contains q), []) : X × List Ob)) (deIs (xs.getD 0 .top) : List Int) (deI (xs.getD 1 .top) : Int)⟩
theorem F136_in {xs : List X} (h : F136.pre xs) : ∃ (l : List Int) (q : Int), xs = [.sl (iR l), I q] ∧ (l.length ≤ 1048576) := ⟨_, _, h.1, h.2⟩
theorem F136_res (l : List Int) (q : Int) : F136.res [.sl (iR l), I q] = (B (l.contains q), []) := by simp [F136]
theorem F136_mk (l : List Int) (q : Int) (h : l.length ≤ 1048576) : F136.pre [.sl (iR l), I q] := by simpa [F136] using h
theorem c136 : GenCA K Tryz.prog 136 F136 := by
  refine contractA Tryz.mix K [(148, F148)] [] (by simp [c148]) (by simp) Tryz.func136 rfl (by decide) ?_
  intro xs hxs
  obtain ⟨l, q, rfl, hp⟩ := F136_in hxs
  rw [F136_res]
  refine ⟨by rw [Tryz.ntmps136]; simp, ?_⟩
  have hh := idxI_has l q
  simp -implicitDefEqProofs [Tryz.f136, F148, List.lookup_cons, eS, hp, hh]
  refine fin_pure (by simp) ?_
  simp -implicitDefEqProofs [fS, rn0, pickObs, deI]
end Go.Proofs
