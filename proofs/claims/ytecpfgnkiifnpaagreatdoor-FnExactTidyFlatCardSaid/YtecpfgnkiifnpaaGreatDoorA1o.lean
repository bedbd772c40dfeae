/-
  What is proved here: the contract of the reference's check of all numbers of a list. Condition: none.
-/
import Derived.Test.YtecpfgnkiifnpaaGreatDoorLBN
namespace Go.Proofs
open Go.Abs
set_option linter.unusedSimpArgs false
set_option linter.unnecessarySimpa false
set_option linter.unusedVariables false
set_option maxHeartbeats 8000000
set_option maxRecDepth 20000
theorem all_stepI (l : List Int) (p : Int → Bool) (k : Nat) (h : k < l.length) (h1 : (l.take k).all p = true) (h2 : p l[k] = true) : (l.take (k + 1)).all p = true := by
  rw [takeS l k h, List.all_append, h1]; simp [h2]
theorem all_badI (l : List Int) (p : Int → Bool) (k : Nat) (h : k < l.length) (h2 : p l[k] = false) : l.all p = false := not_true fun h3 => by
  rw [List.all_eq_true] at h3
  rw [h3 _ (List.getElem_mem h)] at h2; cases h2
def F107 : Fun := ⟨fun xs => xs = [.sl (iR (deIs (xs.getD 0 .top) : List Int)), I (deI (xs.getD 1 .top) : Int), I (deI (xs.getD 2 .top) : Int)] ∧ (fun (l : List Int) (lo : Int) (hi : Int) => (l.length ≤ 1048576)) (deIs (xs.getD 0 .top) : List Int) (deI (xs.getD 1 .top) : Int) (deI (xs.getD 2 .top) : Int), fun xs => (fun (l : List Int) (lo : Int) (hi : Int) => ((B (l.all (rng lo hi)), []) : X × List Ob)) (deIs (xs.getD 0 .top) : List Int) (deI (xs.getD 1 .top) : Int) (deI (xs.getD 2 .top) : Int)⟩
theorem F107_in {xs : List X} (h : F107.pre xs) : ∃ (l : List Int) (lo : Int) (hi : Int), xs = [.sl (iR l), I lo, I hi] ∧ (l.length ≤ 1048576) := ⟨_, _, _, h.1, h.2⟩
theorem F107_res (l : List Int) (lo : Int) (hi : Int) : F107.res [.sl (iR l), I lo, I hi] = (B (l.all (rng lo hi)), []) := by simp [F107]
theorem F107_mk (l : List Int) (lo : Int) (hi : Int) (h : l.length ≤ 1048576) : F107.pre [.sl (iR l), I lo, I hi] := by simpa [F107] using h
theorem c107 : GenCA K Tryz.prog 107 F107 := by
  refine contractA Tryz.mix K [(29, F29)] [] (by simp [c29]) (by simp) Tryz.func107 rfl (by decide) ?_
  intro xs hxs
  obtain ⟨l, lo, hi, rfl, hp⟩ := F107_in hxs
  rw [F107_res]
  refine ⟨by rw [Tryz.ntmps107]; simp, ?_⟩
  simp -implicitDefEqProofs [Tryz.f107, List.lookup_cons, eS]
  refine loopP_inv (fun k : Nat => ⟨21, tl [(1, I lo), (2, I hi), (9, .sl (iR l)), (10, I l.length), (11, I k)], []⟩) (fun k => k ≤ l.length ∧ (l.take k).all (rng lo hi) = true) (fun k => l.length - k) 0 (by simp) (Wk.tl (by simp [hold, upd, tl_cons])) ?_
  rintro k ⟨hk, ha⟩
  by_cases h : k < l.length
  · have hw1 := w64n (show k < 4611686018427387904 by omega)
    cases hr : rng lo hi l[k] with
    | true =>
      simp -implicitDefEqProofs [List.lookup_cons, eS, h, F29, hr]
      exact ⟨k + 1, by omega, by simpa using all_stepI l _ k h ha hr, by omega, Wk.tl (by simp [hold, upd, tl_cons, hw1])⟩
    | false =>
      have hb := all_badI l _ k h hr
      simp -implicitDefEqProofs [List.lookup_cons, eS, h, F29, hr]
      refine fin_pure (by simp) ?_
      simp -implicitDefEqProofs [fS, rn0, pickObs, deI, hb]
  · have e : k = l.length := by omega
    subst e
    rw [List.take_length] at ha
    simp -implicitDefEqProofs [List.lookup_cons, eS]
    refine fin_pure (by simp) ?_
    simp -implicitDefEqProofs [fS, rn0, pickObs, deI, ha]
end Go.Proofs
