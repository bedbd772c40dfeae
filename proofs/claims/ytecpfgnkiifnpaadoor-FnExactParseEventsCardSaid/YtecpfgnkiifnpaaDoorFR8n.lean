/-
  What is proved here: contracts of the reference's reader of a number, and of the reader's beginning. Condition: none.
-/
import Derived.Test.YtecpfgnkiifnpaaDoorFR7n
import Derived.Test.YtecpfgnkiifnpaaDoorFRc
namespace Go.Proofs
open Go.Abs Go.Flat
set_option linter.unusedSimpArgs false
set_option linter.unnecessarySimpa false
set_option linter.unusedVariables false
set_option maxHeartbeats 8000000
set_option maxRecDepth 20000
def F89 : Fun := ⟨fun xs => ∃ b, xs = [Sx b] ∧ b.size ≤ 1048576, fun xs => (I (rdAny (deS (xs.getD 0 .top))), [])⟩
theorem c89 : GenCA K Tryd.prog 89 F89 := by
  refine contractA Tryd.mix K [(110, F110), (111, F111), (35, F35)] [] (by simp [c110, c111, c35]) (by simp) Tryd.func89 rfl (by decide) ?_
  rintro xs ⟨b, rfl, hb⟩
  have hres : F89.res [Sx b] = (I (rdAny b), []) := rfl
  rw [hres]
  refine ⟨by rw [Tryd.ntmps89]; simp, ?_⟩
  have p1 : F110.pre [.v (.string b)] := ⟨b, rfl, hb⟩
  have q1 : F110.res [.v (.string b)] = (B (isHexL (bL b)), []) := rfl
  have p2 : F111.pre [.v (.string b)] := ⟨b, rfl, hb⟩
  have q2 : F111.res [.v (.string b)] = (I (rdHex (bL b)), []) := rfl
  have p3 : F35.pre [.v (.string b)] := ⟨b, rfl, hb⟩
  have q3 : F35.res [.v (.string b)] = (I (rdNum (bL b)), []) := rfl
  unfold rdAny rdAnyL
  cases hx : isHexL (bL b) with
  | false =>
    rw [hx] at q1
    rw [if_neg (by simp)]
    simp -implicitDefEqProofs [Tryd.f89, List.lookup_cons, eS, Sx, p1, q1, p3, q3]
    refine fin_pure (by simp) ?_
    simp -implicitDefEqProofs [fS, rn0, pickObs, deI]
  | true =>
    rw [hx] at q1
    rw [if_pos rfl]
    simp -implicitDefEqProofs [Tryd.f89, List.lookup_cons, eS, Sx, p1, q1, p2, q2]
    refine fin_pure (by simp) ?_
    simp -implicitDefEqProofs [fS, rn0, pickObs, deI]
def beginR (a e : Nat) (r : Rd) : Rd := { r with pos := a, en := e, dn := false }
def M47 : MFun := ⟨[true], fun xs obs => ∃ (a e : Nat) (r : Rd), xs = [.optr 0 0 0 0, I a, I e] ∧ obs = rO r, fun xs obs => (.tup [], rO (beginR (deI (xs.getD 1 .top)).toNat (deI (xs.getD 2 .top)).toNat (unR obs)))⟩
theorem begin_res (a e : Nat) (r : Rd) : M47.res [.optr 0 0 0 0, I a, I e] (rO r) = (.tup [], rO (beginR a e r)) := by simp [M47, deI]
theorem m47 : GenMA K Tryd.prog 47 M47 := by
  refine contractMA Tryd.mix K [] [] (by simp) (by simp) Tryd.func47 rfl (by decide) ?_
  rintro xs obs us ⟨a, e, r, rfl, rfl⟩ hu
  obtain ⟨u, rfl⟩ : ∃ u, us = [u] := by simpa [rO, List.length_eq_one_iff] using hu
  rw [begin_res]
  refine ⟨⟨by rw [Tryd.ntmps47]; simp, by simp, ?_⟩, ?_⟩
  · rintro (_ | j) ob hob
    · simp [rO] at hob; subst hob; exact ⟨_, rfl, rfl, rfl, rfl, rfl, rfl⟩
    · simp [rO] at hob
  simp -implicitDefEqProofs [Tryd.f47, List.lookup_cons, eS, rbR_iR, rbR_nil, rbOb_mk, iR_mf, pickOk, -List.all_eq_true, iR_ok, ok0, iR_eq_nil, deIs_nil, rO, beginR, rbR_rd]
  refine finMs [0] (by simp [pickOk, -List.all_eq_true, ok0_S, ok0_I, ok0_B]) (by simp [pinsM, upd, tl_cons]) ?_
  simp -implicitDefEqProofs [fS, rn0, pickObs, deI, rn2_N]
end Go.Proofs
