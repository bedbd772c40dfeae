/-
  What is proved here: contracts of the reference's reader of a number, and of the reader's beginning. Condition: none.
-/
import Derived.Test.YtecpfgnkiifnpaaGreatDoorFR7o
import Derived.Test.YtecpfgnkiifnpaaGreatDoorFRc
namespace Go.Proofs
open Go.Abs Go.Flat
set_option linter.unusedSimpArgs false
set_option linter.unnecessarySimpa false
set_option linter.unusedVariables false
set_option maxHeartbeats 8000000
set_option maxRecDepth 20000
def F83 : Fun := ⟨fun xs => ∃ b, xs = [Sx b] ∧ b.size ≤ 1048576, fun xs => (I (rdAny (deS (xs.getD 0 .top))), [])⟩
theorem c83 : GenCA K Tryz.prog 83 F83 := by
  refine contractA Tryz.mix K [(116, F116), (117, F117), (118, F118)] [] (by simp [c116, c117, c118]) (by simp) Tryz.func83 rfl (by decide) ?_
  rintro xs ⟨b, rfl, hb⟩
  have hres : F83.res [Sx b] = (I (rdAny b), []) := rfl
  rw [hres]
  refine ⟨by rw [Tryz.ntmps83]; simp, ?_⟩
  have p1 : F116.pre [.v (.string b)] := ⟨b, rfl, hb⟩
  have q1 : F116.res [.v (.string b)] = (B (isHexL (bL b)), []) := rfl
  have p2 : F117.pre [.v (.string b)] := ⟨b, rfl, hb⟩
  have q2 : F117.res [.v (.string b)] = (I (rdHex (bL b)), []) := rfl
  have p3 : F118.pre [.v (.string b)] := ⟨b, rfl, hb⟩
  have q3 : F118.res [.v (.string b)] = (I (rdNum (bL b)), []) := rfl
  unfold rdAny rdAnyL
  cases hx : isHexL (bL b) with
  | false =>
    rw [hx] at q1
    rw [if_neg (by simp)]
    simp -implicitDefEqProofs [Tryz.f83, List.lookup_cons, eS, Sx, p1, q1, p3, q3]
    refine fin_pure (by simp) ?_
    simp -implicitDefEqProofs [fS, rn0, pickObs, deI]
  | true =>
    rw [hx] at q1
    rw [if_pos rfl]
    simp -implicitDefEqProofs [Tryz.f83, List.lookup_cons, eS, Sx, p1, q1, p2, q2]
    refine fin_pure (by simp) ?_
    simp -implicitDefEqProofs [fS, rn0, pickObs, deI]
def beginR (a e : Nat) (r : Rd) : Rd := { r with pos := a, en := e, dn := false }
def M60 : MFun := ⟨[true], fun xs obs => ∃ (a e : Nat) (r : Rd), xs = [.optr 0 0 0 0, I a, I e] ∧ obs = rO r, fun xs obs => (.tup [], rO (beginR (deI (xs.getD 1 .top)).toNat (deI (xs.getD 2 .top)).toNat (unR obs)))⟩
theorem begin_res (a e : Nat) (r : Rd) : M60.res [.optr 0 0 0 0, I a, I e] (rO r) = (.tup [], rO (beginR a e r)) := by simp [M60, deI]
theorem m60 : GenMA K Tryz.prog 60 M60 := by
  refine contractMA Tryz.mix K [] [] (by simp) (by simp) Tryz.func60 rfl (by decide) ?_
  rintro xs obs us ⟨a, e, r, rfl, rfl⟩ hu
  obtain ⟨u, rfl⟩ : ∃ u, us = [u] := by simpa [rO, List.length_eq_one_iff] using hu
  rw [begin_res]
  refine ⟨⟨by rw [Tryz.ntmps60]; simp, by simp, ?_⟩, ?_⟩
  · rintro (_ | j) ob hob
    · simp [rO] at hob; subst hob; exact ⟨_, rfl, rfl, rfl, rfl, rfl, rfl⟩
    · simp [rO] at hob
  simp -implicitDefEqProofs [Tryz.f60, List.lookup_cons, eS, rbR_iR, rbR_nil, rbOb_mk, iR_mf, pickOk, -List.all_eq_true, iR_ok, ok0, iR_eq_nil, deIs_nil, rO, beginR, rbR_rd]
  refine finMs [0] (by simp [pickOk, -List.all_eq_true, ok0_S, ok0_I, ok0_B]) (by simp [pinsM, upd, tl_cons]) ?_
  simp -implicitDefEqProofs [fS, rn0, pickObs, deI, rn2_N]
end Go.Proofs
