/-
  What is proved here: contracts of the reader of words (bad, stop, finish, begin). Condition: none.
-/
import Derived.Test.YtecpfgnkiifnpaaFR3k
namespace Go.Proofs
open Go.Abs Go.Flat
set_option linter.unusedSimpArgs false
set_option linter.unnecessarySimpa false
set_option linter.unusedVariables false
set_option maxHeartbeats 8000000
set_option maxRecDepth 20000
def rO (r : Rd) : List Ob := [⟨73, 6, 0, [[.v (.string r.s), I r.pos, I r.en, B r.dn, I r.fk, I r.fa]], true, true, none⟩]
def unR : List Ob → Rd
  | [ob] => match ob.rows with
    | [[s, p, e, d, k, a]] => ⟨deS s, (deI p).toNat, (deI e).toNat, deB d, deI k, deI a⟩
    | _ => ⟨⟨#[]⟩, 0, 0, false, 0, 0⟩
  | _ => ⟨⟨#[]⟩, 0, 0, false, 0, 0⟩
@[simp] theorem unR_rO (r : Rd) : unR (rO r) = r := by simp [unR, rO, deS, deI, deB]
theorem ok0_S (b : ByteArray) : ok0 0 (.v (.string b)) = true := rfl
theorem ok0_I (n : Int) : ok0 0 (I n) = true := rfl
theorem ok0_B (b : Bool) : ok0 0 (B b) = true := rfl
theorem rn2_B (h : List Ob) (ks : List Nat) (b : Bool) : rn2 h ks (.v (.bool b)) = B b := rfl
theorem rbR_rd (h : List Ob) (ks : List Nat) (s : ByteArray) (p e k a : Int) (d : Bool) : rbR h ks [[.v (.string s), I p, I e, B d, I k, I a]] = [[.v (.string s), I p, I e, B d, I k, I a]] := rfl
theorem rn2_I2 (h : List Ob) (ks : List Nat) (n : Int) : rn2 h ks (I n) = I n := rfl
theorem rn2_N (h : List Ob) (ks : List Nat) : rn2 h ks (one []) = .tup [] := rfl
def M42 : MFun := ⟨[true], fun xs obs => xs = [.optr 0 0 0 0] ∧ ∃ r, obs = rO r, fun xs obs => (B (decide ((unR obs).fk ≠ 0)), rO (unR obs))⟩
theorem m42 : GenMA K Try.prog 42 M42 := by
  refine contractMA Try.mix K [] [] (by simp) (by simp) Try.func42 rfl (by decide) ?_
  rintro xs obs us ⟨rfl, r, rfl⟩ hu
  obtain ⟨u, rfl⟩ : ∃ u, us = [u] := by simpa [rO, List.length_eq_one_iff] using hu
  refine ⟨⟨by rw [Try.ntmps42]; simp, by simp, ?_⟩, ?_⟩
  · rintro (_ | j) ob hob
    · simp [rO] at hob; subst hob; exact ⟨_, rfl, rfl, rfl, rfl, rfl, rfl⟩
    · simp [rO] at hob
  have hres : M42.res [.optr 0 0 0 0] (rO r) = (B (decide (r.fk ≠ 0)), rO r) := by simp [M42]
  rw [hres]
  by_cases h : r.fk = 0
  · simp -implicitDefEqProofs [Try.f42, List.lookup_cons, eS, rbR_iR, rbR_nil, rbOb_mk, iR_mf, pickOk, -List.all_eq_true, iR_ok, ok0, iR_eq_nil, deIs_nil, rO, h]
    refine finMs [0] (by simp [pickOk, -List.all_eq_true, ok0_S, ok0_I, ok0_B]) (by simp [pinsM, upd, tl_cons]) ?_
    simp -implicitDefEqProofs [fS, rn0, pickObs, deI, rn2_B, rn2_N]
  · have hb : (r.fk != 0) = true := by simp [h]
    simp -implicitDefEqProofs [Try.f42, List.lookup_cons, eS, rbR_iR, rbR_nil, rbOb_mk, iR_mf, pickOk, -List.all_eq_true, iR_ok, ok0, iR_eq_nil, deIs_nil, rO, h]
    refine finMs [0] (by simp [pickOk, -List.all_eq_true, ok0_S, ok0_I, ok0_B]) (by simp [pinsM, upd, tl_cons]) ?_
    simp -implicitDefEqProofs [fS, rn0, pickObs, deI, rn2_B, h]
def M40 : MFun := ⟨[true], fun xs obs => ∃ k a r, xs = [.optr 0 0 0 0, I k, I a] ∧ obs = rO r, fun xs obs => (.tup [], rO (stopR (deI (xs.getD 1 .top)) (deI (xs.getD 2 .top)) (unR obs)))⟩
theorem stop_res (k a : Int) (r : Rd) : M40.res [.optr 0 0 0 0, I k, I a] (rO r) = (.tup [], rO (stopR k a r)) := by simp [M40, deI]
theorem m40 : GenMA K Try.prog 40 M40 := by
  refine contractMA Try.mix K [] [(42, M42)] (by simp) (by simp [m42]) Try.func40 rfl (by decide) ?_
  rintro xs obs us ⟨k, a, r, rfl, rfl⟩ hu
  obtain ⟨u, rfl⟩ : ∃ u, us = [u] := by simpa [rO, List.length_eq_one_iff] using hu
  rw [stop_res]
  refine ⟨⟨by rw [Try.ntmps40]; simp, by simp, ?_⟩, ?_⟩
  · rintro (_ | j) ob hob
    · simp [rO] at hob; subst hob; exact ⟨_, rfl, rfl, rfl, rfl, rfl, rfl⟩
    · simp [rO] at hob
  have p : M42.pre [.optr 0 0 0 0] [⟨73, 6, 0, [[.v (.string r.s), I r.pos, I r.en, B r.dn, I r.fk, I r.fa]], true, true, none⟩] := ⟨rfl, r, rfl⟩
  have q : M42.res [.optr 0 0 0 0] [⟨73, 6, 0, [[.v (.string r.s), I r.pos, I r.en, B r.dn, I r.fk, I r.fa]], true, true, none⟩] = (B (decide (r.fk ≠ 0)), [⟨73, 6, 0, [[.v (.string r.s), I r.pos, I r.en, B r.dn, I r.fk, I r.fa]], true, true, none⟩]) := by
    have := unR_rO r
    unfold rO at this
    simp [M42, this, rO]
  have imu : M42.mu = [true] := rfl
  by_cases h : r.fk = 0
  · have e : stopR k a r = ⟨r.s, r.pos, r.en, r.dn, k, a⟩ := by simp [stopR, h]
    rw [e]
    have hd : decide (r.fk ≠ 0) = false := by simp [h]
    rw [hd] at q
    simp -implicitDefEqProofs [Try.f40, List.lookup_cons, eS, rbR_iR, rbR_nil, rbOb_mk, iR_mf, pickOk, -List.all_eq_true, iR_ok, ok0, iR_eq_nil, deIs_nil, rO, p, q, imu, rbR_rd]
    refine finMs [0] (by simp [pickOk, -List.all_eq_true, ok0_S, ok0_I, ok0_B]) (by simp [pinsM, upd, tl_cons]) ?_
    simp -implicitDefEqProofs [fS, rn0, pickObs, deI, rn2_B, rn2_N]
  · have e : stopR k a r = r := by simp [stopR, h]
    rw [e]
    have hd : decide (r.fk ≠ 0) = true := by simp [h]
    rw [hd] at q
    simp -implicitDefEqProofs [Try.f40, List.lookup_cons, eS, rbR_iR, rbR_nil, rbOb_mk, iR_mf, pickOk, -List.all_eq_true, iR_ok, ok0, iR_eq_nil, deIs_nil, rO, p, q, imu, rbR_rd]
    refine finMs [0] (by simp [pickOk, -List.all_eq_true, ok0_S, ok0_I, ok0_B]) (by simp [pinsM, upd, tl_cons]) ?_
    simp -implicitDefEqProofs [fS, rn0, pickObs, deI, rn2_B, rn2_N]
end Go.Proofs
