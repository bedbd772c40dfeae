/-
  What is proved here: contracts of the reader of words (bad, stop, finish, begin). Condition: none.
  What is proved here: contracts of the reader of words (word, number, finish). Condition: none.
-/
import Derived.Test.YtecpfgnkiifnpaaDoorFR3n
set_option linter.unusedVariables false
set_option linter.unusedSimpArgs false
set_option linter.unnecessarySimpa false
set_option maxHeartbeats 8000000
set_option maxRecDepth 20000
namespace Go.Proofs
open Go.Abs Go.Flat
def rO (r : Rd) : List Ob := [⟨78, 6, 0, [[.v (.string r.s), I r.pos, I r.en, B r.dn, I r.fk, I r.fa]], true, true, none⟩]
def unR : List Ob → Rd
  | [ob] => match ob.rows with
    | [[s, p, e, d, k, a]] => ⟨deS s, (deI p).toNat, (deI e).toNat, deB d, deI k, deI a⟩
    | _ => ⟨⟨#[]⟩, 0, 0, false, 0, 0⟩
  | _ => ⟨⟨#[]⟩, 0, 0, false, 0, 0⟩
@[simp] theorem unR_rO (r : Rd) : unR (rO r) = r := by simp [unR, rO, deS, deI, deB]
theorem ok0_S (b : ByteArray) : ok0 0 (.v (.string b)) = true := rfl
theorem ok0_I (n : Int) : ok0 0 (I n) = true := rfl
theorem ok0_B (b : Bool) : ok0 0 (B b) = true := rfl
theorem rn2_B (h : List Ob) (ks : List Nat) (b : Bool) : rn2 h ks (.v (.bool b)) = B b := rfl
theorem rbR_rd (h : List Ob) (ks : List Nat) (s : ByteArray) (p e k a : Int) (d : Bool) : rbR h ks [[.v (.string s), I p, I e, B d, I k, I a]] = [[.v (.string s), I p, I e, B d, I k, I a]] := rfl
theorem rn2_I2 (h : List Ob) (ks : List Nat) (n : Int) : rn2 h ks (I n) = I n := rfl
theorem rn2_N (h : List Ob) (ks : List Nat) : rn2 h ks (one []) = .tup [] := rfl
def M49 : MFun := ⟨[true], fun xs obs => xs = [.optr 0 0 0 0] ∧ ∃ r, obs = rO r, fun xs obs => (B (decide ((unR obs).fk ≠ 0)), rO (unR obs))⟩
theorem m49 : GenMA K Tryd.prog 49 M49 := by
  refine contractMA Tryd.mix K [] [] (by simp) (by simp) Tryd.func49 rfl (by decide) ?_
  rintro xs obs us ⟨rfl, r, rfl⟩ hu
  obtain ⟨u, rfl⟩ : ∃ u, us = [u] := by simpa [rO, List.length_eq_one_iff] using hu
  refine ⟨⟨by rw [Tryd.ntmps49]; simp, by simp, ?_⟩, ?_⟩
  · rintro (_ | j) ob hob
    · simp [rO] at hob; subst hob; exact ⟨_, rfl, rfl, rfl, rfl, rfl, rfl⟩
    · simp [rO] at hob
  have hres : M49.res [.optr 0 0 0 0] (rO r) = (B (decide (r.fk ≠ 0)), rO r) := by simp [M49]
  rw [hres]
  by_cases h : r.fk = 0
  · simp -implicitDefEqProofs [Tryd.f49, List.lookup_cons, eS, rbR_iR, rbR_nil, rbOb_mk, iR_mf, pickOk, -List.all_eq_true, iR_ok, ok0, iR_eq_nil, deIs_nil, rO, h]
    refine finMs [0] (by simp [pickOk, -List.all_eq_true, ok0_S, ok0_I, ok0_B]) (by simp [pinsM, upd, tl_cons]) ?_
    simp -implicitDefEqProofs [fS, rn0, pickObs, deI, rn2_B, rn2_N]
  · have hb : (r.fk != 0) = true := by simp [h]
    simp -implicitDefEqProofs [Tryd.f49, List.lookup_cons, eS, rbR_iR, rbR_nil, rbOb_mk, iR_mf, pickOk, -List.all_eq_true, iR_ok, ok0, iR_eq_nil, deIs_nil, rO, h]
    refine finMs [0] (by simp [pickOk, -List.all_eq_true, ok0_S, ok0_I, ok0_B]) (by simp [pinsM, upd, tl_cons]) ?_
    simp -implicitDefEqProofs [fS, rn0, pickObs, deI, rn2_B, h]
def M46 : MFun := ⟨[true], fun xs obs => ∃ k a r, xs = [.optr 0 0 0 0, I k, I a] ∧ obs = rO r, fun xs obs => (.tup [], rO (stopR (deI (xs.getD 1 .top)) (deI (xs.getD 2 .top)) (unR obs)))⟩
theorem stop_res (k a : Int) (r : Rd) : M46.res [.optr 0 0 0 0, I k, I a] (rO r) = (.tup [], rO (stopR k a r)) := by simp [M46, deI]
theorem m46 : GenMA K Tryd.prog 46 M46 := by
  refine contractMA Tryd.mix K [] [(49, M49)] (by simp) (by simp [m49]) Tryd.func46 rfl (by decide) ?_
  rintro xs obs us ⟨k, a, r, rfl, rfl⟩ hu
  obtain ⟨u, rfl⟩ : ∃ u, us = [u] := by simpa [rO, List.length_eq_one_iff] using hu
  rw [stop_res]
  refine ⟨⟨by rw [Tryd.ntmps46]; simp, by simp, ?_⟩, ?_⟩
  · rintro (_ | j) ob hob
    · simp [rO] at hob; subst hob; exact ⟨_, rfl, rfl, rfl, rfl, rfl, rfl⟩
    · simp [rO] at hob
  have p : M49.pre [.optr 0 0 0 0] [⟨78, 6, 0, [[.v (.string r.s), I r.pos, I r.en, B r.dn, I r.fk, I r.fa]], true, true, none⟩] := ⟨rfl, r, rfl⟩
  have q : M49.res [.optr 0 0 0 0] [⟨78, 6, 0, [[.v (.string r.s), I r.pos, I r.en, B r.dn, I r.fk, I r.fa]], true, true, none⟩] = (B (decide (r.fk ≠ 0)), [⟨78, 6, 0, [[.v (.string r.s), I r.pos, I r.en, B r.dn, I r.fk, I r.fa]], true, true, none⟩]) := by
    have := unR_rO r
    unfold rO at this
    simp [M49, this, rO]
  have imu : M49.mu = [true] := rfl
  by_cases h : r.fk = 0
  · have e : stopR k a r = ⟨r.s, r.pos, r.en, r.dn, k, a⟩ := by simp [stopR, h]
    rw [e]
    have hd : decide (r.fk ≠ 0) = false := by simp [h]
    rw [hd] at q
    simp -implicitDefEqProofs [Tryd.f46, List.lookup_cons, eS, rbR_iR, rbR_nil, rbOb_mk, iR_mf, pickOk, -List.all_eq_true, iR_ok, ok0, iR_eq_nil, deIs_nil, rO, p, q, imu, rbR_rd]
    refine finMs [0] (by simp [pickOk, -List.all_eq_true, ok0_S, ok0_I, ok0_B]) (by simp [pinsM, upd, tl_cons]) ?_
    simp -implicitDefEqProofs [fS, rn0, pickObs, deI, rn2_B, rn2_N]
  · have e : stopR k a r = r := by simp [stopR, h]
    rw [e]
    have hd : decide (r.fk ≠ 0) = true := by simp [h]
    rw [hd] at q
    simp -implicitDefEqProofs [Tryd.f46, List.lookup_cons, eS, rbR_iR, rbR_nil, rbOb_mk, iR_mf, pickOk, -List.all_eq_true, iR_ok, ok0, iR_eq_nil, deIs_nil, rO, p, q, imu, rbR_rd]
    refine finMs [0] (by simp [pickOk, -List.all_eq_true, ok0_S, ok0_I, ok0_B]) (by simp [pinsM, upd, tl_cons]) ?_
    simp -implicitDefEqProofs [fS, rn0, pickObs, deI, rn2_B, rn2_N]
end Go.Proofs
namespace Go.Proofs
open Go.Abs Go.Flat
def okR (r : Rd) : Prop := r.pos ≤ r.en ∧ r.en ≤ r.s.size ∧ r.s.size ≤ 1048576
theorem Keep.okR {r r' : Rd} (h : Keep r r') (k : okR r) : okR r' := ⟨h.le k.1 k.2.1, by rw [h.en, h.s]; exact k.2.1, by rw [h.s]; exact k.2.2⟩
def M70 : MFun := ⟨[true], fun xs obs => ∃ r, xs = [.optr 0 0 0 0] ∧ obs = rO r ∧ okR r, fun xs obs => (.tup [.v (.string (wordR (unR obs)).1), I (wordR (unR obs)).2.1], rO (wordR (unR obs)).2.2)⟩
theorem word_res (r : Rd) : M70.res [.optr 0 0 0 0] (rO r) = (.tup [.v (.string (wordR r).1), I (wordR r).2.1], rO (wordR r).2.2) := by simp [M70]
theorem rn2_T2 (h : List Ob) (ks : List Nat) (s : ByteArray) (n : Int) : rn2 h ks (.tup [.v (.string s), I n]) = .tup [.v (.string s), I n] := rfl
theorem m70 : GenMA K Tryd.prog 70 M70 := by
  refine contractMA Tryd.mix K [(27, FIx1)] [(46, M46)] (by simp [cIx1]) (by simp [m46]) Tryd.func70 rfl (by decide) ?_
  rintro xs obs us ⟨r, rfl, rfl, hk⟩ hu
  obtain ⟨u, rfl⟩ : ∃ u, us = [u] := by simpa [rO, List.length_eq_one_iff] using hu
  rw [word_res]
  refine ⟨⟨by rw [Tryd.ntmps70]; simp, by simp, ?_⟩, ?_⟩
  · rintro (_ | j) ob hob
    · simp [rO] at hob; subst hob; exact ⟨_, rfl, rfl, rfl, rfl, rfl, rfl⟩
    · simp [rO] at hob
  obtain ⟨k1, k2, k3⟩ := hk
  have imu : M46.mu = [true] := rfl
  have p0 : M46.pre [.optr 0 0 0 0, I 6, I r.en] [⟨78, 6, 0, [[.v (.string r.s), I r.pos, I r.en, B r.dn, I r.fk, I r.fa]], true, true, none⟩] := ⟨6, r.en, r, rfl, rfl⟩
  have q0 := stop_res 6 r.en r
  cases hd : r.dn with
  | true =>
    have e : wordR r = (⟨#[]⟩, r.pos, stopR 6 r.en r) := by unfold wordR; rw [if_pos hd]
    rw [e]
    dsimp only
    unfold rO at q0 ⊢
    rw [hd] at p0 q0
    simp -implicitDefEqProofs [Tryd.f70, List.lookup_cons, eS, rbR_iR, rbR_nil, rbOb_mk, iR_mf, pickOk, -List.all_eq_true, iR_ok, ok0, iR_eq_nil, deIs_nil, hd, p0, q0, imu, rbR_rd]
    refine finMs [0] (by simp [pickOk, -List.all_eq_true, ok0_S, ok0_I, ok0_B]) (by simp [pinsM, upd, tl_cons]) ?_
    simp -implicitDefEqProofs [fS, rn0, pickObs, deI, rn2_T2]
  | false =>
    have hse : r.en - r.pos ≤ r.s.size := by omega
    have hk3 : r.pos ≤ r.s.size := by omega
    have hsz := ext_size r.s r.pos r.en k2
    obtain ⟨w, hw⟩ : ∃ w, r.s.extract r.pos r.en = w := ⟨_, rfl⟩
    rcases index_lt (l := bL w) (c := 32) with hi | ⟨i, hi, hlt⟩
    · have e : wordR r = (w, r.pos, { r with pos := r.en, dn := true }) := by
        unfold wordR
        rw [if_neg (by simp [hd]), hw, hi, if_pos (by decide)]
      rw [e]
      unfold rO
      simp -implicitDefEqProofs [Tryd.f70, List.lookup_cons, eS, rbR_iR, rbR_nil, rbOb_mk, iR_mf, pickOk, -List.all_eq_true, iR_ok, ok0, iR_eq_nil, deIs_nil, hd]
      refine drawP_all _ (by decide) ?_
      simp -implicitDefEqProofs [List.lookup_cons, eS, rbR_iR, rbR_nil, rbOb_mk, iR_mf, pickOk, -List.all_eq_true, iR_ok, ok0, iR_eq_nil, deIs_nil, eSlice, bnd, k1, k2, k3, hk3, hw, FIx1, deU, deS, hi, rbR_rd]
      refine finMs [0] (by simp [pickOk, -List.all_eq_true, ok0_S, ok0_I, ok0_B]) (by simp [pinsM, upd, tl_cons]) ?_
      simp -implicitDefEqProofs [fS, rn0, pickObs, deI, rn2_T2]
    · have hil : i < r.en - r.pos := by rw [bL_len, ← hw, hsz] at hlt; exact hlt
      have e : wordR r = (r.s.extract r.pos (r.pos + i), r.pos, { r with pos := r.pos + i + 1 }) := by
        unfold wordR
        rw [if_neg (by simp [hd]), hw, hi, if_neg (by omega)]
        simp
      have hw1 : IntKind.i64.wrap ((r.pos : Int) + i) = (r.pos : Int) + i := w64 (by omega) (by omega)
      have hw2 : IntKind.i64.wrap ((r.pos : Int) + i + 1) = (r.pos : Int) + i + 1 := w64 (by omega) (by omega)
      have hws : w.size = r.en - r.pos := by rw [← hw]; exact hsz
      have hiw : i ≤ w.size := by omega
      have hpre : w.extract 0 i = r.s.extract r.pos (r.pos + i) := by rw [← hw, ext_ext _ _ _ _ _ (Nat.zero_le _) (by omega), Nat.add_zero]
      rw [e]
      unfold rO
      simp -implicitDefEqProofs [Tryd.f70, List.lookup_cons, eS, rbR_iR, rbR_nil, rbOb_mk, iR_mf, pickOk, -List.all_eq_true, iR_ok, ok0, iR_eq_nil, deIs_nil, hd]
      refine drawP_all _ (by decide) ?_
      simp -implicitDefEqProofs [List.lookup_cons, eS, rbR_iR, rbR_nil, rbOb_mk, iR_mf, pickOk, -List.all_eq_true, iR_ok, ok0, iR_eq_nil, deIs_nil, eSlice, bnd, k1, k2, k3, hk3, hw, FIx1, deU, deS, hi, rbR_rd, hw1, hw2, hiw, hpre]
      refine finMs [0] (by simp [pickOk, -List.all_eq_true, ok0_S, ok0_I, ok0_B]) (by simp [pinsM, upd, tl_cons]) ?_
      simp -implicitDefEqProofs [fS, rn0, pickObs, deI, rn2_T2]
theorem ext_le (s : ByteArray) (i j : Nat) : (s.extract i j).size ≤ s.size := by
  rw [← bL_len, ← bL_len, bL_ext, List.length_take, List.length_drop]
  omega
theorem word_size (r : Rd) : (wordR r).1.size ≤ r.s.size := by
  unfold wordR
  split
  · exact Nat.zero_le _
  · split <;> exact ext_le _ _ _
def M92 : MFun := ⟨[true], fun xs obs => ∃ r, xs = [.optr 0 0 0 0] ∧ obs = rO r ∧ okR r, fun xs obs => (I (numR (unR obs)).1, rO (numR (unR obs)).2)⟩
theorem number_res (r : Rd) : M92.res [.optr 0 0 0 0] (rO r) = (I (numR r).1, rO (numR r).2) := by simp [M92]
theorem m92 : GenMA K Tryd.prog 92 M92 := by
  refine contractMA Tryd.mix K [(112, F112)] [(70, M70), (46, M46)] (by simp [c112]) (by simp [m70, m46]) Tryd.func92 rfl (by decide) ?_
  rintro xs obs us ⟨r, rfl, rfl, hk⟩ hu
  obtain ⟨u, rfl⟩ : ∃ u, us = [u] := by simpa [rO, List.length_eq_one_iff] using hu
  rw [number_res]
  refine ⟨⟨by rw [Tryd.ntmps92]; simp, by simp, ?_⟩, ?_⟩
  · rintro (_ | j) ob hob
    · simp [rO] at hob; subst hob; exact ⟨_, rfl, rfl, rfl, rfl, rfl, rfl⟩
    · simp [rO] at hob
  have imw : M70.mu = [true] := rfl
  have ims : M46.mu = [true] := rfl
  have p0 : M70.pre [.optr 0 0 0 0] (rO r) := ⟨r, rfl, rfl, hk⟩
  have q0 := word_res r
  have hz := Nat.le_trans (word_size r) hk.2.2
  unfold numR
  generalize wordR r = t at q0 hz ⊢
  obtain ⟨w, a, r'⟩ := t
  dsimp only at q0 hz ⊢
  have p1 : F112.pre [.v (.string w)] := ⟨w, rfl, hz⟩
  have q1 : F112.res [.v (.string w)] = (anyT w, []) := rfl
  have p2 : M46.pre [.optr 0 0 0 0, I 3, I a] (rO r') := ⟨3, a, r', rfl, rfl⟩
  have q2 := stop_res 3 a r'
  unfold anyT at q1
  by_cases h : rdAny w < 0
  · rw [if_pos h] at q1 ⊢
    generalize stopR 3 a r' = r'' at q2 ⊢
    unfold rO at p0 q0 p2 q2 ⊢
    simp -implicitDefEqProofs [Tryd.f92, List.lookup_cons, eS, rbR_iR, rbR_nil, rbOb_mk, iR_mf, pickOk, -List.all_eq_true, iR_ok, ok0, iR_eq_nil, deIs_nil, p0, q0, p1, q1, p2, q2, imw, ims, rbR_rd, rn2_T2]
    refine finMs [0] (by simp [pickOk, -List.all_eq_true, ok0_S, ok0_I, ok0_B]) (by simp [pinsM, upd, tl_cons]) ?_
    simp -implicitDefEqProofs [fS, rn0, pickObs, deI, rn2_I2]
  · rw [if_neg h] at q1 ⊢
    unfold rO at p0 q0 p2 q2 ⊢
    simp -implicitDefEqProofs [Tryd.f92, List.lookup_cons, eS, rbR_iR, rbR_nil, rbOb_mk, iR_mf, pickOk, -List.all_eq_true, iR_ok, ok0, iR_eq_nil, deIs_nil, p0, q0, p1, q1, p2, q2, imw, ims, rbR_rd, rn2_T2]
    refine finMs [0] (by simp [pickOk, -List.all_eq_true, ok0_S, ok0_I, ok0_B]) (by simp [pinsM, upd, tl_cons]) ?_
    simp -implicitDefEqProofs [fS, rn0, pickObs, deI, rn2_I2]
def M72 : MFun := ⟨[true], fun xs obs => ∃ r, xs = [.optr 0 0 0 0] ∧ obs = rO r, fun xs obs => (.tup [], rO (finR (unR obs)))⟩
theorem finish_res (r : Rd) : M72.res [.optr 0 0 0 0] (rO r) = (.tup [], rO (finR r)) := by simp [M72]
theorem m72 : GenMA K Tryd.prog 72 M72 := by
  refine contractMA Tryd.mix K [] [(46, M46)] (by simp) (by simp [m46]) Tryd.func72 rfl (by decide) ?_
  rintro xs obs us ⟨r, rfl, rfl⟩ hu
  obtain ⟨u, rfl⟩ : ∃ u, us = [u] := by simpa [rO, List.length_eq_one_iff] using hu
  rw [finish_res]
  refine ⟨⟨by rw [Tryd.ntmps72]; simp, by simp, ?_⟩, ?_⟩
  · rintro (_ | j) ob hob
    · simp [rO] at hob; subst hob; exact ⟨_, rfl, rfl, rfl, rfl, rfl, rfl⟩
    · simp [rO] at hob
  have ims : M46.mu = [true] := rfl
  have p2 : M46.pre [.optr 0 0 0 0, I 2, I r.pos] (rO r) := ⟨2, r.pos, r, rfl, rfl⟩
  have q2 := stop_res 2 r.pos r
  unfold finR
  cases hd : r.dn with
  | true =>
    rw [if_pos rfl]
    unfold rO
    simp -implicitDefEqProofs [Tryd.f72, List.lookup_cons, eS, rbR_iR, rbR_nil, rbOb_mk, iR_mf, pickOk, -List.all_eq_true, iR_ok, ok0, iR_eq_nil, deIs_nil, hd]
    refine finMs [0] (by simp [pickOk, -List.all_eq_true, ok0_S, ok0_I, ok0_B]) (by simp [pinsM, upd, tl_cons]) ?_
    simp -implicitDefEqProofs [fS, rn0, pickObs, deI, rn2_N]
  | false =>
    rw [if_neg (by simp)]
    generalize stopR 2 r.pos r = r'' at q2 ⊢
    unfold rO at p2 q2 ⊢
    rw [hd] at p2 q2
    simp -implicitDefEqProofs [Tryd.f72, List.lookup_cons, eS, rbR_iR, rbR_nil, rbOb_mk, iR_mf, pickOk, -List.all_eq_true, iR_ok, ok0, iR_eq_nil, deIs_nil, hd, p2, q2, ims, rbR_rd]
    refine finMs [0] (by simp [pickOk, -List.all_eq_true, ok0_S, ok0_I, ok0_B]) (by simp [pinsM, upd, tl_cons]) ?_
    simp -implicitDefEqProofs [fS, rn0, pickObs, deI, rn2_N]
end Go.Proofs
