/-
  What is proved here: contracts of the reader of words (word, number, finish). Condition: none.
-/
import Derived.Test.YtecpfgnkiifnpaaFR4k
namespace Go.Proofs
open Go.Abs Go.Flat
set_option linter.unusedSimpArgs false
set_option linter.unnecessarySimpa false
set_option linter.unusedVariables false
set_option maxHeartbeats 8000000
set_option maxRecDepth 20000
def okR (r : Rd) : Prop := r.pos ≤ r.en ∧ r.en ≤ r.s.size ∧ r.s.size ≤ 1048576
theorem Keep.okR {r r' : Rd} (h : Keep r r') (k : okR r) : okR r' := ⟨h.le k.1 k.2.1, by rw [h.en, h.s]; exact k.2.1, by rw [h.s]; exact k.2.2⟩
def M39 : MFun := ⟨[true], fun xs obs => ∃ r, xs = [.optr 0 0 0 0] ∧ obs = rO r ∧ okR r, fun xs obs => (.tup [.v (.string (wordR (unR obs)).1), I (wordR (unR obs)).2.1], rO (wordR (unR obs)).2.2)⟩
theorem word_res (r : Rd) : M39.res [.optr 0 0 0 0] (rO r) = (.tup [.v (.string (wordR r).1), I (wordR r).2.1], rO (wordR r).2.2) := by simp [M39]
theorem rn2_T2 (h : List Ob) (ks : List Nat) (s : ByteArray) (n : Int) : rn2 h ks (.tup [.v (.string s), I n]) = .tup [.v (.string s), I n] := rfl
theorem m39 : GenMA K Try.prog 39 M39 := by
  refine contractMA Try.mix K [(51, FIx1)] [(40, M40)] (by simp [cIx1]) (by simp [m40]) Try.func39 rfl (by decide) ?_
  rintro xs obs us ⟨r, rfl, rfl, hk⟩ hu
  obtain ⟨u, rfl⟩ : ∃ u, us = [u] := by simpa [rO, List.length_eq_one_iff] using hu
  rw [word_res]
  refine ⟨⟨by rw [Try.ntmps39]; simp, by simp, ?_⟩, ?_⟩
  · rintro (_ | j) ob hob
    · simp [rO] at hob; subst hob; exact ⟨_, rfl, rfl, rfl, rfl, rfl, rfl⟩
    · simp [rO] at hob
  obtain ⟨k1, k2, k3⟩ := hk
  have imu : M40.mu = [true] := rfl
  have p0 : M40.pre [.optr 0 0 0 0, I 6, I r.en] [⟨73, 6, 0, [[.v (.string r.s), I r.pos, I r.en, B r.dn, I r.fk, I r.fa]], true, true, none⟩] := ⟨6, r.en, r, rfl, rfl⟩
  have q0 := stop_res 6 r.en r
  cases hd : r.dn with
  | true =>
    have e : wordR r = (⟨#[]⟩, r.pos, stopR 6 r.en r) := by unfold wordR; rw [if_pos hd]
    rw [e]
    dsimp only
    unfold rO at q0 ⊢
    rw [hd] at p0 q0
    simp -implicitDefEqProofs [Try.f39, List.lookup_cons, eS, rbR_iR, rbR_nil, rbOb_mk, iR_mf, pickOk, -List.all_eq_true, iR_ok, ok0, iR_eq_nil, deIs_nil, hd, p0, q0, imu, rbR_rd]
    refine finMs [0] (by simp [pickOk, -List.all_eq_true, ok0_S, ok0_I, ok0_B]) (by simp [pinsM, upd, tl_cons]) ?_
    simp -implicitDefEqProofs [fS, rn0, pickObs, deI, rn2_T2]
  | false =>
    have hse : r.en - r.pos ≤ r.s.size := by omega
    have hk3 : r.pos ≤ r.s.size := by omega
    have hsz := ext_size r.s r.pos r.en k2
    obtain ⟨w, hw⟩ : ∃ w, r.s.extract r.pos r.en = w := ⟨_, rfl⟩
    rcases index_lt (l := bL w) (c := 32) with hi | ⟨i, hi, hlt⟩
    · have e : wordR r = (w, r.pos, { r with pos := r.en, dn := true }) := by
        unfold wordR
        rw [if_neg (by simp [hd]), hw, hi, if_pos (by decide)]
      rw [e]
      unfold rO
      simp -implicitDefEqProofs [Try.f39, List.lookup_cons, eS, rbR_iR, rbR_nil, rbOb_mk, iR_mf, pickOk, -List.all_eq_true, iR_ok, ok0, iR_eq_nil, deIs_nil, hd]
      refine drawP_all _ (by decide) ?_
      simp -implicitDefEqProofs [List.lookup_cons, eS, rbR_iR, rbR_nil, rbOb_mk, iR_mf, pickOk, -List.all_eq_true, iR_ok, ok0, iR_eq_nil, deIs_nil, eSlice, bnd, k1, k2, k3, hk3, hw, FIx1, deU, deS, hi, rbR_rd]
      refine finMs [0] (by simp [pickOk, -List.all_eq_true, ok0_S, ok0_I, ok0_B]) (by simp [pinsM, upd, tl_cons]) ?_
      simp -implicitDefEqProofs [fS, rn0, pickObs, deI, rn2_T2]
    · have hil : i < r.en - r.pos := by rw [bL_len, ← hw, hsz] at hlt; exact hlt
      have e : wordR r = (r.s.extract r.pos (r.pos + i), r.pos, { r with pos := r.pos + i + 1 }) := by
        unfold wordR
        rw [if_neg (by simp [hd]), hw, hi, if_neg (by omega)]
        simp
      have hw1 : IntKind.i64.wrap ((r.pos : Int) + i) = (r.pos : Int) + i := w64 (by omega) (by omega)
      have hw2 : IntKind.i64.wrap ((r.pos : Int) + i + 1) = (r.pos : Int) + i + 1 := w64 (by omega) (by omega)
      have hws : w.size = r.en - r.pos := by rw [← hw]; exact hsz
      have hiw : i ≤ w.size := by omega
      have hpre : w.extract 0 i = r.s.extract r.pos (r.pos + i) := by rw [← hw, ext_ext _ _ _ _ _ (Nat.zero_le _) (by omega), Nat.add_zero]
      rw [e]
      unfold rO
      simp -implicitDefEqProofs [Try.f39, List.lookup_cons, eS, rbR_iR, rbR_nil, rbOb_mk, iR_mf, pickOk, -List.all_eq_true, iR_ok, ok0, iR_eq_nil, deIs_nil, hd]
      refine drawP_all _ (by decide) ?_
      simp -implicitDefEqProofs [List.lookup_cons, eS, rbR_iR, rbR_nil, rbOb_mk, iR_mf, pickOk, -List.all_eq_true, iR_ok, ok0, iR_eq_nil, deIs_nil, eSlice, bnd, k1, k2, k3, hk3, hw, FIx1, deU, deS, hi, rbR_rd, hw1, hw2, hiw, hpre]
      refine finMs [0] (by simp [pickOk, -List.all_eq_true, ok0_S, ok0_I, ok0_B]) (by simp [pinsM, upd, tl_cons]) ?_
      simp -implicitDefEqProofs [fS, rn0, pickObs, deI, rn2_T2]
theorem ext_le (s : ByteArray) (i j : Nat) : (s.extract i j).size ≤ s.size := by
  rw [← bL_len, ← bL_len, bL_ext, List.length_take, List.length_drop]
  omega
theorem word_size (r : Rd) : (wordR r).1.size ≤ r.s.size := by
  unfold wordR
  split
  · exact Nat.zero_le _
  · split <;> exact ext_le _ _ _
def M52 : MFun := ⟨[true], fun xs obs => ∃ r, xs = [.optr 0 0 0 0] ∧ obs = rO r ∧ okR r, fun xs obs => (I (numR (unR obs)).1, rO (numR (unR obs)).2)⟩
theorem number_res (r : Rd) : M52.res [.optr 0 0 0 0] (rO r) = (I (numR r).1, rO (numR r).2) := by simp [M52]
theorem m52 : GenMA K Try.prog 52 M52 := by
  refine contractMA Try.mix K [(60, F60)] [(39, M39), (40, M40)] (by simp [c60]) (by simp [m39, m40]) Try.func52 rfl (by decide) ?_
  rintro xs obs us ⟨r, rfl, rfl, hk⟩ hu
  obtain ⟨u, rfl⟩ : ∃ u, us = [u] := by simpa [rO, List.length_eq_one_iff] using hu
  rw [number_res]
  refine ⟨⟨by rw [Try.ntmps52]; simp, by simp, ?_⟩, ?_⟩
  · rintro (_ | j) ob hob
    · simp [rO] at hob; subst hob; exact ⟨_, rfl, rfl, rfl, rfl, rfl, rfl⟩
    · simp [rO] at hob
  have imw : M39.mu = [true] := rfl
  have ims : M40.mu = [true] := rfl
  have p0 : M39.pre [.optr 0 0 0 0] (rO r) := ⟨r, rfl, rfl, hk⟩
  have q0 := word_res r
  have hz := Nat.le_trans (word_size r) hk.2.2
  unfold numR
  generalize wordR r = t at q0 hz ⊢
  obtain ⟨w, a, r'⟩ := t
  dsimp only at q0 hz ⊢
  have p1 : F60.pre [.v (.string w)] := ⟨w, rfl, hz⟩
  have q1 : F60.res [.v (.string w)] = (anyT w, []) := rfl
  have p2 : M40.pre [.optr 0 0 0 0, I 3, I a] (rO r') := ⟨3, a, r', rfl, rfl⟩
  have q2 := stop_res 3 a r'
  unfold anyT at q1
  by_cases h : rdAny w < 0
  · rw [if_pos h] at q1 ⊢
    generalize stopR 3 a r' = r'' at q2 ⊢
    unfold rO at p0 q0 p2 q2 ⊢
    simp -implicitDefEqProofs [Try.f52, List.lookup_cons, eS, rbR_iR, rbR_nil, rbOb_mk, iR_mf, pickOk, -List.all_eq_true, iR_ok, ok0, iR_eq_nil, deIs_nil, p0, q0, p1, q1, p2, q2, imw, ims, rbR_rd, rn2_T2]
    refine finMs [0] (by simp [pickOk, -List.all_eq_true, ok0_S, ok0_I, ok0_B]) (by simp [pinsM, upd, tl_cons]) ?_
    simp -implicitDefEqProofs [fS, rn0, pickObs, deI, rn2_I2]
  · rw [if_neg h] at q1 ⊢
    unfold rO at p0 q0 p2 q2 ⊢
    simp -implicitDefEqProofs [Try.f52, List.lookup_cons, eS, rbR_iR, rbR_nil, rbOb_mk, iR_mf, pickOk, -List.all_eq_true, iR_ok, ok0, iR_eq_nil, deIs_nil, p0, q0, p1, q1, p2, q2, imw, ims, rbR_rd, rn2_T2]
    refine finMs [0] (by simp [pickOk, -List.all_eq_true, ok0_S, ok0_I, ok0_B]) (by simp [pinsM, upd, tl_cons]) ?_
    simp -implicitDefEqProofs [fS, rn0, pickObs, deI, rn2_I2]
def M53 : MFun := ⟨[true], fun xs obs => ∃ r, xs = [.optr 0 0 0 0] ∧ obs = rO r, fun xs obs => (.tup [], rO (finR (unR obs)))⟩
theorem finish_res (r : Rd) : M53.res [.optr 0 0 0 0] (rO r) = (.tup [], rO (finR r)) := by simp [M53]
theorem m53 : GenMA K Try.prog 53 M53 := by
  refine contractMA Try.mix K [] [(40, M40)] (by simp) (by simp [m40]) Try.func53 rfl (by decide) ?_
  rintro xs obs us ⟨r, rfl, rfl⟩ hu
  obtain ⟨u, rfl⟩ : ∃ u, us = [u] := by simpa [rO, List.length_eq_one_iff] using hu
  rw [finish_res]
  refine ⟨⟨by rw [Try.ntmps53]; simp, by simp, ?_⟩, ?_⟩
  · rintro (_ | j) ob hob
    · simp [rO] at hob; subst hob; exact ⟨_, rfl, rfl, rfl, rfl, rfl, rfl⟩
    · simp [rO] at hob
  have ims : M40.mu = [true] := rfl
  have p2 : M40.pre [.optr 0 0 0 0, I 2, I r.pos] (rO r) := ⟨2, r.pos, r, rfl, rfl⟩
  have q2 := stop_res 2 r.pos r
  unfold finR
  cases hd : r.dn with
  | true =>
    rw [if_pos rfl]
    unfold rO
    simp -implicitDefEqProofs [Try.f53, List.lookup_cons, eS, rbR_iR, rbR_nil, rbOb_mk, iR_mf, pickOk, -List.all_eq_true, iR_ok, ok0, iR_eq_nil, deIs_nil, hd]
    refine finMs [0] (by simp [pickOk, -List.all_eq_true, ok0_S, ok0_I, ok0_B]) (by simp [pinsM, upd, tl_cons]) ?_
    simp -implicitDefEqProofs [fS, rn0, pickObs, deI, rn2_N]
  | false =>
    rw [if_neg (by simp)]
    generalize stopR 2 r.pos r = r'' at q2 ⊢
    unfold rO at p2 q2 ⊢
    rw [hd] at p2 q2
    simp -implicitDefEqProofs [Try.f53, List.lookup_cons, eS, rbR_iR, rbR_nil, rbOb_mk, iR_mf, pickOk, -List.all_eq_true, iR_ok, ok0, iR_eq_nil, deIs_nil, hd, p2, q2, ims, rbR_rd]
    refine finMs [0] (by simp [pickOk, -List.all_eq_true, ok0_S, ok0_I, ok0_B]) (by simp [pinsM, upd, tl_cons]) ?_
    simp -implicitDefEqProofs [fS, rn0, pickObs, deI, rn2_N]
end Go.Proofs
