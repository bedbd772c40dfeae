/-
  What is proved here: the contract of the reader's line. Condition: none.
-/
import Derived.Test.YtecpfgnkiifnpaaGreatDoorFR16o
import Derived.Test.YtecpfgnkiifnpaaGreatDoorFRe
namespace Go.Proofs
open Go.Abs Go.Flat
set_option linter.unusedSimpArgs false
set_option linter.unnecessarySimpa false
set_option linter.unusedVariables false
set_option maxHeartbeats 16000000
set_option maxRecDepth 20000
theorem goR_config (st : Ps) (r : Rd) : goR st kwConfig r = (⟨⟨(nameR r).1, st.c.cls, st.c.fil, st.c.dflt⟩, st.nc + 1, st.nd⟩, (nameR r).2) := by simp only [goR, if_true]
theorem goR_default (st : Ps) (r : Rd) : goR st kwDefault r = (⟨⟨st.c.name, st.c.cls, st.c.fil, cD (numbersR [noW] r).1 0⟩, st.nc, st.nd + 1⟩, (numbersR [noW] r).2) := by simp only [goR, if_neg k_dc, if_true]
theorem goR_class (st : Ps) (r : Rd) : goR st kwClass r = (⟨⟨st.c.name, st.c.cls ++ [toC (numbersR cwL r).1], st.c.fil, st.c.dflt⟩, st.nc, st.nd⟩, (numbersR cwL r).2) := by simp only [goR, if_neg k_cc, if_neg k_cd, if_true]
theorem goR_filter (st : Ps) (r : Rd) : goR st kwFilter r = (⟨⟨st.c.name, st.c.cls, st.c.fil ++ [toF (numbersR fwL r).1], st.c.dflt⟩, st.nc, st.nd⟩, (numbersR fwL r).2) := by simp only [goR, if_neg k_fc, if_neg k_fd, if_neg k_fl, if_true]
theorem stop_ne (k a : Int) (r : Rd) (hk : k ≠ 0) : (stopR k a r).fk ≠ 0 := by
  unfold stopR
  split
  · exact hk
  · assumption
theorem cmd_fine {st : Ps} {r : Rd} (h : (cmdR st r).2.fk = 0) : fineW st (cmdR st r).1 = true ∧ fullW st (cmdR st r).1 = false := by
  unfold cmdR at h ⊢
  dsimp only at h ⊢
  by_cases hf : fineW st (wordR r).1 = false
  · rw [if_pos hf] at h
    exact absurd h (stop_ne 2 _ _ (by decide))
  · rw [if_neg hf] at h
    by_cases hu : fullW st (wordR r).1 = true
    · rw [if_pos hu] at h
      exact absurd h (stop_ne 5 _ _ (by decide))
    · exact ⟨by simpa using hf, by simpa using hu⟩
theorem full_class {st : Ps} (h : fullW st kwClass = false) : st.c.cls.length ≠ 24 := by
  simp only [fullW, decide_true, Bool.true_and, Bool.or_eq_false_iff, decide_eq_false_iff_not] at h
  exact h.1
theorem full_filter {st : Ps} (h : fullW st kwFilter = false) : st.c.fil.length ≠ 16 := by
  simp only [fullW, decide_true, Bool.true_and, Bool.or_eq_false_iff, decide_eq_false_iff_not] at h
  exact h.2
theorem nuR_len (ws : List ByteArray) (r : Rd) : (numbersR ws r).1.length = ws.length := numsR_len ws r
def lnO (v w : Nat) (st : Ps) (r : Rd) : List Ob := [⟨79, 6, 0, [[.v (.string r.s), I r.pos, I r.en, B r.dn, I r.fk, I r.fa]], true, true, none⟩, ⟨25, 4, 0, [[.v (.string st.c.name), .osl 2 v, .osl 3 w, I st.c.dflt]], true, true, none⟩,
  ⟨63, 8, v, tR st.c.cls, false, true, none⟩, ⟨66, 5, w, tR st.c.fil, false, true, none⟩, ⟨58, 2, 0, [[I st.nc, I st.nd]], true, true, none⟩]
def unL (obs : List Ob) : Ps × Rd := match obs with
  | [rb, cb, lb, fb, hb] => (match cb.rows, hb.rows with
    | [[n, _, _, d]], [[a, b]] => (⟨⟨deS n, deT (.sl lb.rows), deT (.sl fb.rows), deI d⟩, (deI a).toNat, (deI b).toNat⟩, unR [rb])
    | _, _ => (ps0, ⟨noW, 0, 0, false, 0, 0⟩))
  | _ => (ps0, ⟨noW, 0, 0, false, 0, 0⟩)
theorem unL_eq (st : Ps) (r : Rd) : unL (lnO 0 0 st r) = (st, r) := by
  have e := unR_rO r
  unfold rO at e
  simp [unL, lnO, e, deS, deI]
def lnA : List X := [.optr 0 0 0 0, .optr 1 0 0 0, .optr 4 0 0 0]
def okP (st : Ps) : Prop := st.c.cls.length ≤ 24 ∧ st.c.fil.length ≤ 16 ∧ st.nc ≤ 7000 ∧ st.nd ≤ 7000
def M61 : MFun := ⟨[true, true, true], fun xs obs => ∃ (st : Ps) (r : Rd), xs = lnA ∧ obs = lnO 0 0 st r ∧ okR r ∧ okP st,
  fun xs obs => (.tup [], lnO 1 1 (lineR (unL obs).1 (unL obs).2).1 (lineR (unL obs).1 (unL obs).2).2)⟩
theorem line_res (st : Ps) (r : Rd) : M61.res lnA (lnO 0 0 st r) = (.tup [], lnO 1 1 (lineR st r).1 (lineR st r).2) := by
  simp only [M61, unL_eq]
theorem n61 : GenNA K Tryz.prog 61 M61 := by
  refine contractNA Tryz.mix K [(71, F71), (78, Fr78), (81, Fr81), (92, F92), (93, F93)]
    [(89, M89), (59, M59), (62, M62), (90, M90)] [(88, M88), (91, M91)]
    (by simp [c71, cr78, cr81, c92, c93]) (by simp [m89, m59, m62, m90]) (by simp [n88, n91]) Tryz.func61 rfl (by decide) ?_
  rintro xs obs us ⟨st, r, rfl, rfl, hk, ⟨o1, o2, o3, o4⟩⟩ hu
  obtain ⟨u0, u1, u2, u3, u4, rfl⟩ : ∃ u0 u1 u2 u3 u4, us = [u0, u1, u2, u3, u4] := by
    match us, hu with
    | [a, b, c, d, e], _ => exact ⟨a, b, c, d, e, rfl⟩
  rw [line_res]
  refine ⟨⟨by rw [Tryz.ntmps61]; simp [lnA], by simp [lnA], fun k ob hob => ?_⟩, ?_⟩
  · match k, hob with
    | 0, hob => simp [lnO] at hob; subst hob; exact ⟨_, rfl, rfl, rfl, rfl, rfl⟩
    | 1, hob => simp [lnO] at hob; subst hob; exact ⟨_, rfl, rfl, rfl, rfl, rfl⟩
    | 2, hob => simp [lnO] at hob; subst hob; exact ⟨_, rfl, rfl, rfl, rfl, rfl⟩
    | 3, hob => simp [lnO] at hob; subst hob; exact ⟨_, rfl, rfl, rfl, rfl, rfl⟩
    | 4, hob => simp [lnO] at hob; subst hob; exact ⟨_, rfl, rfl, rfl, rfl, rfl⟩
    | k + 5, hob => simp [lnO] at hob
  have imc : M88.mu = [true, true, false] := rfl
  have imw : M89.mu = [true] := rfl
  have ims : M59.mu = [true] := rfl
  have imb : M62.mu = [true] := rfl
  have imf : M90.mu = [true] := rfl
  have imn : M91.mu = [true, true] := rfl
  have pc : M88.pre (cmdA st) (rO r ++ fObs st.c) := ⟨st, r, rfl, rfl, hk⟩
  have qc := cmd_res st r
  have hko := Keep.okR (keep_cmd st r) hk
  have hL : lineR st r = if (cmdR st r).2.fk ≠ 0 then (st, (cmdR st r).2) else goR st (cmdR st r).1 (cmdR st r).2 := rfl
  have hfin := @cmd_fine st r
  generalize cmdR st r = t at qc hko hL hfin
  obtain ⟨w, r1⟩ := t
  dsimp only at qc hko hL hfin
  have pb : M62.pre [.optr 0 0 0 0] (rO r1) := ⟨rfl, r1, rfl⟩
  have qb : M62.res [.optr 0 0 0 0] (rO r1) = (B (decide (r1.fk ≠ 0)), rO r1) := by simp [M62]
  simp only [rO, fObs, obCls, obFil, cmdA, cgX, List.cons_append, List.nil_append] at pc qc pb qb
  have dr : ∀ (P Q : Prop), P = Q → (Q → P) := fun _ _ e h => e ▸ h
  by_cases hz : r1.fk = 0
  · have hfi := hfin hz
    have hdz : decide (r1.fk ≠ 0) = false := by simp [hz]
    rw [hdz] at qb
    rw [if_neg (fun e => e hz)] at hL
    rcases fine_kw hfi.1 with rfl | rfl | rfl | rfl
    · rw [goR_config] at hL
      have pw : M89.pre [.optr 0 0 0 0] (rO r1) := ⟨r1, rfl, rfl, hko⟩
      have qw := word_res r1
      have hz1 := Nat.le_trans (word_size r1) hko.2.2
      unfold nameR at hL
      generalize wordR r1 = t at qw hL hz1
      obtain ⟨g, a, r2⟩ := t
      dsimp only at qw hL hz1
      have pn : F71.pre [.v (.string g)] := ⟨g, rfl, hz1⟩
      have qn : F71.res [.v (.string g)] = (B (nmOk g), []) := rfl
      have hnc : IntKind.i64.wrap ((st.nc : Int) + 1) = (st.nc : Int) + 1 := w64 (by omega) (by omega)
      cases hn : nmOk g with
      | true =>
        rw [if_neg (by simp [hn])] at hL
        rw [hn] at qn
        have pf : M90.pre [.optr 0 0 0 0] (rO r2) := ⟨r2, rfl, rfl⟩
        have qf := finish_res r2
        generalize finR r2 = r3 at qf hL
        rw [hL]
        unfold rO at pw qw pf qf
        simp -implicitDefEqProofs [Tryz.f61, List.lookup_cons, eS, rbR_iR, rbR_nil, rbOb_mk, iR_mf, pickOk, -List.all_eq_true, iR_ok, ok0, iR_eq_nil, deIs_nil, lnA, lnO]
        refine drawP_x _ [(0, 0), (1, 0), (2, 0), (3, 0), (4, 0), (5, 0), (6, 0), (7, 0), (8, 1)] [7] (by decide) ?_
        simp -implicitDefEqProofs [List.lookup_cons, eS, rbR_iR, rbR_nil, rbOb_mk, iR_mf, pickOk, -List.all_eq_true, iR_ok, ok0, iR_eq_nil, deIs_nil, pc, qc, imc, pb, qb, imb, rbR_rd, rn2_T2, rn2_B, rn2_N, tR_rb, tR_rw, tR_rv, pickOkN, Sx, OpOk, kwConfig, pw, qw, imw, pn, qn, pf, qf, imf, hnc]
        refine finN [0, 1, 2, 3, 4] [0, 0, 1, 1, 0] (by simp [pickOkN]) (by simp [upd, tl_cons]) ?_
        simp [lnO, one]
      | false =>
        rw [if_pos hn] at hL
        rw [hn] at qn
        have ps : M59.pre [.optr 0 0 0 0, I 7, I a] (rO r2) := ⟨7, a, r2, rfl, rfl⟩
        have qs := stop_res 7 a r2
        generalize stopR 7 a r2 = r4 at qs hL
        have pf : M90.pre [.optr 0 0 0 0] (rO r4) := ⟨r4, rfl, rfl⟩
        have qf := finish_res r4
        generalize finR r4 = r3 at qf hL
        rw [hL]
        unfold rO at pw qw pf qf ps qs
        simp -implicitDefEqProofs [Tryz.f61, List.lookup_cons, eS, rbR_iR, rbR_nil, rbOb_mk, iR_mf, pickOk, -List.all_eq_true, iR_ok, ok0, iR_eq_nil, deIs_nil, lnA, lnO]
        refine drawP_x _ [(0, 0), (1, 0), (2, 0), (3, 0), (4, 0), (5, 0), (6, 0), (7, 0), (8, 1)] [7] (by decide) ?_
        simp -implicitDefEqProofs [List.lookup_cons, eS, rbR_iR, rbR_nil, rbOb_mk, iR_mf, pickOk, -List.all_eq_true, iR_ok, ok0, iR_eq_nil, deIs_nil, pc, qc, imc, pb, qb, imb, rbR_rd, rn2_T2, rn2_B, rn2_N, tR_rb, tR_rw, tR_rv, pickOkN, Sx, OpOk, kwConfig, pw, qw, imw, pn, qn, ps, qs, ims, pf, qf, imf, hnc]
        refine finN [0, 1, 2, 3, 4] [0, 0, 1, 1, 0] (by simp [pickOkN]) (by simp [upd, tl_cons]) ?_
        simp [lnO, one]
    · rw [goR_default] at hL
      have pn : M91.pre [.optr 0 0 0 0, .osl 1 0] (rO r1 ++ [spOb [noW]]) := nums_mk2 hko ⟨by decide, by decide, by decide⟩
      have qn := nums_res2 [noW] r1
      have hlen := nuR_len [noW] r1
      generalize numbersR [noW] r1 = t at qn hL hlen
      obtain ⟨l, r2⟩ := t
      dsimp only at qn hL hlen
      obtain ⟨x, rfl⟩ : ∃ x, l = [x] := by
        match l, hlen with
        | [x], _ => exact ⟨x, rfl⟩
      have hnd : IntKind.i64.wrap ((st.nd : Int) + 1) = (st.nd : Int) + 1 := w64 (by omega) (by omega)
      rw [hL]
      simp only [spOb, nuOb, rO, List.cons_append, List.nil_append, show sR [noW] = [[X.v (.string ⟨#[]⟩)]] from rfl] at pn qn
      simp -implicitDefEqProofs [Tryz.f61, List.lookup_cons, eS, rbR_iR, rbR_nil, rbOb_mk, iR_mf, pickOk, -List.all_eq_true, iR_ok, ok0, iR_eq_nil, deIs_nil, lnA, lnO]
      refine drawP_x _ [(0, 0), (1, 0), (2, 0), (3, 0), (4, 0), (5, 0), (6, 0), (7, 0), (8, 1)] [7] (by decide) ?_
      simp -implicitDefEqProofs [List.lookup_cons, eS, rbR_iR, rbR_nil, rbOb_mk, iR_mf, pickOk, -List.all_eq_true, iR_ok, ok0, iR_eq_nil, deIs_nil, pc, qc, imc, pb, qb, imb, rbR_rd, rn2_T2, rn2_B, rn2_N, tR_rb, tR_rw, tR_rv, pickOkN, Sx, OpOk, kwDefault, pn, qn, imn, hnd, eBuildSlice, fillX, chunk, plain, cellsX, splice, iR, cD]
      refine finN [0, 1, 2, 3, 4] [0, 0, 1, 1, 0] (by simp [pickOkN]) (by simp [upd, tl_cons]) ?_
      simp [lnO, one]
    · rw [goR_class] at hL
      have hfull := full_class hfi.2
      have pn : M91.pre [.optr 0 0 0 0, .sl (sR cwL)] (rO r1) := nums_mk hko ⟨by decide, by decide, by decide⟩
      have qn := nums_res cwL r1
      have hlen := nuR_len cwL r1
      generalize numbersR cwL r1 = t at qn hL hlen
      obtain ⟨l, r2⟩ := t
      dsimp only at qn hL hlen
      obtain ⟨a0, a1, a2, a3, a4, a5, a6, a7, rfl⟩ : ∃ a0 a1 a2 a3 a4 a5 a6 a7, l = [a0, a1, a2, a3, a4, a5, a6, a7] := by
        match l, hlen with
        | [a0, a1, a2, a3, a4, a5, a6, a7], _ => exact ⟨a0, a1, a2, a3, a4, a5, a6, a7, rfl⟩
      have pv : Fr78.pre [] := rfl
      have qv : Fr78.res [] = (.sl (sR cwL), []) := rfl
      have pz : F92.pre [.sl (iR [a0, a1, a2, a3, a4, a5, a6, a7])] := ⟨a0, a1, a2, a3, a4, a5, a6, a7, rfl⟩
      have qz := wi_8 a0 a1 a2 a3 a4 a5 a6 a7
      have hap : tR st.c.cls ++ [[I a0, I a1, I a2, I a3, I a4, I a5, I a6, I a7]] = tR (st.c.cls ++ [(⟨a0, a1, a2, a3, a4, a5, a6, a7⟩ : Cls)]) := tR_append st.c.cls [(⟨a0, a1, a2, a3, a4, a5, a6, a7⟩ : Cls)]
      rw [show toC [a0, a1, a2, a3, a4, a5, a6, a7] = ⟨a0, a1, a2, a3, a4, a5, a6, a7⟩ from rfl] at hL
      rw [hL]
      unfold rO at pn qn
      unfold nuOb at qn
      generalize hR : iR [a0, a1, a2, a3, a4, a5, a6, a7] = R at qn pz qz
      have hRp : ∀ (h : List Ob) (n : Nat), R.map (fun r => r.map (purN h n)) = R := fun h n => by rw [← hR]; exact iR_pur h n _
      have hRb : ∀ (h : List Ob) (ks : List Nat), rbR h ks R = R := fun h ks => by rw [← hR]; exact rbR_iR h ks _
      have hRw : ∀ (h obs : List Ob) (ks : List Nat), rwR h obs ks R = R := fun h obs ks => by rw [← hR]; exact iR_rw h obs ks _
      simp -implicitDefEqProofs [Tryz.f61, List.lookup_cons, eS, rbR_iR, rbR_nil, rbOb_mk, iR_mf, pickOk, -List.all_eq_true, iR_ok, ok0, iR_eq_nil, deIs_nil, lnA, lnO]
      refine drawP_x _ [(0, 0), (1, 0), (2, 0), (3, 0), (4, 0), (5, 0), (6, 0), (7, 0), (8, 1)] [7] (by decide) ?_
      simp -implicitDefEqProofs [List.lookup_cons, eS, rbR_iR, rbR_nil, rbOb_mk, iR_mf, pickOk, -List.all_eq_true, iR_ok, ok0, iR_eq_nil, deIs_nil, pc, qc, imc, pb, qb, imb, rbR_rd, rn2_T2, rn2_B, rn2_N, tR_rb, tR_rw, tR_rv, pickOkN, Sx, OpOk, kwClass, pv, qv]
      refine drawP_x _ [(5, 0), (6, 0), (7, 0), (8, 1), (9, 1), (1, 0), (2, 0), (3, 0), (4, 0), (10, 2), (0, 0), (11, 3), (12, 3), (13, 3)] [7, 9, 10, 13] (by decide) ?_
      simp -implicitDefEqProofs [List.lookup_cons, eS, rbR_iR, rbR_nil, rbOb_mk, iR_mf, pickOk, -List.all_eq_true, iR_ok, ok0, iR_eq_nil, deIs_nil, pc, qc, imc, pb, qb, imb, rbR_rd, rn2_T2, rn2_B, rn2_N, tR_rb, tR_rw, tR_rv, pickOkN, Sx, OpOk, kwClass, pn, qn, imn, pv, qv, pz, qz, hRp, hRb, hRw, eBuildSlice, eAppend, srcRows, srcOk, chunk, fillX, plain, cellsX, splice, hap]
      refine ⟨by omega, by omega, ?_⟩
      refine finN [0, 1, 2, 3, 4] [0, 0, 1, 1, 0] (by simp [pickOkN]) (by simp [upd, tl_cons]) ?_
      simp [lnO, one]
    · rw [goR_filter] at hL
      have hfull := full_filter hfi.2
      have pn : M91.pre [.optr 0 0 0 0, .sl (sR fwL)] (rO r1) := nums_mk hko ⟨by decide, by decide, by decide⟩
      have qn := nums_res fwL r1
      have hlen := nuR_len fwL r1
      generalize numbersR fwL r1 = t at qn hL hlen
      obtain ⟨l, r2⟩ := t
      dsimp only at qn hL hlen
      obtain ⟨a0, a1, a2, a3, a4, rfl⟩ : ∃ a0 a1 a2 a3 a4, l = [a0, a1, a2, a3, a4] := by
        match l, hlen with
        | [a0, a1, a2, a3, a4], _ => exact ⟨a0, a1, a2, a3, a4, rfl⟩
      have pv : Fr81.pre [] := rfl
      have qv : Fr81.res [] = (.sl (sR fwL), []) := rfl
      have pz : F93.pre [.sl (iR [a0, a1, a2, a3, a4])] := ⟨a0, a1, a2, a3, a4, rfl⟩
      have qz := wi_5 a0 a1 a2 a3 a4
      have hap : tR st.c.fil ++ [[I a0, I a1, I a2, I a3, I a4]] = tR (st.c.fil ++ [(⟨a0, a1, a2, a3, a4⟩ : Fil)]) := tR_append st.c.fil [(⟨a0, a1, a2, a3, a4⟩ : Fil)]
      rw [show toF [a0, a1, a2, a3, a4] = ⟨a0, a1, a2, a3, a4⟩ from rfl] at hL
      rw [hL]
      unfold rO at pn qn
      unfold nuOb at qn
      generalize hR : iR [a0, a1, a2, a3, a4] = R at qn pz qz
      have hRp : ∀ (h : List Ob) (n : Nat), R.map (fun r => r.map (purN h n)) = R := fun h n => by rw [← hR]; exact iR_pur h n _
      have hRb : ∀ (h : List Ob) (ks : List Nat), rbR h ks R = R := fun h ks => by rw [← hR]; exact rbR_iR h ks _
      have hRw : ∀ (h obs : List Ob) (ks : List Nat), rwR h obs ks R = R := fun h obs ks => by rw [← hR]; exact iR_rw h obs ks _
      simp -implicitDefEqProofs [Tryz.f61, List.lookup_cons, eS, rbR_iR, rbR_nil, rbOb_mk, iR_mf, pickOk, -List.all_eq_true, iR_ok, ok0, iR_eq_nil, deIs_nil, lnA, lnO]
      refine drawP_x _ [(0, 0), (1, 0), (2, 0), (3, 0), (4, 0), (5, 0), (6, 0), (7, 0), (8, 1)] [7] (by decide) ?_
      simp -implicitDefEqProofs [List.lookup_cons, eS, rbR_iR, rbR_nil, rbOb_mk, iR_mf, pickOk, -List.all_eq_true, iR_ok, ok0, iR_eq_nil, deIs_nil, pc, qc, imc, pb, qb, imb, rbR_rd, rn2_T2, rn2_B, rn2_N, tR_rb, tR_rw, tR_rv, pickOkN, Sx, OpOk, kwFilter, pv, qv]
      refine drawP_x _ [(5, 0), (6, 0), (7, 0), (8, 1), (9, 1), (1, 0), (2, 0), (3, 0), (4, 0), (10, 2), (0, 0), (11, 3), (12, 3), (13, 3)] [7, 9, 10, 13] (by decide) ?_
      simp -implicitDefEqProofs [List.lookup_cons, eS, rbR_iR, rbR_nil, rbOb_mk, iR_mf, pickOk, -List.all_eq_true, iR_ok, ok0, iR_eq_nil, deIs_nil, pc, qc, imc, pb, qb, imb, rbR_rd, rn2_T2, rn2_B, rn2_N, tR_rb, tR_rw, tR_rv, pickOkN, Sx, OpOk, kwFilter, pn, qn, imn, pv, qv, pz, qz, hRp, hRb, hRw, eBuildSlice, eAppend, srcRows, srcOk, chunk, fillX, plain, cellsX, splice, hap]
      refine ⟨by omega, by omega, ?_⟩
      refine finN [0, 1, 2, 3, 4] [0, 0, 1, 1, 0] (by simp [pickOkN]) (by simp [upd, tl_cons]) ?_
      simp [lnO, one]
  · have hdz : decide (r1.fk ≠ 0) = true := by simp [hz]
    rw [hdz] at qb
    rw [if_pos hz] at hL
    rw [hL]
    simp -implicitDefEqProofs [Tryz.f61, List.lookup_cons, eS, rbR_iR, rbR_nil, rbOb_mk, iR_mf, pickOk, -List.all_eq_true, iR_ok, ok0, iR_eq_nil, deIs_nil, lnA, lnO]
    refine drawP_x _ [(0, 0), (1, 0), (2, 0), (3, 0), (4, 0), (5, 0), (6, 0), (7, 0), (8, 1)] [7] (by decide) ?_
    simp -implicitDefEqProofs [List.lookup_cons, eS, rbR_iR, rbR_nil, rbOb_mk, iR_mf, pickOk, -List.all_eq_true, iR_ok, ok0, iR_eq_nil, deIs_nil, pc, qc, imc, pb, qb, imb, rbR_rd, rn2_T2, rn2_B, rn2_N, tR_rb, tR_rw, tR_rv, pickOkN, Sx, OpOk]
    refine finN [0, 1, 2, 3, 4] [0, 0, 1, 1, 0] (by simp [pickOkN]) (by simp [upd, tl_cons]) ?_
    simp [lnO, one]
end Go.Proofs
