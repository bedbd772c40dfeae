/-
  What is proved here: contracts of the two QuantileOf, and of their law. Condition: none.
-/
import Derived.Test.YtlbeedbkafjfcaaSA9
namespace Go.Proofs
open Go.Abs
set_option linter.unusedSimpArgs false
set_option maxHeartbeats 4000000

/-! ### insertion gives what the library's sort gives -/
theorem posI_ge (s : List Int) (n : Int) : ∀ k i, posI s n k ≤ i → i < k → n < s.getD i 0
  | 0, i, _, h => by omega
  | k + 1, i, h1, h2 => by
    unfold posI at h1
    split at h1
    · rename_i h3
      rcases Nat.lt_succ_iff_lt_or_eq.1 h2 with h4 | rfl
      · exact posI_ge s n k i h1 h4
      · exact h3
    · omega
theorem insI_perm (s : List Int) (n : Int) : (insI s n).Perm (n :: s) := by
  unfold insI
  have h1 : (s.take (posI s n s.length) ++ [n] ++ s.drop (posI s n s.length)).Perm ([n] ++ s.take (posI s n s.length) ++ s.drop (posI s n s.length)) := List.Perm.append_right _ List.perm_append_comm
  refine h1.trans ?_
  rw [List.append_assoc, List.take_append_drop]
  exact List.Perm.refl _
theorem insI_pw (s : List Int) (n : Int) (h : s.Pairwise (· ≤ ·)) : (insI s n).Pairwise (· ≤ ·) := by
  have hle := posI_le s n s.length
  have hget : ∀ (i j : Nat) (hi : i < s.length) (hj : j < s.length), i ≤ j → s[i] ≤ s[j] := by
    intro i j hi hj hij
    rcases Nat.eq_or_lt_of_le hij with rfl | hlt
    · exact Int.le_refl _
    · exact List.pairwise_iff_getElem.1 h i j hi hj hlt
  unfold insI
  rw [List.append_assoc, List.pairwise_append]
  refine ⟨h.sublist (List.take_sublist _ _), ?_, fun a ha b hb => ?_⟩
  · rw [List.singleton_append, List.pairwise_cons]
    refine ⟨fun b hb => ?_, h.sublist (List.drop_sublist _ _)⟩
    obtain ⟨j, hj, rfl⟩ := List.mem_iff_getElem.1 hb
    rw [List.getElem_drop]
    simp only [List.length_drop] at hj
    have := posI_ge s n s.length (posI s n s.length + j) (by omega) (by omega)
    have e : s.getD (posI s n s.length + j) 0 = s[posI s n s.length + j]'(by omega) := by simp [List.getD, show posI s n s.length + j < s.length by omega]
    rw [e] at this
    omega
  · obtain ⟨i, hi, rfl⟩ := List.mem_iff_getElem.1 ha
    rw [List.getElem_take]
    simp only [List.length_take] at hi
    have hp : 0 < posI s n s.length := by omega
    have h1 := posI_at s n s.length hp
    have e : s.getD (posI s n s.length - 1) 0 = s[posI s n s.length - 1]'(by omega) := by simp [List.getD, show posI s n s.length - 1 < s.length by omega]
    rw [e] at h1
    have h2 := hget i (posI s n s.length - 1) (by omega) (by omega) (by omega)
    rw [List.singleton_append, List.mem_cons] at hb
    rcases hb with rfl | hb
    · omega
    · obtain ⟨j, hj, rfl⟩ := List.mem_iff_getElem.1 hb
      rw [List.getElem_drop]
      simp only [List.length_drop] at hj
      exact hget _ _ _ _ (by omega)
theorem srt_ok (l : List Int) : ∀ k, k ≤ l.length → (srt (l.take k)).Perm (l.take k) ∧ (srt (l.take k)).Pairwise (· ≤ ·)
  | 0, _ => by simp [srt]
  | k + 1, h => by
    obtain ⟨h1, h2⟩ := srt_ok l k (by omega)
    rw [srt_take l k (by omega)]
    refine ⟨?_, insI_pw _ _ h2⟩
    rw [take_succ' l k (by omega)]
    refine (insI_perm _ _).trans ?_
    refine (List.Perm.cons _ h1).trans ?_
    exact (List.perm_append_comm (l₁ := [l[k]]) (l₂ := l.take k))
theorem srt_msr (l : List Int) : srt l = msr l := by
  obtain ⟨h1, h2⟩ := srt_ok l l.length (Nat.le_refl _)
  rw [List.take_length] at h1 h2
  have h3 : (msr l).Pairwise (· ≤ ·) := by
    have := List.pairwise_mergeSort (le := fun x y : Int => decide (x ≤ y)) (fun a b c h1 h2 => by simp at *; omega) (fun a b => by simp; omega) l
    exact this.imp fun h => by simpa using h
  exact List.Perm.eq_of_pairwise (le := (· ≤ ·)) (fun a b _ _ h1 h2 => by omega) h2 h3 (h1.trans (List.mergeSort_perm l _).symm)

/-! ### the walks -/
def F42p : Fun := ⟨F42.pre, fun xs => (.sl (iR (srt (deIs (xs.getD 0 .top)))), [])⟩
theorem F42_pu : F42.pu = F42p := by simp [Fun.pu, F42p, F42, pur2, pur_oslE, iOb, iR_pur]
theorem c42p : GenC Try.prog 42 F42p := F42_pu ▸ c42.pu
def qok (l : List Int) (a b : Int) : Bool := good l && rng 1 1000 b && rng 1 b a
def qix (l : List Int) (a b : Int) : Nat := (l.length * a.toNat + b.toNat - 1) / b.toNat - 1
def F35 : Fun := ⟨fun xs => ∃ l a b, xs = [ints l, I a, I b] ∧ l.length ≤ 1048576, fun xs =>
  (.tup [I (if qok (deIs (xs.getD 0 .top)) (deI (xs.getD 1 .top)) (deI (xs.getD 2 .top)) = true then (srt (deIs (xs.getD 0 .top))).getD (qix (deIs (xs.getD 0 .top)) (deI (xs.getD 1 .top)) (deI (xs.getD 2 .top))) 0 else 0),
    B (qok (deIs (xs.getD 0 .top)) (deI (xs.getD 1 .top)) (deI (xs.getD 2 .top)))], [])⟩
structure QN (l : List Int) (a b : Nat) (n1 n2 n3 n4 q : Nat) : Prop where
  h1 : IntKind.i64.wrap ((l.length : Int) * a) = n1
  h1' : IntKind.i64.wrap ((a : Int) * l.length) = n1
  h2 : IntKind.i64.wrap ((n1 : Int) + b) = n2
  h3 : IntKind.i64.wrap ((n2 : Int) - 1) = n3
  h4 : IntKind.i64.wrap ((n3 : Int).tdiv b) = n4
  h4' : IntKind.i64.wrap ((n3 : Int) / b) = n4
  h5 : IntKind.i64.wrap ((n4 : Int) - 1) = q
  lt : q < l.length
  eq : qix l a b = q
  b0 : ¬ b = 0
theorem qn {l : List Int} (hg : good l = true) {a b : Nat} (ha : 1 ≤ a) (hab : a ≤ b) (hb : b ≤ 1000) : ∃ n1 n2 n3 n4 q, QN l a b n1 n2 n3 n4 q := by
  have hl := good_len hg
  have m1 : l.length * a ≤ 40 * 1000 := Nat.mul_le_mul hl.2 (by omega)
  have m2 : l.length * a ≤ l.length * b := Nat.mul_le_mul_left _ hab
  have m3 : 1 * 1 ≤ l.length * a := Nat.mul_le_mul hl.1 ha
  have d1 : (l.length * a + b - 1) / b ≤ l.length := by
    have e : b * l.length = l.length * b := Nat.mul_comm _ _
    rw [Nat.div_le_iff_le_mul_add_pred (by omega)]; omega
  have d2 : 1 ≤ (l.length * a + b - 1) / b := by
    rw [Nat.le_div_iff_mul_le (by omega)]; omega
  refine ⟨l.length * a, l.length * a + b, l.length * a + b - 1, (l.length * a + b - 1) / b, (l.length * a + b - 1) / b - 1, ?_, ?_, ?_, ?_, ?_, ?_, ?_, by omega, by simp [qix], by omega⟩
  · rw [← Int.natCast_mul, w64 (by omega) (by omega)]
  · rw [Int.mul_comm, ← Int.natCast_mul, w64 (by omega) (by omega)]
  · rw [w64 (by omega) (by omega)]; omega
  · rw [w64 (by omega) (by omega)]; omega
  · rw [← Int.ofNat_tdiv, w64 (by omega) (by omega)]
  · rw [← Int.natCast_ediv, w64 (by omega) (by omega)]
  · rw [w64 (by omega) (by omega)]; omega
theorem c35 : GenC Try.prog 35 F35 := by
  refine contract Try.mix [(37, F37), (47, F47), (42, F42p)] (by simp [c37, c47, c42p]) Try.func35 rfl (by decide) ?_
  rintro xs ⟨l, a, b, rfl, hl⟩
  refine ⟨by rw [Try.ntmps35]; simp, ?_⟩
  cases g1 : good l with
  | false =>
    simp -implicitDefEqProofs [bodyOf, Try.f35, ↓awp_skip, ↓awp_seq, ↓awp_region, ↓awp_draw, ↓awp_cond, ↓awp_block, ↓awp_loop, ↓awp_exit, ↓awp_ret, ↓thenP_normal, ↓thenP_exit, ↓thenP_ret, ↓blockP_normal, ↓blockP_exit, ↓blockP_ret, ↓rgW_nil, ↓rgW_cons, ↓rgW_guard, brP_true, brP_false, brP_bool, guardP_bool, guardP_gd, gval, Eff.use_mk, Eff.useG_mk, useG_ft, useG_tf, put_some, put_none, dok_some, dok_none, upd_app, ev_tmp, ev_const, ev_func, cst_int, cst_bool, cst_string, cst_nil, tl_cons, tl_nil, args, aop_move, aop_assign, aop_pick, aop_alloc, aop_box, aop_build, aop_buildSlice, aop_load, aop_store, aop_nilCheck, aop_binOp, aop_unOp, aop_convert, aop_makeFunc, aop_makeSlice, aop_slice, aop_fieldAddr, aop_field, aop_indexAddr, aop_index, aop_extract, aop_builtin, aop_call, eBuiltin_len, eBuiltin_append, eBuiltin_min, eBuiltin_max, eMin_int, eMax_int, ePick_bool, eNil_pt, eNil_optr, eNil_fn, eUn_not, eUn_neg, bin_add, bin_sub, bin_mul, bin_quo, bin_rem, bin_eql, bin_neq, bin_lss, bin_leq, bin_gtr, bin_geq, bin_shl, bin_shr, bin_cat, bin_seq, bin_sne, eLen_sl, eLen_str, eLen_nil, eLen_osl, eLen_osub, fa_pt, ldX_false, ldX_true, ext_tup, box_agg, box_v, box_sl, box_osl, st_v, st_sl, st_osl, st_agg, pick_and, pick_or, if_and, if_or, pX_t, pX_f, un_mk, unT_app, unL_nil, unL_cons, gdL_nil, gdL_cons, allT_nil, allT_cons, un_gd, un_v, un_sl, un_pt, un_agg, un_tup, un_fn, un_osl, un_osub, un_optr, un_top, verOk_mk, liveOk_mk, iR_length, iR_get, iR_getE, retP_ret, retP_normal, retM_ret, retM_normal, pinl_nil, pinl_cons, envM, eCallM, pickK, mArgs, mPure, setObs, rb2, rb1, rb0, verOf, rn0, pickObs, resL_nil, resL_tmp, resL_cell, one_one, one_two, envOf, List.lookup_cons, eFn, eCall, pur_v, pur_b, pur_s, pur_nil, pur_sl, pur_oslE, pur_osubE, pur_optrE, pur_aggE, pur_fnE, shOb_mk, iR_sh, rowOf, putCells, splice, iR_set, iR_append, iR_inj, iR_pur, deIs_sl, deI_I, sh2, sh1, sh0, isPure, isP0, mf2, mf1, mf0, mfObs, and_assoc, Try.el22, Try.ok3, Try.sz3, Try.ag3, Try.by3, Try.hz3, Try.zc3, ix_sl _ _ _ _ _ _ Try.el22, ix_osl _ _ _ _ _ _ _ Try.el22, ld_pt1 _ _ _ Try.ag3, ld_op1 _ _ _ _ _ _ Try.ag3, bin_beq _ _ _ _ Try.un4, bin_bne _ _ _ _ Try.un4, ints, F37, F47, hl, g1]
    refine fin_pure (by simp) ?_
    simp [pur2_i, pur2_b, pur2_s, pur2_nil, pur2_sl, pur2_tup, rn2_tup, rn2_agg, rn2_osl, rn1_v, rn1_osl, rn1_agg, rn0_v, rn0_sl, rn0, pickObs, pur_v, pur_b, pur_s, pur_nil, pur_sl, deI, deIs_sl, F35, qok, g1]
  | true =>
  cases g2 : rng 1 1000 b with
  | false =>
    simp -implicitDefEqProofs [bodyOf, Try.f35, ↓awp_skip, ↓awp_seq, ↓awp_region, ↓awp_draw, ↓awp_cond, ↓awp_block, ↓awp_loop, ↓awp_exit, ↓awp_ret, ↓thenP_normal, ↓thenP_exit, ↓thenP_ret, ↓blockP_normal, ↓blockP_exit, ↓blockP_ret, ↓rgW_nil, ↓rgW_cons, ↓rgW_guard, brP_true, brP_false, brP_bool, guardP_bool, guardP_gd, gval, Eff.use_mk, Eff.useG_mk, useG_ft, useG_tf, put_some, put_none, dok_some, dok_none, upd_app, ev_tmp, ev_const, ev_func, cst_int, cst_bool, cst_string, cst_nil, tl_cons, tl_nil, args, aop_move, aop_assign, aop_pick, aop_alloc, aop_box, aop_build, aop_buildSlice, aop_load, aop_store, aop_nilCheck, aop_binOp, aop_unOp, aop_convert, aop_makeFunc, aop_makeSlice, aop_slice, aop_fieldAddr, aop_field, aop_indexAddr, aop_index, aop_extract, aop_builtin, aop_call, eBuiltin_len, eBuiltin_append, eBuiltin_min, eBuiltin_max, eMin_int, eMax_int, ePick_bool, eNil_pt, eNil_optr, eNil_fn, eUn_not, eUn_neg, bin_add, bin_sub, bin_mul, bin_quo, bin_rem, bin_eql, bin_neq, bin_lss, bin_leq, bin_gtr, bin_geq, bin_shl, bin_shr, bin_cat, bin_seq, bin_sne, eLen_sl, eLen_str, eLen_nil, eLen_osl, eLen_osub, fa_pt, ldX_false, ldX_true, ext_tup, box_agg, box_v, box_sl, box_osl, st_v, st_sl, st_osl, st_agg, pick_and, pick_or, if_and, if_or, pX_t, pX_f, un_mk, unT_app, unL_nil, unL_cons, gdL_nil, gdL_cons, allT_nil, allT_cons, un_gd, un_v, un_sl, un_pt, un_agg, un_tup, un_fn, un_osl, un_osub, un_optr, un_top, verOk_mk, liveOk_mk, iR_length, iR_get, iR_getE, retP_ret, retP_normal, retM_ret, retM_normal, pinl_nil, pinl_cons, envM, eCallM, pickK, mArgs, mPure, setObs, rb2, rb1, rb0, verOf, rn0, pickObs, resL_nil, resL_tmp, resL_cell, one_one, one_two, envOf, List.lookup_cons, eFn, eCall, pur_v, pur_b, pur_s, pur_nil, pur_sl, pur_oslE, pur_osubE, pur_optrE, pur_aggE, pur_fnE, shOb_mk, iR_sh, rowOf, putCells, splice, iR_set, iR_append, iR_inj, iR_pur, deIs_sl, deI_I, sh2, sh1, sh0, isPure, isP0, mf2, mf1, mf0, mfObs, and_assoc, Try.el22, Try.ok3, Try.sz3, Try.ag3, Try.by3, Try.hz3, Try.zc3, ix_sl _ _ _ _ _ _ Try.el22, ix_osl _ _ _ _ _ _ _ Try.el22, ld_pt1 _ _ _ Try.ag3, ld_op1 _ _ _ _ _ _ Try.ag3, bin_beq _ _ _ _ Try.un4, bin_bne _ _ _ _ Try.un4, ints, F37, F47, hl, g1, g2]
    refine fin_pure (by simp) ?_
    simp [pur2_i, pur2_b, pur2_s, pur2_nil, pur2_sl, pur2_tup, rn2_tup, rn2_agg, rn2_osl, rn1_v, rn1_osl, rn1_agg, rn0_v, rn0_sl, rn0, pickObs, pur_v, pur_b, pur_s, pur_nil, pur_sl, deI, deIs_sl, F35, qok, g1, g2]
  | true =>
  cases g3 : rng 1 b a with
  | false =>
    simp -implicitDefEqProofs [bodyOf, Try.f35, ↓awp_skip, ↓awp_seq, ↓awp_region, ↓awp_draw, ↓awp_cond, ↓awp_block, ↓awp_loop, ↓awp_exit, ↓awp_ret, ↓thenP_normal, ↓thenP_exit, ↓thenP_ret, ↓blockP_normal, ↓blockP_exit, ↓blockP_ret, ↓rgW_nil, ↓rgW_cons, ↓rgW_guard, brP_true, brP_false, brP_bool, guardP_bool, guardP_gd, gval, Eff.use_mk, Eff.useG_mk, useG_ft, useG_tf, put_some, put_none, dok_some, dok_none, upd_app, ev_tmp, ev_const, ev_func, cst_int, cst_bool, cst_string, cst_nil, tl_cons, tl_nil, args, aop_move, aop_assign, aop_pick, aop_alloc, aop_box, aop_build, aop_buildSlice, aop_load, aop_store, aop_nilCheck, aop_binOp, aop_unOp, aop_convert, aop_makeFunc, aop_makeSlice, aop_slice, aop_fieldAddr, aop_field, aop_indexAddr, aop_index, aop_extract, aop_builtin, aop_call, eBuiltin_len, eBuiltin_append, eBuiltin_min, eBuiltin_max, eMin_int, eMax_int, ePick_bool, eNil_pt, eNil_optr, eNil_fn, eUn_not, eUn_neg, bin_add, bin_sub, bin_mul, bin_quo, bin_rem, bin_eql, bin_neq, bin_lss, bin_leq, bin_gtr, bin_geq, bin_shl, bin_shr, bin_cat, bin_seq, bin_sne, eLen_sl, eLen_str, eLen_nil, eLen_osl, eLen_osub, fa_pt, ldX_false, ldX_true, ext_tup, box_agg, box_v, box_sl, box_osl, st_v, st_sl, st_osl, st_agg, pick_and, pick_or, if_and, if_or, pX_t, pX_f, un_mk, unT_app, unL_nil, unL_cons, gdL_nil, gdL_cons, allT_nil, allT_cons, un_gd, un_v, un_sl, un_pt, un_agg, un_tup, un_fn, un_osl, un_osub, un_optr, un_top, verOk_mk, liveOk_mk, iR_length, iR_get, iR_getE, retP_ret, retP_normal, retM_ret, retM_normal, pinl_nil, pinl_cons, envM, eCallM, pickK, mArgs, mPure, setObs, rb2, rb1, rb0, verOf, rn0, pickObs, resL_nil, resL_tmp, resL_cell, one_one, one_two, envOf, List.lookup_cons, eFn, eCall, pur_v, pur_b, pur_s, pur_nil, pur_sl, pur_oslE, pur_osubE, pur_optrE, pur_aggE, pur_fnE, shOb_mk, iR_sh, rowOf, putCells, splice, iR_set, iR_append, iR_inj, iR_pur, deIs_sl, deI_I, sh2, sh1, sh0, isPure, isP0, mf2, mf1, mf0, mfObs, and_assoc, Try.el22, Try.ok3, Try.sz3, Try.ag3, Try.by3, Try.hz3, Try.zc3, ix_sl _ _ _ _ _ _ Try.el22, ix_osl _ _ _ _ _ _ _ Try.el22, ld_pt1 _ _ _ Try.ag3, ld_op1 _ _ _ _ _ _ Try.ag3, bin_beq _ _ _ _ Try.un4, bin_bne _ _ _ _ Try.un4, ints, F37, F47, hl, g1, g2, g3]
    refine fin_pure (by simp) ?_
    simp [pur2_i, pur2_b, pur2_s, pur2_nil, pur2_sl, pur2_tup, rn2_tup, rn2_agg, rn2_osl, rn1_v, rn1_osl, rn1_agg, rn0_v, rn0_sl, rn0, pickObs, pur_v, pur_b, pur_s, pur_nil, pur_sl, deI, deIs_sl, F35, qok, g1, g2, g3]
  | true =>
  have g2' := g2
  have g3' := g3
  simp [rng] at g2' g3'
  obtain ⟨a, rfl⟩ := Int.eq_ofNat_of_zero_le (show 0 ≤ a by omega)
  obtain ⟨b, rfl⟩ := Int.eq_ofNat_of_zero_le (show 0 ≤ b by omega)
  obtain ⟨n1, n2, n3, n4, q, k1, k1', k2, k3, k4, k4', k5, klt, keq, kb⟩ := qn g1 (a := a) (b := b) (by omega) (by omega) (by omega)
  have hs := srt_len l l.length (Nat.le_refl _)
  rw [List.take_length] at hs
  have hq : q < (srt l).length := by omega
  simp -implicitDefEqProofs [bodyOf, Try.f35, ↓awp_skip, ↓awp_seq, ↓awp_region, ↓awp_draw, ↓awp_cond, ↓awp_block, ↓awp_loop, ↓awp_exit, ↓awp_ret, ↓thenP_normal, ↓thenP_exit, ↓thenP_ret, ↓blockP_normal, ↓blockP_exit, ↓blockP_ret, ↓rgW_nil, ↓rgW_cons, ↓rgW_guard, brP_true, brP_false, brP_bool, guardP_bool, guardP_gd, gval, Eff.use_mk, Eff.useG_mk, useG_ft, useG_tf, put_some, put_none, dok_some, dok_none, upd_app, ev_tmp, ev_const, ev_func, cst_int, cst_bool, cst_string, cst_nil, tl_cons, tl_nil, args, aop_move, aop_assign, aop_pick, aop_alloc, aop_box, aop_build, aop_buildSlice, aop_load, aop_store, aop_nilCheck, aop_binOp, aop_unOp, aop_convert, aop_makeFunc, aop_makeSlice, aop_slice, aop_fieldAddr, aop_field, aop_indexAddr, aop_index, aop_extract, aop_builtin, aop_call, eBuiltin_len, eBuiltin_append, eBuiltin_min, eBuiltin_max, eMin_int, eMax_int, ePick_bool, eNil_pt, eNil_optr, eNil_fn, eUn_not, eUn_neg, bin_add, bin_sub, bin_mul, bin_quo, bin_rem, bin_eql, bin_neq, bin_lss, bin_leq, bin_gtr, bin_geq, bin_shl, bin_shr, bin_cat, bin_seq, bin_sne, eLen_sl, eLen_str, eLen_nil, eLen_osl, eLen_osub, fa_pt, ldX_false, ldX_true, ext_tup, box_agg, box_v, box_sl, box_osl, st_v, st_sl, st_osl, st_agg, pick_and, pick_or, if_and, if_or, pX_t, pX_f, un_mk, unT_app, unL_nil, unL_cons, gdL_nil, gdL_cons, allT_nil, allT_cons, un_gd, un_v, un_sl, un_pt, un_agg, un_tup, un_fn, un_osl, un_osub, un_optr, un_top, verOk_mk, liveOk_mk, iR_length, iR_get, iR_getE, retP_ret, retP_normal, retM_ret, retM_normal, pinl_nil, pinl_cons, envM, eCallM, pickK, mArgs, mPure, setObs, rb2, rb1, rb0, verOf, rn0, pickObs, resL_nil, resL_tmp, resL_cell, one_one, one_two, envOf, List.lookup_cons, eFn, eCall, pur_v, pur_b, pur_s, pur_nil, pur_sl, pur_oslE, pur_osubE, pur_optrE, pur_aggE, pur_fnE, shOb_mk, iR_sh, rowOf, putCells, splice, iR_set, iR_append, iR_inj, iR_pur, deIs_sl, deI_I, sh2, sh1, sh0, isPure, isP0, mf2, mf1, mf0, mfObs, and_assoc, Try.el22, Try.ok3, Try.sz3, Try.ag3, Try.by3, Try.hz3, Try.zc3, ix_sl _ _ _ _ _ _ Try.el22, ix_osl _ _ _ _ _ _ _ Try.el22, ld_pt1 _ _ _ Try.ag3, ld_op1 _ _ _ _ _ _ Try.ag3, bin_beq _ _ _ _ Try.un4, bin_bne _ _ _ _ Try.un4, ints, F37, F47, hl, g1, g2, g3]
  refine drawP_all _ (by decide) ?_
  simp -implicitDefEqProofs [↓awp_skip, ↓awp_seq, ↓awp_region, ↓awp_draw, ↓awp_cond, ↓awp_block, ↓awp_loop, ↓awp_exit, ↓awp_ret, ↓thenP_normal, ↓thenP_exit, ↓thenP_ret, ↓blockP_normal, ↓blockP_exit, ↓blockP_ret, ↓rgW_nil, ↓rgW_cons, ↓rgW_guard, brP_true, brP_false, brP_bool, guardP_bool, guardP_gd, gval, Eff.use_mk, Eff.useG_mk, useG_ft, useG_tf, put_some, put_none, dok_some, dok_none, upd_app, ev_tmp, ev_const, ev_func, cst_int, cst_bool, cst_string, cst_nil, tl_cons, tl_nil, args, aop_move, aop_assign, aop_pick, aop_alloc, aop_box, aop_build, aop_buildSlice, aop_load, aop_store, aop_nilCheck, aop_binOp, aop_unOp, aop_convert, aop_makeFunc, aop_makeSlice, aop_slice, aop_fieldAddr, aop_field, aop_indexAddr, aop_index, aop_extract, aop_builtin, aop_call, eBuiltin_len, eBuiltin_append, eBuiltin_min, eBuiltin_max, eMin_int, eMax_int, ePick_bool, eNil_pt, eNil_optr, eNil_fn, eUn_not, eUn_neg, bin_add, bin_sub, bin_mul, bin_quo, bin_rem, bin_eql, bin_neq, bin_lss, bin_leq, bin_gtr, bin_geq, bin_shl, bin_shr, bin_cat, bin_seq, bin_sne, eLen_sl, eLen_str, eLen_nil, eLen_osl, eLen_osub, fa_pt, ldX_false, ldX_true, ext_tup, box_agg, box_v, box_sl, box_osl, st_v, st_sl, st_osl, st_agg, pick_and, pick_or, if_and, if_or, pX_t, pX_f, un_mk, unT_app, unL_nil, unL_cons, gdL_nil, gdL_cons, allT_nil, allT_cons, un_gd, un_v, un_sl, un_pt, un_agg, un_tup, un_fn, un_osl, un_osub, un_optr, un_top, verOk_mk, liveOk_mk, iR_length, iR_get, iR_getE, retP_ret, retP_normal, retM_ret, retM_normal, pinl_nil, pinl_cons, envM, eCallM, pickK, mArgs, mPure, setObs, rb2, rb1, rb0, verOf, rn0, pickObs, resL_nil, resL_tmp, resL_cell, one_one, one_two, envOf, List.lookup_cons, eFn, eCall, pur_v, pur_b, pur_s, pur_nil, pur_sl, pur_oslE, pur_osubE, pur_optrE, pur_aggE, pur_fnE, shOb_mk, iR_sh, rowOf, putCells, splice, iR_set, iR_append, iR_inj, iR_pur, deIs_sl, deI_I, sh2, sh1, sh0, isPure, isP0, mf2, mf1, mf0, mfObs, and_assoc, ↓rgD_nil, ↓rgD_cons, ↓rgD_guard, aopD_move, aopD_assign, aopD_pick, aopD_build, aopD_load, aopD_nilCheck, aopD_binOp, aopD_unOp, aopD_convert, aopD_makeFunc, aopD_slice, aopD_fieldAddr, aopD_field, aopD_indexAddr, aopD_index, aopD_extract, aopD_len, aopD_min, aopD_max, aopD_call, eFnD_call, ↓rgZ_nil, ↓rgZ_cons, ↓List.getElem?_cons_zero, ↓List.getElem?_cons_succ, rgO_ch, rgO_fl, rgO_flg, free, againL_nil, againL_cons, aopD_buildSlice, Try.el22, Try.ok3, Try.sz3, Try.ag3, Try.by3, Try.hz3, Try.zc3, ix_sl _ _ _ _ _ _ Try.el22, ix_osl _ _ _ _ _ _ _ Try.el22, ld_pt1 _ _ _ Try.ag3, ld_op1 _ _ _ _ _ _ Try.ag3, bin_beq _ _ _ _ Try.un4, bin_bne _ _ _ _ Try.un4, F42p, F42, hl, ints, k1, k1', k2, k3, k4, k4', k5, kb, hq, hs, klt]
  refine fin_pure (by simp) ?_
  simp [pur2_i, pur2_b, pur2_s, pur2_nil, pur2_sl, pur2_tup, rn2_tup, rn2_agg, rn2_osl, rn1_v, rn1_osl, rn1_agg, rn0_v, rn0_sl, rn0, pickObs, pur_v, pur_b, pur_s, pur_nil, pur_sl, deI, deIs_sl, F35, qok, g1, g2, g3, keq, hq]
theorem c36 : GenC Try.prog 36 F35 := by
  refine contract2 Try.mix [(39, F37), (56, F56)] [(57, M57)] (by simp [c39, c56]) (by simp [m57]) Try.func36 rfl (by decide) ?_
  rintro xs ⟨l, a, b, rfl, hl⟩
  refine ⟨by rw [Try.ntmps36]; simp, ?_⟩
  cases g1 : good l with
  | false =>
    simp -implicitDefEqProofs [bodyOf, Try.f36, ↓awp_skip, ↓awp_seq, ↓awp_region, ↓awp_draw, ↓awp_cond, ↓awp_block, ↓awp_loop, ↓awp_exit, ↓awp_ret, ↓thenP_normal, ↓thenP_exit, ↓thenP_ret, ↓blockP_normal, ↓blockP_exit, ↓blockP_ret, ↓rgW_nil, ↓rgW_cons, ↓rgW_guard, brP_true, brP_false, brP_bool, guardP_bool, guardP_gd, gval, Eff.use_mk, Eff.useG_mk, useG_ft, useG_tf, put_some, put_none, dok_some, dok_none, upd_app, ev_tmp, ev_const, ev_func, cst_int, cst_bool, cst_string, cst_nil, tl_cons, tl_nil, args, aop_move, aop_assign, aop_pick, aop_alloc, aop_box, aop_build, aop_buildSlice, aop_load, aop_store, aop_nilCheck, aop_binOp, aop_unOp, aop_convert, aop_makeFunc, aop_makeSlice, aop_slice, aop_fieldAddr, aop_field, aop_indexAddr, aop_index, aop_extract, aop_builtin, aop_call, eBuiltin_len, eBuiltin_append, eBuiltin_min, eBuiltin_max, eMin_int, eMax_int, ePick_bool, eNil_pt, eNil_optr, eNil_fn, eUn_not, eUn_neg, bin_add, bin_sub, bin_mul, bin_quo, bin_rem, bin_eql, bin_neq, bin_lss, bin_leq, bin_gtr, bin_geq, bin_shl, bin_shr, bin_cat, bin_seq, bin_sne, eLen_sl, eLen_str, eLen_nil, eLen_osl, eLen_osub, fa_pt, ldX_false, ldX_true, ext_tup, box_agg, box_v, box_sl, box_osl, st_v, st_sl, st_osl, st_agg, pick_and, pick_or, if_and, if_or, pX_t, pX_f, un_mk, unT_app, unL_nil, unL_cons, gdL_nil, gdL_cons, allT_nil, allT_cons, un_gd, un_v, un_sl, un_pt, un_agg, un_tup, un_fn, un_osl, un_osub, un_optr, un_top, verOk_mk, liveOk_mk, iR_length, iR_get, iR_getE, retP_ret, retP_normal, retM_ret, retM_normal, pinl_nil, pinl_cons, envM, eCallM, pickK, mArgs, mPure, setObs, rb2, rb1, rb0, verOf, rn0, pickObs, resL_nil, resL_tmp, resL_cell, one_one, one_two, envOf, List.lookup_cons, eFn, eCall, pur_v, pur_b, pur_s, pur_nil, pur_sl, pur_oslE, pur_osubE, pur_optrE, pur_aggE, pur_fnE, shOb_mk, iR_sh, rowOf, putCells, splice, iR_set, iR_append, iR_inj, iR_pur, deIs_sl, deI_I, sh2, sh1, sh0, isPure, isP0, mf2, mf1, mf0, mfObs, and_assoc, Try.el22, Try.ok3, Try.sz3, Try.ag3, Try.by3, Try.hz3, Try.zc3, ix_sl _ _ _ _ _ _ Try.el22, ix_osl _ _ _ _ _ _ _ Try.el22, ld_pt1 _ _ _ Try.ag3, ld_op1 _ _ _ _ _ _ Try.ag3, bin_beq _ _ _ _ Try.un4, bin_bne _ _ _ _ Try.un4, ints, F37, hl, g1]
    refine fin_pure (by simp) ?_
    simp [pur2_i, pur2_b, pur2_s, pur2_nil, pur2_sl, pur2_tup, rn2_tup, rn2_agg, rn2_osl, rn1_v, rn1_osl, rn1_agg, rn0_v, rn0_sl, rn0, pickObs, pur_v, pur_b, pur_s, pur_nil, pur_sl, deI, deIs_sl, F35, qok, g1]
  | true =>
  by_cases g4 : a < 1
  · simp -implicitDefEqProofs [bodyOf, Try.f36, ↓awp_skip, ↓awp_seq, ↓awp_region, ↓awp_draw, ↓awp_cond, ↓awp_block, ↓awp_loop, ↓awp_exit, ↓awp_ret, ↓thenP_normal, ↓thenP_exit, ↓thenP_ret, ↓blockP_normal, ↓blockP_exit, ↓blockP_ret, ↓rgW_nil, ↓rgW_cons, ↓rgW_guard, brP_true, brP_false, brP_bool, guardP_bool, guardP_gd, gval, Eff.use_mk, Eff.useG_mk, useG_ft, useG_tf, put_some, put_none, dok_some, dok_none, upd_app, ev_tmp, ev_const, ev_func, cst_int, cst_bool, cst_string, cst_nil, tl_cons, tl_nil, args, aop_move, aop_assign, aop_pick, aop_alloc, aop_box, aop_build, aop_buildSlice, aop_load, aop_store, aop_nilCheck, aop_binOp, aop_unOp, aop_convert, aop_makeFunc, aop_makeSlice, aop_slice, aop_fieldAddr, aop_field, aop_indexAddr, aop_index, aop_extract, aop_builtin, aop_call, eBuiltin_len, eBuiltin_append, eBuiltin_min, eBuiltin_max, eMin_int, eMax_int, ePick_bool, eNil_pt, eNil_optr, eNil_fn, eUn_not, eUn_neg, bin_add, bin_sub, bin_mul, bin_quo, bin_rem, bin_eql, bin_neq, bin_lss, bin_leq, bin_gtr, bin_geq, bin_shl, bin_shr, bin_cat, bin_seq, bin_sne, eLen_sl, eLen_str, eLen_nil, eLen_osl, eLen_osub, fa_pt, ldX_false, ldX_true, ext_tup, box_agg, box_v, box_sl, box_osl, st_v, st_sl, st_osl, st_agg, pick_and, pick_or, if_and, if_or, pX_t, pX_f, un_mk, unT_app, unL_nil, unL_cons, gdL_nil, gdL_cons, allT_nil, allT_cons, un_gd, un_v, un_sl, un_pt, un_agg, un_tup, un_fn, un_osl, un_osub, un_optr, un_top, verOk_mk, liveOk_mk, iR_length, iR_get, iR_getE, retP_ret, retP_normal, retM_ret, retM_normal, pinl_nil, pinl_cons, envM, eCallM, pickK, mArgs, mPure, setObs, rb2, rb1, rb0, verOf, rn0, pickObs, resL_nil, resL_tmp, resL_cell, one_one, one_two, envOf, List.lookup_cons, eFn, eCall, pur_v, pur_b, pur_s, pur_nil, pur_sl, pur_oslE, pur_osubE, pur_optrE, pur_aggE, pur_fnE, shOb_mk, iR_sh, rowOf, putCells, splice, iR_set, iR_append, iR_inj, iR_pur, deIs_sl, deI_I, sh2, sh1, sh0, isPure, isP0, mf2, mf1, mf0, mfObs, and_assoc, Try.el22, Try.ok3, Try.sz3, Try.ag3, Try.by3, Try.hz3, Try.zc3, ix_sl _ _ _ _ _ _ Try.el22, ix_osl _ _ _ _ _ _ _ Try.el22, ld_pt1 _ _ _ Try.ag3, ld_op1 _ _ _ _ _ _ Try.ag3, bin_beq _ _ _ _ Try.un4, bin_bne _ _ _ _ Try.un4, ints, F37, hl, g1, g4]
    refine fin_pure (by simp) ?_
    have : rng 1 b a = false := by simp [rng]; omega
    simp [pur2_i, pur2_b, pur2_s, pur2_nil, pur2_sl, pur2_tup, rn2_tup, rn2_agg, rn2_osl, rn1_v, rn1_osl, rn1_agg, rn0_v, rn0_sl, rn0, pickObs, pur_v, pur_b, pur_s, pur_nil, pur_sl, deI, deIs_sl, F35, qok, g1, this]
  by_cases g5 : b < a
  · simp -implicitDefEqProofs [bodyOf, Try.f36, ↓awp_skip, ↓awp_seq, ↓awp_region, ↓awp_draw, ↓awp_cond, ↓awp_block, ↓awp_loop, ↓awp_exit, ↓awp_ret, ↓thenP_normal, ↓thenP_exit, ↓thenP_ret, ↓blockP_normal, ↓blockP_exit, ↓blockP_ret, ↓rgW_nil, ↓rgW_cons, ↓rgW_guard, brP_true, brP_false, brP_bool, guardP_bool, guardP_gd, gval, Eff.use_mk, Eff.useG_mk, useG_ft, useG_tf, put_some, put_none, dok_some, dok_none, upd_app, ev_tmp, ev_const, ev_func, cst_int, cst_bool, cst_string, cst_nil, tl_cons, tl_nil, args, aop_move, aop_assign, aop_pick, aop_alloc, aop_box, aop_build, aop_buildSlice, aop_load, aop_store, aop_nilCheck, aop_binOp, aop_unOp, aop_convert, aop_makeFunc, aop_makeSlice, aop_slice, aop_fieldAddr, aop_field, aop_indexAddr, aop_index, aop_extract, aop_builtin, aop_call, eBuiltin_len, eBuiltin_append, eBuiltin_min, eBuiltin_max, eMin_int, eMax_int, ePick_bool, eNil_pt, eNil_optr, eNil_fn, eUn_not, eUn_neg, bin_add, bin_sub, bin_mul, bin_quo, bin_rem, bin_eql, bin_neq, bin_lss, bin_leq, bin_gtr, bin_geq, bin_shl, bin_shr, bin_cat, bin_seq, bin_sne, eLen_sl, eLen_str, eLen_nil, eLen_osl, eLen_osub, fa_pt, ldX_false, ldX_true, ext_tup, box_agg, box_v, box_sl, box_osl, st_v, st_sl, st_osl, st_agg, pick_and, pick_or, if_and, if_or, pX_t, pX_f, un_mk, unT_app, unL_nil, unL_cons, gdL_nil, gdL_cons, allT_nil, allT_cons, un_gd, un_v, un_sl, un_pt, un_agg, un_tup, un_fn, un_osl, un_osub, un_optr, un_top, verOk_mk, liveOk_mk, iR_length, iR_get, iR_getE, retP_ret, retP_normal, retM_ret, retM_normal, pinl_nil, pinl_cons, envM, eCallM, pickK, mArgs, mPure, setObs, rb2, rb1, rb0, verOf, rn0, pickObs, resL_nil, resL_tmp, resL_cell, one_one, one_two, envOf, List.lookup_cons, eFn, eCall, pur_v, pur_b, pur_s, pur_nil, pur_sl, pur_oslE, pur_osubE, pur_optrE, pur_aggE, pur_fnE, shOb_mk, iR_sh, rowOf, putCells, splice, iR_set, iR_append, iR_inj, iR_pur, deIs_sl, deI_I, sh2, sh1, sh0, isPure, isP0, mf2, mf1, mf0, mfObs, and_assoc, Try.el22, Try.ok3, Try.sz3, Try.ag3, Try.by3, Try.hz3, Try.zc3, ix_sl _ _ _ _ _ _ Try.el22, ix_osl _ _ _ _ _ _ _ Try.el22, ld_pt1 _ _ _ Try.ag3, ld_op1 _ _ _ _ _ _ Try.ag3, bin_beq _ _ _ _ Try.un4, bin_bne _ _ _ _ Try.un4, ints, F37, hl, g1, g4, g5]
    refine fin_pure (by simp) ?_
    have : rng 1 b a = false := by simp [rng]; omega
    simp [pur2_i, pur2_b, pur2_s, pur2_nil, pur2_sl, pur2_tup, rn2_tup, rn2_agg, rn2_osl, rn1_v, rn1_osl, rn1_agg, rn0_v, rn0_sl, rn0, pickObs, pur_v, pur_b, pur_s, pur_nil, pur_sl, deI, deIs_sl, F35, qok, g1, this]
  by_cases g6 : 1000 < b
  · simp -implicitDefEqProofs [bodyOf, Try.f36, ↓awp_skip, ↓awp_seq, ↓awp_region, ↓awp_draw, ↓awp_cond, ↓awp_block, ↓awp_loop, ↓awp_exit, ↓awp_ret, ↓thenP_normal, ↓thenP_exit, ↓thenP_ret, ↓blockP_normal, ↓blockP_exit, ↓blockP_ret, ↓rgW_nil, ↓rgW_cons, ↓rgW_guard, brP_true, brP_false, brP_bool, guardP_bool, guardP_gd, gval, Eff.use_mk, Eff.useG_mk, useG_ft, useG_tf, put_some, put_none, dok_some, dok_none, upd_app, ev_tmp, ev_const, ev_func, cst_int, cst_bool, cst_string, cst_nil, tl_cons, tl_nil, args, aop_move, aop_assign, aop_pick, aop_alloc, aop_box, aop_build, aop_buildSlice, aop_load, aop_store, aop_nilCheck, aop_binOp, aop_unOp, aop_convert, aop_makeFunc, aop_makeSlice, aop_slice, aop_fieldAddr, aop_field, aop_indexAddr, aop_index, aop_extract, aop_builtin, aop_call, eBuiltin_len, eBuiltin_append, eBuiltin_min, eBuiltin_max, eMin_int, eMax_int, ePick_bool, eNil_pt, eNil_optr, eNil_fn, eUn_not, eUn_neg, bin_add, bin_sub, bin_mul, bin_quo, bin_rem, bin_eql, bin_neq, bin_lss, bin_leq, bin_gtr, bin_geq, bin_shl, bin_shr, bin_cat, bin_seq, bin_sne, eLen_sl, eLen_str, eLen_nil, eLen_osl, eLen_osub, fa_pt, ldX_false, ldX_true, ext_tup, box_agg, box_v, box_sl, box_osl, st_v, st_sl, st_osl, st_agg, pick_and, pick_or, if_and, if_or, pX_t, pX_f, un_mk, unT_app, unL_nil, unL_cons, gdL_nil, gdL_cons, allT_nil, allT_cons, un_gd, un_v, un_sl, un_pt, un_agg, un_tup, un_fn, un_osl, un_osub, un_optr, un_top, verOk_mk, liveOk_mk, iR_length, iR_get, iR_getE, retP_ret, retP_normal, retM_ret, retM_normal, pinl_nil, pinl_cons, envM, eCallM, pickK, mArgs, mPure, setObs, rb2, rb1, rb0, verOf, rn0, pickObs, resL_nil, resL_tmp, resL_cell, one_one, one_two, envOf, List.lookup_cons, eFn, eCall, pur_v, pur_b, pur_s, pur_nil, pur_sl, pur_oslE, pur_osubE, pur_optrE, pur_aggE, pur_fnE, shOb_mk, iR_sh, rowOf, putCells, splice, iR_set, iR_append, iR_inj, iR_pur, deIs_sl, deI_I, sh2, sh1, sh0, isPure, isP0, mf2, mf1, mf0, mfObs, and_assoc, Try.el22, Try.ok3, Try.sz3, Try.ag3, Try.by3, Try.hz3, Try.zc3, ix_sl _ _ _ _ _ _ Try.el22, ix_osl _ _ _ _ _ _ _ Try.el22, ld_pt1 _ _ _ Try.ag3, ld_op1 _ _ _ _ _ _ Try.ag3, bin_beq _ _ _ _ Try.un4, bin_bne _ _ _ _ Try.un4, ints, F37, hl, g1, g4, g5, g6]
    refine fin_pure (by simp) ?_
    have : rng 1 1000 b = false := by simp [rng]; omega
    simp [pur2_i, pur2_b, pur2_s, pur2_nil, pur2_sl, pur2_tup, rn2_tup, rn2_agg, rn2_osl, rn1_v, rn1_osl, rn1_agg, rn0_v, rn0_sl, rn0, pickObs, pur_v, pur_b, pur_s, pur_nil, pur_sl, deI, deIs_sl, F35, qok, g1, this]
  have g2 : rng 1 1000 b = true := by simp [rng]; omega
  have g3 : rng 1 b a = true := by simp [rng]; omega
  obtain ⟨a, rfl⟩ := Int.eq_ofNat_of_zero_le (show 0 ≤ a by omega)
  obtain ⟨b, rfl⟩ := Int.eq_ofNat_of_zero_le (show 0 ≤ b by omega)
  obtain ⟨n1, n2, n3, n4, q, k1, k1', k2, k3, k4, k4', k5, klt, keq, kb⟩ := qn g1 (a := a) (b := b) (by omega) (by omega) (by omega)
  have hs := msr_len l
  have hq : q < (msr l).length := by omega
  have hl0 : 0 < l.length := by omega
  have g4' : ¬ a = 0 := by omega
  have g5' : ¬ b < a := by omega
  have g6' : ¬ 1000 < b := by omega
  simp -implicitDefEqProofs [bodyOf, Try.f36, ↓awp_skip, ↓awp_seq, ↓awp_region, ↓awp_draw, ↓awp_cond, ↓awp_block, ↓awp_loop, ↓awp_exit, ↓awp_ret, ↓thenP_normal, ↓thenP_exit, ↓thenP_ret, ↓blockP_normal, ↓blockP_exit, ↓blockP_ret, ↓rgW_nil, ↓rgW_cons, ↓rgW_guard, brP_true, brP_false, brP_bool, guardP_bool, guardP_gd, gval, Eff.use_mk, Eff.useG_mk, useG_ft, useG_tf, put_some, put_none, dok_some, dok_none, upd_app, ev_tmp, ev_const, ev_func, cst_int, cst_bool, cst_string, cst_nil, tl_cons, tl_nil, args, aop_move, aop_assign, aop_pick, aop_alloc, aop_box, aop_build, aop_buildSlice, aop_load, aop_store, aop_nilCheck, aop_binOp, aop_unOp, aop_convert, aop_makeFunc, aop_makeSlice, aop_slice, aop_fieldAddr, aop_field, aop_indexAddr, aop_index, aop_extract, aop_builtin, aop_call, eBuiltin_len, eBuiltin_append, eBuiltin_min, eBuiltin_max, eMin_int, eMax_int, ePick_bool, eNil_pt, eNil_optr, eNil_fn, eUn_not, eUn_neg, bin_add, bin_sub, bin_mul, bin_quo, bin_rem, bin_eql, bin_neq, bin_lss, bin_leq, bin_gtr, bin_geq, bin_shl, bin_shr, bin_cat, bin_seq, bin_sne, eLen_sl, eLen_str, eLen_nil, eLen_osl, eLen_osub, fa_pt, ldX_false, ldX_true, ext_tup, box_agg, box_v, box_sl, box_osl, st_v, st_sl, st_osl, st_agg, pick_and, pick_or, if_and, if_or, pX_t, pX_f, un_mk, unT_app, unL_nil, unL_cons, gdL_nil, gdL_cons, allT_nil, allT_cons, un_gd, un_v, un_sl, un_pt, un_agg, un_tup, un_fn, un_osl, un_osub, un_optr, un_top, verOk_mk, liveOk_mk, iR_length, iR_get, iR_getE, retP_ret, retP_normal, retM_ret, retM_normal, pinl_nil, pinl_cons, envM, eCallM, pickK, mArgs, mPure, setObs, rb2, rb1, rb0, verOf, rn0, pickObs, resL_nil, resL_tmp, resL_cell, one_one, one_two, envOf, List.lookup_cons, eFn, eCall, pur_v, pur_b, pur_s, pur_nil, pur_sl, pur_oslE, pur_osubE, pur_optrE, pur_aggE, pur_fnE, shOb_mk, iR_sh, rowOf, putCells, splice, iR_set, iR_append, iR_inj, iR_pur, deIs_sl, deI_I, sh2, sh1, sh0, isPure, isP0, mf2, mf1, mf0, mfObs, and_assoc, Try.el22, Try.ok3, Try.sz3, Try.ag3, Try.by3, Try.hz3, Try.zc3, ix_sl _ _ _ _ _ _ Try.el22, ix_osl _ _ _ _ _ _ _ Try.el22, ld_pt1 _ _ _ Try.ag3, ld_op1 _ _ _ _ _ _ Try.ag3, bin_beq _ _ _ _ Try.un4, bin_bne _ _ _ _ Try.un4, ints, F37, F56, M57, hl, hl0, g1, g4, g4', g5, g5', g6, g6', iOb, rbR_iR, rbR_nil, rbOb_mk, iR_mf, pickOk, -List.all_eq_true, iR_ok, ok0, iR_eq_nil, deIs_nil, k1, k1', k2, k3, k4, k4', k5, kb, hq, hs, klt]
  refine fin_pure (by simp) ?_
  simp [pur2_i, pur2_b, pur2_s, pur2_nil, pur2_sl, pur2_tup, rn2_tup, rn2_agg, rn2_osl, rn1_v, rn1_osl, rn1_agg, rn0_v, rn0_sl, rn0, pickObs, pur_v, pur_b, pur_s, pur_nil, pur_sl, deI, deIs_sl, F35, qok, g1, g2, g3, keq, hq, srt_msr]

def FL5 : Fun := ⟨fun xs => ∃ l a b, xs = [ints l, I a, I b] ∧ (∀ n ∈ l, inI n) ∧ inI a ∧ inI b, fun _ => (B true, [])⟩
theorem c12 : GenC Try.prog 12 FL5 := by
  refine contract Try.mix [(35, F35), (14, F14), (36, F35), (16, F16)] (by simp [c35, c14, c36, c16]) Try.func12 rfl (by decide) ?_
  rintro xs ⟨l, a, b, rfl, hin, _, _⟩
  refine ⟨by rw [Try.ntmps12]; simp, ?_⟩
  by_cases hl : l.length ≤ 1048576
  · have hl' : ¬ (1048576 : Int) < l.length := by omega
    simp -implicitDefEqProofs [bodyOf, Try.f12, ↓awp_skip, ↓awp_seq, ↓awp_region, ↓awp_draw, ↓awp_cond, ↓awp_block, ↓awp_loop, ↓awp_exit, ↓awp_ret, ↓thenP_normal, ↓thenP_exit, ↓thenP_ret, ↓blockP_normal, ↓blockP_exit, ↓blockP_ret, ↓rgW_nil, ↓rgW_cons, ↓rgW_guard, brP_true, brP_false, brP_bool, guardP_bool, guardP_gd, gval, Eff.use_mk, Eff.useG_mk, useG_ft, useG_tf, put_some, put_none, dok_some, dok_none, upd_app, ev_tmp, ev_const, ev_func, cst_int, cst_bool, cst_string, cst_nil, tl_cons, tl_nil, args, aop_move, aop_assign, aop_pick, aop_alloc, aop_box, aop_build, aop_buildSlice, aop_load, aop_store, aop_nilCheck, aop_binOp, aop_unOp, aop_convert, aop_makeFunc, aop_makeSlice, aop_slice, aop_fieldAddr, aop_field, aop_indexAddr, aop_index, aop_extract, aop_builtin, aop_call, eBuiltin_len, eBuiltin_append, eBuiltin_min, eBuiltin_max, eMin_int, eMax_int, ePick_bool, eNil_pt, eNil_optr, eNil_fn, eUn_not, eUn_neg, bin_add, bin_sub, bin_mul, bin_quo, bin_rem, bin_eql, bin_neq, bin_lss, bin_leq, bin_gtr, bin_geq, bin_shl, bin_shr, bin_cat, bin_seq, bin_sne, eLen_sl, eLen_str, eLen_nil, eLen_osl, eLen_osub, fa_pt, ldX_false, ldX_true, ext_tup, box_agg, box_v, box_sl, box_osl, st_v, st_sl, st_osl, st_agg, pick_and, pick_or, if_and, if_or, pX_t, pX_f, un_mk, unT_app, unL_nil, unL_cons, gdL_nil, gdL_cons, allT_nil, allT_cons, un_gd, un_v, un_sl, un_pt, un_agg, un_tup, un_fn, un_osl, un_osub, un_optr, un_top, verOk_mk, liveOk_mk, iR_length, iR_get, iR_getE, retP_ret, retP_normal, retM_ret, retM_normal, pinl_nil, pinl_cons, envM, eCallM, pickK, mArgs, mPure, setObs, rb2, rb1, rb0, verOf, rn0, pickObs, resL_nil, resL_tmp, resL_cell, one_one, one_two, envOf, List.lookup_cons, eFn, eCall, pur_v, pur_b, pur_s, pur_nil, pur_sl, pur_oslE, pur_osubE, pur_optrE, pur_aggE, pur_fnE, shOb_mk, iR_sh, rowOf, putCells, splice, iR_set, iR_append, iR_inj, iR_pur, deIs_sl, deI_I, sh2, sh1, sh0, isPure, isP0, mf2, mf1, mf0, mfObs, and_assoc, Try.el22, Try.ok3, Try.sz3, Try.ag3, Try.by3, Try.hz3, Try.zc3, ix_sl _ _ _ _ _ _ Try.el22, ix_osl _ _ _ _ _ _ _ Try.el22, ld_pt1 _ _ _ Try.ag3, ld_op1 _ _ _ _ _ _ Try.ag3, bin_beq _ _ _ _ Try.un4, bin_bne _ _ _ _ Try.un4, ints, F14, F35, F16, hl, hl', iOb]
    refine fin_pure (by simp) ?_
    simp [pur2_i, pur2_b, pur2_s, pur2_nil, pur2_sl, pur2_tup, rn2_tup, rn2_agg, rn2_osl, rn1_v, rn1_osl, rn1_agg, rn0_v, rn0_sl, rn0, pickObs, pur_v, pur_b, pur_s, pur_nil, pur_sl, deI, deIs_sl, FL5, Go.Abs.one_one]
  · have hl' : (1048576 : Int) < l.length := by omega
    simp -implicitDefEqProofs [bodyOf, Try.f12, ↓awp_skip, ↓awp_seq, ↓awp_region, ↓awp_draw, ↓awp_cond, ↓awp_block, ↓awp_loop, ↓awp_exit, ↓awp_ret, ↓thenP_normal, ↓thenP_exit, ↓thenP_ret, ↓blockP_normal, ↓blockP_exit, ↓blockP_ret, ↓rgW_nil, ↓rgW_cons, ↓rgW_guard, brP_true, brP_false, brP_bool, guardP_bool, guardP_gd, gval, Eff.use_mk, Eff.useG_mk, useG_ft, useG_tf, put_some, put_none, dok_some, dok_none, upd_app, ev_tmp, ev_const, ev_func, cst_int, cst_bool, cst_string, cst_nil, tl_cons, tl_nil, args, aop_move, aop_assign, aop_pick, aop_alloc, aop_box, aop_build, aop_buildSlice, aop_load, aop_store, aop_nilCheck, aop_binOp, aop_unOp, aop_convert, aop_makeFunc, aop_makeSlice, aop_slice, aop_fieldAddr, aop_field, aop_indexAddr, aop_index, aop_extract, aop_builtin, aop_call, eBuiltin_len, eBuiltin_append, eBuiltin_min, eBuiltin_max, eMin_int, eMax_int, ePick_bool, eNil_pt, eNil_optr, eNil_fn, eUn_not, eUn_neg, bin_add, bin_sub, bin_mul, bin_quo, bin_rem, bin_eql, bin_neq, bin_lss, bin_leq, bin_gtr, bin_geq, bin_shl, bin_shr, bin_cat, bin_seq, bin_sne, eLen_sl, eLen_str, eLen_nil, eLen_osl, eLen_osub, fa_pt, ldX_false, ldX_true, ext_tup, box_agg, box_v, box_sl, box_osl, st_v, st_sl, st_osl, st_agg, pick_and, pick_or, if_and, if_or, pX_t, pX_f, un_mk, unT_app, unL_nil, unL_cons, gdL_nil, gdL_cons, allT_nil, allT_cons, un_gd, un_v, un_sl, un_pt, un_agg, un_tup, un_fn, un_osl, un_osub, un_optr, un_top, verOk_mk, liveOk_mk, iR_length, iR_get, iR_getE, retP_ret, retP_normal, retM_ret, retM_normal, pinl_nil, pinl_cons, envM, eCallM, pickK, mArgs, mPure, setObs, rb2, rb1, rb0, verOf, rn0, pickObs, resL_nil, resL_tmp, resL_cell, one_one, one_two, envOf, List.lookup_cons, eFn, eCall, pur_v, pur_b, pur_s, pur_nil, pur_sl, pur_oslE, pur_osubE, pur_optrE, pur_aggE, pur_fnE, shOb_mk, iR_sh, rowOf, putCells, splice, iR_set, iR_append, iR_inj, iR_pur, deIs_sl, deI_I, sh2, sh1, sh0, isPure, isP0, mf2, mf1, mf0, mfObs, and_assoc, Try.el22, Try.ok3, Try.sz3, Try.ag3, Try.by3, Try.hz3, Try.zc3, ix_sl _ _ _ _ _ _ Try.el22, ix_osl _ _ _ _ _ _ _ Try.el22, ld_pt1 _ _ _ Try.ag3, ld_op1 _ _ _ _ _ _ Try.ag3, bin_beq _ _ _ _ Try.un4, bin_bne _ _ _ _ Try.un4, ints, hl']
    refine fin_pure (by simp) ?_
    simp [pur2_i, pur2_b, pur2_s, pur2_nil, pur2_sl, pur2_tup, rn2_tup, rn2_agg, rn2_osl, rn1_v, rn1_osl, rn1_agg, rn0_v, rn0_sl, rn0, pickObs, pur_v, pur_b, pur_s, pur_nil, pur_sl, deI, deIs_sl, FL5, Go.Abs.one_one]
end Go.Proofs
