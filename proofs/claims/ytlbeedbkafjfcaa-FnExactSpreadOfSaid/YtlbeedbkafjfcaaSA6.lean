/-
  What is proved here: contracts of the functions that the law of SpreadOf reaches, and of that law. Condition: none.
-/
import Derived.Test.YtlbeedbkafjfcaaSA5
namespace Go.Proofs
open Go.Abs
set_option linter.unusedSimpArgs false
set_option maxHeartbeats 4000000

theorem iR_rows (l : List Int) : (∀ r, r ∈ iR l → r.length = 1) ↔ True := ⟨fun _ => trivial, fun _ _ h => iR_row h⟩
theorem iR_sing (l : List Int) (n : Int) : iR l ++ [[X.v (Value.int IntKind.i64 n)]] = iR (l ++ [n]) := by simp [iR]
/-- where n goes among the first k of l -/
def posI (l : List Int) (n : Int) : Nat → Nat
  | 0 => 0
  | k + 1 => if n < l.getD k 0 then posI l n k else k + 1
def insI (l : List Int) (n : Int) : List Int := l.take (posI l n l.length) ++ [n] ++ l.drop (posI l n l.length)
def srt (l : List Int) : List Int := l.foldl insI []
theorem srt_take (l : List Int) (k : Nat) (h : k < l.length) : srt (l.take (k + 1)) = insI (srt (l.take k)) l[k] := by
  rw [take_succ' l k h, srt, List.foldl_append]; rfl
theorem posI_le (l : List Int) (n : Int) : ∀ k, posI l n k ≤ k
  | 0 => Nat.le_refl _
  | k + 1 => by
    have := posI_le l n k
    unfold posI
    split <;> omega
theorem insI_len (l : List Int) (n : Int) : (insI l n).length = l.length + 1 := by
  have := posI_le l n l.length
  simp [insI]; omega
theorem srt_len (l : List Int) : ∀ k, k ≤ l.length → (srt (l.take k)).length = k
  | 0, _ => by simp [srt]
  | k + 1, hk => by rw [srt_take l k (by omega), insI_len, srt_len l k (by omega)]

def F42 : Fun := ⟨fun xs => ∃ l, xs = [ints l] ∧ l.length ≤ 1048576, fun xs => (.osl 0 0, [iOb (srt (deIs (xs.getD 0 .top)))])⟩
theorem c42 : GenC Try.prog 42 F42 := by
  refine contract Try.mix [] (by simp) Try.func42 rfl (by decide) ?_
  rintro xs ⟨l, rfl, hl⟩
  refine ⟨by rw [Try.ntmps42]; simp, ?_⟩
  simp -implicitDefEqProofs [bodyOf, Try.f42, ↓awp_skip, ↓awp_seq, ↓awp_region, ↓awp_draw, ↓awp_cond, ↓awp_block, ↓awp_loop, ↓awp_exit, ↓awp_ret, ↓thenP_normal, ↓thenP_exit, ↓thenP_ret, ↓blockP_normal, ↓blockP_exit, ↓blockP_ret, ↓rgW_nil, ↓rgW_cons, ↓rgW_guard, brP_true, brP_false, brP_bool, guardP_bool, guardP_gd, gval, Eff.use_mk, Eff.useG_mk, useG_ft, useG_tf, put_some, put_none, dok_some, dok_none, upd_app, ev_tmp, ev_const, ev_func, cst_int, cst_bool, cst_string, cst_nil, tl_cons, tl_nil, args, aop_move, aop_assign, aop_pick, aop_alloc, aop_box, aop_build, aop_buildSlice, aop_load, aop_store, aop_nilCheck, aop_binOp, aop_unOp, aop_convert, aop_makeFunc, aop_makeSlice, aop_slice, aop_fieldAddr, aop_field, aop_indexAddr, aop_index, aop_extract, aop_builtin, aop_call, eBuiltin_len, eBuiltin_append, eBuiltin_min, eBuiltin_max, eMin_int, eMax_int, ePick_bool, eNil_pt, eNil_optr, eNil_fn, eUn_not, eUn_neg, bin_add, bin_sub, bin_mul, bin_quo, bin_rem, bin_eql, bin_neq, bin_lss, bin_leq, bin_gtr, bin_geq, bin_shl, bin_shr, bin_cat, bin_seq, bin_sne, eLen_sl, eLen_str, eLen_nil, eLen_osl, eLen_osub, fa_pt, ldX_false, ldX_true, ext_tup, box_agg, box_v, box_sl, box_osl, st_v, st_sl, st_osl, st_agg, pick_and, pick_or, if_and, if_or, pX_t, pX_f, un_mk, unT_app, unL_nil, unL_cons, gdL_nil, gdL_cons, allT_nil, allT_cons, un_gd, un_v, un_sl, un_pt, un_agg, un_tup, un_fn, un_osl, un_osub, un_optr, un_top, verOk_mk, liveOk_mk, iR_length, iR_get, iR_getE, retP_ret, retP_normal, resL_nil, resL_tmp, resL_cell, one_one, one_two, envOf, List.lookup_cons, eFn, eCall, pur_v, pur_b, pur_s, pur_nil, pur_sl, pur_oslE, pur_osubE, pur_optrE, pur_aggE, pur_fnE, shOb_mk, iR_sh, rowOf, putCells, splice, iR_set, iR_append, iR_inj, iR_pur, deIs_sl, deI_I, sh2, sh1, sh0, isPure, isP0, mf2, mf1, mf0, mfObs, and_assoc, Try.el22, Try.ok3, Try.sz3, Try.ag3, Try.by3, Try.hz3, Try.zc3, ix_sl _ _ _ _ _ _ Try.el22, ix_osl _ _ _ _ _ _ _ Try.el22, ld_pt1 _ _ _ Try.ag3, ld_op1 _ _ _ _ _ _ Try.ag3, bin_beq _ _ _ _ Try.un4, bin_bne _ _ _ _ Try.un4, ints]
  refine loopP_inv (fun k : Nat => ⟨42, tl [(3, .osl 0 0), (7, .sl (iR l)), (8, I l.length), (9, I k)], [iOb (srt (l.take k))]⟩) (fun k => k ≤ l.length) (fun k => l.length - k) 0 (Nat.zero_le _) (Wk.tlN (h := []) 3 1 3 (by simp [upd]) (by simp [hold, upd, tl_cons])) ?_
  intro k hk
  by_cases h : k < l.length
  · simp -implicitDefEqProofs [↓awp_skip, ↓awp_seq, ↓awp_region, ↓awp_draw, ↓awp_cond, ↓awp_block, ↓awp_loop, ↓awp_exit, ↓awp_ret, ↓thenP_normal, ↓thenP_exit, ↓thenP_ret, ↓blockP_normal, ↓blockP_exit, ↓blockP_ret, ↓rgW_nil, ↓rgW_cons, ↓rgW_guard, brP_true, brP_false, brP_bool, guardP_bool, guardP_gd, gval, Eff.use_mk, Eff.useG_mk, useG_ft, useG_tf, put_some, put_none, dok_some, dok_none, upd_app, ev_tmp, ev_const, ev_func, cst_int, cst_bool, cst_string, cst_nil, tl_cons, tl_nil, args, aop_move, aop_assign, aop_pick, aop_alloc, aop_box, aop_build, aop_buildSlice, aop_load, aop_store, aop_nilCheck, aop_binOp, aop_unOp, aop_convert, aop_makeFunc, aop_makeSlice, aop_slice, aop_fieldAddr, aop_field, aop_indexAddr, aop_index, aop_extract, aop_builtin, aop_call, eBuiltin_len, eBuiltin_append, eBuiltin_min, eBuiltin_max, eMin_int, eMax_int, ePick_bool, eNil_pt, eNil_optr, eNil_fn, eUn_not, eUn_neg, bin_add, bin_sub, bin_mul, bin_quo, bin_rem, bin_eql, bin_neq, bin_lss, bin_leq, bin_gtr, bin_geq, bin_shl, bin_shr, bin_cat, bin_seq, bin_sne, eLen_sl, eLen_str, eLen_nil, eLen_osl, eLen_osub, fa_pt, ldX_false, ldX_true, ext_tup, box_agg, box_v, box_sl, box_osl, st_v, st_sl, st_osl, st_agg, pick_and, pick_or, if_and, if_or, pX_t, pX_f, un_mk, unT_app, unL_nil, unL_cons, gdL_nil, gdL_cons, allT_nil, allT_cons, un_gd, un_v, un_sl, un_pt, un_agg, un_tup, un_fn, un_osl, un_osub, un_optr, un_top, verOk_mk, liveOk_mk, iR_length, iR_get, iR_getE, retP_ret, retP_normal, resL_nil, resL_tmp, resL_cell, one_one, one_two, envOf, List.lookup_cons, eFn, eCall, pur_v, pur_b, pur_s, pur_nil, pur_sl, pur_oslE, pur_osubE, pur_optrE, pur_aggE, pur_fnE, shOb_mk, iR_sh, rowOf, putCells, splice, iR_set, iR_append, iR_inj, iR_pur, deIs_sl, deI_I, sh2, sh1, sh0, isPure, isP0, mf2, mf1, mf0, mfObs, and_assoc, Try.el22, Try.ok3, Try.sz3, Try.ag3, Try.by3, Try.hz3, Try.zc3, ix_sl _ _ _ _ _ _ Try.el22, ix_osl _ _ _ _ _ _ _ Try.el22, ld_pt1 _ _ _ Try.ag3, ld_op1 _ _ _ _ _ _ Try.ag3, bin_beq _ _ _ _ Try.un4, bin_bne _ _ _ _ Try.un4, h, iOb]
    have hsl := srt_len l k (by omega)
    generalize hs : srt (l.take k) = s at hsl
    refine loopP_inv (fun j : Nat => ⟨42, tl [(3, .osl 0 0), (5, I l[k]), (6, I j), (7, .sl (iR l)), (8, I l.length), (9, I k)], [iOb s]⟩) (fun j => j ≤ s.length ∧ posI s l[k] s.length = posI s l[k] j) (fun j => j) s.length ⟨Nat.le_refl _, rfl⟩ (Wk.tl (by simp [hold, upd, tl_cons])) ?_
    rintro j ⟨hj, hp⟩
    by_cases h0 : 0 < j
    · have hw : IntKind.i64.wrap ((j : Int) - 1) = ((j - 1 : Nat) : Int) := by rw [w64 (by omega) (by omega)]; omega
      have hj1 : j - 1 < s.length := by omega
      simp -implicitDefEqProofs [↓awp_skip, ↓awp_seq, ↓awp_region, ↓awp_draw, ↓awp_cond, ↓awp_block, ↓awp_loop, ↓awp_exit, ↓awp_ret, ↓thenP_normal, ↓thenP_exit, ↓thenP_ret, ↓blockP_normal, ↓blockP_exit, ↓blockP_ret, ↓rgW_nil, ↓rgW_cons, ↓rgW_guard, brP_true, brP_false, brP_bool, guardP_bool, guardP_gd, gval, Eff.use_mk, Eff.useG_mk, useG_ft, useG_tf, put_some, put_none, dok_some, dok_none, upd_app, ev_tmp, ev_const, ev_func, cst_int, cst_bool, cst_string, cst_nil, tl_cons, tl_nil, args, aop_move, aop_assign, aop_pick, aop_alloc, aop_box, aop_build, aop_buildSlice, aop_load, aop_store, aop_nilCheck, aop_binOp, aop_unOp, aop_convert, aop_makeFunc, aop_makeSlice, aop_slice, aop_fieldAddr, aop_field, aop_indexAddr, aop_index, aop_extract, aop_builtin, aop_call, eBuiltin_len, eBuiltin_append, eBuiltin_min, eBuiltin_max, eMin_int, eMax_int, ePick_bool, eNil_pt, eNil_optr, eNil_fn, eUn_not, eUn_neg, bin_add, bin_sub, bin_mul, bin_quo, bin_rem, bin_eql, bin_neq, bin_lss, bin_leq, bin_gtr, bin_geq, bin_shl, bin_shr, bin_cat, bin_seq, bin_sne, eLen_sl, eLen_str, eLen_nil, eLen_osl, eLen_osub, fa_pt, ldX_false, ldX_true, ext_tup, box_agg, box_v, box_sl, box_osl, st_v, st_sl, st_osl, st_agg, pick_and, pick_or, if_and, if_or, pX_t, pX_f, un_mk, unT_app, unL_nil, unL_cons, gdL_nil, gdL_cons, allT_nil, allT_cons, un_gd, un_v, un_sl, un_pt, un_agg, un_tup, un_fn, un_osl, un_osub, un_optr, un_top, verOk_mk, liveOk_mk, iR_length, iR_get, iR_getE, retP_ret, retP_normal, resL_nil, resL_tmp, resL_cell, one_one, one_two, envOf, List.lookup_cons, eFn, eCall, pur_v, pur_b, pur_s, pur_nil, pur_sl, pur_oslE, pur_osubE, pur_optrE, pur_aggE, pur_fnE, shOb_mk, iR_sh, rowOf, putCells, splice, iR_set, iR_append, iR_inj, iR_pur, deIs_sl, deI_I, sh2, sh1, sh0, isPure, isP0, mf2, mf1, mf0, mfObs, and_assoc, Try.el22, Try.ok3, Try.sz3, Try.ag3, Try.by3, Try.hz3, Try.zc3, ix_sl _ _ _ _ _ _ Try.el22, ix_osl _ _ _ _ _ _ _ Try.el22, ld_pt1 _ _ _ Try.ag3, ld_op1 _ _ _ _ _ _ Try.ag3, bin_beq _ _ _ _ Try.un4, bin_bne _ _ _ _ Try.un4, h0, iOb, hw, hj1]
      have e1 : s.getD (j - 1) 0 = s[j - 1] := by simp [List.getD, hj1]
      have e2 : j = (j - 1) + 1 := by omega
      refine ⟨fun h1 => ⟨j - 1, by omega, ?_, by omega, Wk.tl (by simp [hold, upd, tl_cons])⟩, fun h1 => ?_⟩
      · rw [hp]
        conv => lhs; rw [e2]
        rw [posI, e1, if_pos h1]
      · have hpj : posI s l[k] s.length = j := by
          rw [hp]
          conv => lhs; rw [e2]
          rw [posI, e1, if_neg (by omega)]
          omega
        refine drawP_x _ [(0, 0), (1, 0), (2, 0), (3, 0), (4, 1), (5, 0), (6, 0), (7, 2), (8, 0), (9, 0), (10, 0), (11, 3), (12, 4)] [0, 4, 7, 11] (by decide) ?_
        simp -implicitDefEqProofs [↓awp_skip, ↓awp_seq, ↓awp_region, ↓awp_draw, ↓awp_cond, ↓awp_block, ↓awp_loop, ↓awp_exit, ↓awp_ret, ↓thenP_normal, ↓thenP_exit, ↓thenP_ret, ↓blockP_normal, ↓blockP_exit, ↓blockP_ret, ↓rgW_nil, ↓rgW_cons, ↓rgW_guard, brP_true, brP_false, brP_bool, guardP_bool, guardP_gd, gval, Eff.use_mk, Eff.useG_mk, useG_ft, useG_tf, put_some, put_none, dok_some, dok_none, upd_app, ev_tmp, ev_const, ev_func, cst_int, cst_bool, cst_string, cst_nil, tl_cons, tl_nil, args, aop_move, aop_assign, aop_pick, aop_alloc, aop_box, aop_build, aop_buildSlice, aop_load, aop_store, aop_nilCheck, aop_binOp, aop_unOp, aop_convert, aop_makeFunc, aop_makeSlice, aop_slice, aop_fieldAddr, aop_field, aop_indexAddr, aop_index, aop_extract, aop_builtin, aop_call, eBuiltin_len, eBuiltin_append, eBuiltin_min, eBuiltin_max, eMin_int, eMax_int, ePick_bool, eNil_pt, eNil_optr, eNil_fn, eUn_not, eUn_neg, bin_add, bin_sub, bin_mul, bin_quo, bin_rem, bin_eql, bin_neq, bin_lss, bin_leq, bin_gtr, bin_geq, bin_shl, bin_shr, bin_cat, bin_seq, bin_sne, eLen_sl, eLen_str, eLen_nil, eLen_osl, eLen_osub, fa_pt, ldX_false, ldX_true, ext_tup, box_agg, box_v, box_sl, box_osl, st_v, st_sl, st_osl, st_agg, pick_and, pick_or, if_and, if_or, pX_t, pX_f, un_mk, unT_app, unL_nil, unL_cons, gdL_nil, gdL_cons, allT_nil, allT_cons, un_gd, un_v, un_sl, un_pt, un_agg, un_tup, un_fn, un_osl, un_osub, un_optr, un_top, verOk_mk, liveOk_mk, iR_length, iR_get, iR_getE, retP_ret, retP_normal, resL_nil, resL_tmp, resL_cell, one_one, one_two, envOf, List.lookup_cons, eFn, eCall, pur_v, pur_b, pur_s, pur_nil, pur_sl, pur_oslE, pur_osubE, pur_optrE, pur_aggE, pur_fnE, shOb_mk, iR_sh, rowOf, putCells, splice, iR_set, iR_append, iR_inj, iR_pur, deIs_sl, deI_I, sh2, sh1, sh0, isPure, isP0, mf2, mf1, mf0, mfObs, and_assoc, ↓rgD_nil, ↓rgD_cons, ↓rgD_guard, aopD_move, aopD_assign, aopD_pick, aopD_build, aopD_load, aopD_nilCheck, aopD_binOp, aopD_unOp, aopD_convert, aopD_makeFunc, aopD_slice, aopD_fieldAddr, aopD_field, aopD_indexAddr, aopD_index, aopD_extract, aopD_len, aopD_min, aopD_max, aopD_call, eFnD_call, ↓rgZ_nil, ↓rgZ_cons, ↓List.getElem?_cons_zero, ↓List.getElem?_cons_succ, rgO_ch, rgO_fl, rgO_flg, free, againL_nil, againL_cons, aopD_buildSlice, Try.el22, Try.ok3, Try.sz3, Try.ag3, Try.by3, Try.hz3, Try.zc3, ix_sl _ _ _ _ _ _ Try.el22, ix_osl _ _ _ _ _ _ _ Try.el22, ld_pt1 _ _ _ Try.ag3, ld_op1 _ _ _ _ _ _ Try.ag3, bin_beq _ _ _ _ Try.un4, bin_bne _ _ _ _ Try.un4, eBuildSlice, eBSD, fillX, chunk, eSlice, bnd, eAppend, srcRows, srcOk, plain, isV, hj, cellsX, iR_take, iR_drop, iR_rows, iR_sing]
        refine ⟨by omega, by omega, by omega, by omega, by omega, by omega, k + 1, by omega, by omega, Wk.tlP [1] (by simp [pickOk, -List.all_eq_true, iR_ok, ok0]) ?_ ?_⟩
        · rw [srt_take l k h, hs, insI, hpj]; simp [pickObs, iOb, List.take_of_length_le, iR_cons]
        · simp [hold, upd, tl_cons, rn1, rn0, w64_nat (show k < 4611686018427387904 by omega)]
    · have hj0 : j = 0 := by omega
      subst hj0
      have hpj : posI s l[k] s.length = 0 := hp
      simp -implicitDefEqProofs [↓awp_skip, ↓awp_seq, ↓awp_region, ↓awp_draw, ↓awp_cond, ↓awp_block, ↓awp_loop, ↓awp_exit, ↓awp_ret, ↓thenP_normal, ↓thenP_exit, ↓thenP_ret, ↓blockP_normal, ↓blockP_exit, ↓blockP_ret, ↓rgW_nil, ↓rgW_cons, ↓rgW_guard, brP_true, brP_false, brP_bool, guardP_bool, guardP_gd, gval, Eff.use_mk, Eff.useG_mk, useG_ft, useG_tf, put_some, put_none, dok_some, dok_none, upd_app, ev_tmp, ev_const, ev_func, cst_int, cst_bool, cst_string, cst_nil, tl_cons, tl_nil, args, aop_move, aop_assign, aop_pick, aop_alloc, aop_box, aop_build, aop_buildSlice, aop_load, aop_store, aop_nilCheck, aop_binOp, aop_unOp, aop_convert, aop_makeFunc, aop_makeSlice, aop_slice, aop_fieldAddr, aop_field, aop_indexAddr, aop_index, aop_extract, aop_builtin, aop_call, eBuiltin_len, eBuiltin_append, eBuiltin_min, eBuiltin_max, eMin_int, eMax_int, ePick_bool, eNil_pt, eNil_optr, eNil_fn, eUn_not, eUn_neg, bin_add, bin_sub, bin_mul, bin_quo, bin_rem, bin_eql, bin_neq, bin_lss, bin_leq, bin_gtr, bin_geq, bin_shl, bin_shr, bin_cat, bin_seq, bin_sne, eLen_sl, eLen_str, eLen_nil, eLen_osl, eLen_osub, fa_pt, ldX_false, ldX_true, ext_tup, box_agg, box_v, box_sl, box_osl, st_v, st_sl, st_osl, st_agg, pick_and, pick_or, if_and, if_or, pX_t, pX_f, un_mk, unT_app, unL_nil, unL_cons, gdL_nil, gdL_cons, allT_nil, allT_cons, un_gd, un_v, un_sl, un_pt, un_agg, un_tup, un_fn, un_osl, un_osub, un_optr, un_top, verOk_mk, liveOk_mk, iR_length, iR_get, iR_getE, retP_ret, retP_normal, resL_nil, resL_tmp, resL_cell, one_one, one_two, envOf, List.lookup_cons, eFn, eCall, pur_v, pur_b, pur_s, pur_nil, pur_sl, pur_oslE, pur_osubE, pur_optrE, pur_aggE, pur_fnE, shOb_mk, iR_sh, rowOf, putCells, splice, iR_set, iR_append, iR_inj, iR_pur, deIs_sl, deI_I, sh2, sh1, sh0, isPure, isP0, mf2, mf1, mf0, mfObs, and_assoc, Try.el22, Try.ok3, Try.sz3, Try.ag3, Try.by3, Try.hz3, Try.zc3, ix_sl _ _ _ _ _ _ Try.el22, ix_osl _ _ _ _ _ _ _ Try.el22, ld_pt1 _ _ _ Try.ag3, ld_op1 _ _ _ _ _ _ Try.ag3, bin_beq _ _ _ _ Try.un4, bin_bne _ _ _ _ Try.un4, iOb]
      refine drawP_x _ [(0, 0), (1, 0), (2, 0), (3, 0), (4, 1), (5, 0), (6, 0), (7, 2), (8, 0), (9, 0), (10, 0), (11, 3), (12, 4)] [0, 4, 7, 11] (by decide) ?_
      simp -implicitDefEqProofs [↓awp_skip, ↓awp_seq, ↓awp_region, ↓awp_draw, ↓awp_cond, ↓awp_block, ↓awp_loop, ↓awp_exit, ↓awp_ret, ↓thenP_normal, ↓thenP_exit, ↓thenP_ret, ↓blockP_normal, ↓blockP_exit, ↓blockP_ret, ↓rgW_nil, ↓rgW_cons, ↓rgW_guard, brP_true, brP_false, brP_bool, guardP_bool, guardP_gd, gval, Eff.use_mk, Eff.useG_mk, useG_ft, useG_tf, put_some, put_none, dok_some, dok_none, upd_app, ev_tmp, ev_const, ev_func, cst_int, cst_bool, cst_string, cst_nil, tl_cons, tl_nil, args, aop_move, aop_assign, aop_pick, aop_alloc, aop_box, aop_build, aop_buildSlice, aop_load, aop_store, aop_nilCheck, aop_binOp, aop_unOp, aop_convert, aop_makeFunc, aop_makeSlice, aop_slice, aop_fieldAddr, aop_field, aop_indexAddr, aop_index, aop_extract, aop_builtin, aop_call, eBuiltin_len, eBuiltin_append, eBuiltin_min, eBuiltin_max, eMin_int, eMax_int, ePick_bool, eNil_pt, eNil_optr, eNil_fn, eUn_not, eUn_neg, bin_add, bin_sub, bin_mul, bin_quo, bin_rem, bin_eql, bin_neq, bin_lss, bin_leq, bin_gtr, bin_geq, bin_shl, bin_shr, bin_cat, bin_seq, bin_sne, eLen_sl, eLen_str, eLen_nil, eLen_osl, eLen_osub, fa_pt, ldX_false, ldX_true, ext_tup, box_agg, box_v, box_sl, box_osl, st_v, st_sl, st_osl, st_agg, pick_and, pick_or, if_and, if_or, pX_t, pX_f, un_mk, unT_app, unL_nil, unL_cons, gdL_nil, gdL_cons, allT_nil, allT_cons, un_gd, un_v, un_sl, un_pt, un_agg, un_tup, un_fn, un_osl, un_osub, un_optr, un_top, verOk_mk, liveOk_mk, iR_length, iR_get, iR_getE, retP_ret, retP_normal, resL_nil, resL_tmp, resL_cell, one_one, one_two, envOf, List.lookup_cons, eFn, eCall, pur_v, pur_b, pur_s, pur_nil, pur_sl, pur_oslE, pur_osubE, pur_optrE, pur_aggE, pur_fnE, shOb_mk, iR_sh, rowOf, putCells, splice, iR_set, iR_append, iR_inj, iR_pur, deIs_sl, deI_I, sh2, sh1, sh0, isPure, isP0, mf2, mf1, mf0, mfObs, and_assoc, ↓rgD_nil, ↓rgD_cons, ↓rgD_guard, aopD_move, aopD_assign, aopD_pick, aopD_build, aopD_load, aopD_nilCheck, aopD_binOp, aopD_unOp, aopD_convert, aopD_makeFunc, aopD_slice, aopD_fieldAddr, aopD_field, aopD_indexAddr, aopD_index, aopD_extract, aopD_len, aopD_min, aopD_max, aopD_call, eFnD_call, ↓rgZ_nil, ↓rgZ_cons, ↓List.getElem?_cons_zero, ↓List.getElem?_cons_succ, rgO_ch, rgO_fl, rgO_flg, free, againL_nil, againL_cons, aopD_buildSlice, Try.el22, Try.ok3, Try.sz3, Try.ag3, Try.by3, Try.hz3, Try.zc3, ix_sl _ _ _ _ _ _ Try.el22, ix_osl _ _ _ _ _ _ _ Try.el22, ld_pt1 _ _ _ Try.ag3, ld_op1 _ _ _ _ _ _ Try.ag3, bin_beq _ _ _ _ Try.un4, bin_bne _ _ _ _ Try.un4, eBuildSlice, eBSD, fillX, chunk, eSlice, bnd, eAppend, srcRows, srcOk, plain, isV, cellsX, iR_take, iR_drop, iR_rows, iR_sing]
      refine ⟨by omega, by omega, k + 1, by omega, by omega, Wk.tlP [1] (by simp [pickOk, -List.all_eq_true, iR_ok, ok0]) ?_ ?_⟩
      · rw [srt_take l k h, hs, insI, hpj]; simp [pickObs, iOb, List.take_of_length_le, iR_cons]
      · simp [hold, upd, tl_cons, rn1, rn0, w64_nat (show k < 4611686018427387904 by omega)]
  · simp -implicitDefEqProofs [↓awp_skip, ↓awp_seq, ↓awp_region, ↓awp_draw, ↓awp_cond, ↓awp_block, ↓awp_loop, ↓awp_exit, ↓awp_ret, ↓thenP_normal, ↓thenP_exit, ↓thenP_ret, ↓blockP_normal, ↓blockP_exit, ↓blockP_ret, ↓rgW_nil, ↓rgW_cons, ↓rgW_guard, brP_true, brP_false, brP_bool, guardP_bool, guardP_gd, gval, Eff.use_mk, Eff.useG_mk, useG_ft, useG_tf, put_some, put_none, dok_some, dok_none, upd_app, ev_tmp, ev_const, ev_func, cst_int, cst_bool, cst_string, cst_nil, tl_cons, tl_nil, args, aop_move, aop_assign, aop_pick, aop_alloc, aop_box, aop_build, aop_buildSlice, aop_load, aop_store, aop_nilCheck, aop_binOp, aop_unOp, aop_convert, aop_makeFunc, aop_makeSlice, aop_slice, aop_fieldAddr, aop_field, aop_indexAddr, aop_index, aop_extract, aop_builtin, aop_call, eBuiltin_len, eBuiltin_append, eBuiltin_min, eBuiltin_max, eMin_int, eMax_int, ePick_bool, eNil_pt, eNil_optr, eNil_fn, eUn_not, eUn_neg, bin_add, bin_sub, bin_mul, bin_quo, bin_rem, bin_eql, bin_neq, bin_lss, bin_leq, bin_gtr, bin_geq, bin_shl, bin_shr, bin_cat, bin_seq, bin_sne, eLen_sl, eLen_str, eLen_nil, eLen_osl, eLen_osub, fa_pt, ldX_false, ldX_true, ext_tup, box_agg, box_v, box_sl, box_osl, st_v, st_sl, st_osl, st_agg, pick_and, pick_or, if_and, if_or, pX_t, pX_f, un_mk, unT_app, unL_nil, unL_cons, gdL_nil, gdL_cons, allT_nil, allT_cons, un_gd, un_v, un_sl, un_pt, un_agg, un_tup, un_fn, un_osl, un_osub, un_optr, un_top, verOk_mk, liveOk_mk, iR_length, iR_get, iR_getE, retP_ret, retP_normal, resL_nil, resL_tmp, resL_cell, one_one, one_two, envOf, List.lookup_cons, eFn, eCall, pur_v, pur_b, pur_s, pur_nil, pur_sl, pur_oslE, pur_osubE, pur_optrE, pur_aggE, pur_fnE, shOb_mk, iR_sh, rowOf, putCells, splice, iR_set, iR_append, iR_inj, iR_pur, deIs_sl, deI_I, sh2, sh1, sh0, isPure, isP0, mf2, mf1, mf0, mfObs, and_assoc, Try.el22, Try.ok3, Try.sz3, Try.ag3, Try.by3, Try.hz3, Try.zc3, ix_sl _ _ _ _ _ _ Try.el22, ix_osl _ _ _ _ _ _ _ Try.el22, ld_pt1 _ _ _ Try.ag3, ld_op1 _ _ _ _ _ _ Try.ag3, bin_beq _ _ _ _ Try.un4, bin_bne _ _ _ _ Try.un4, h, iOb]
    rw [List.take_of_length_le (by omega)]
    refine fin_own [0] (by simp [pickOk, -List.all_eq_true, iR_ok]) ?_
    simp [pur2_i, pur2_b, pur2_s, pur2_nil, pur2_sl, pur2_tup, rn2_tup, rn2_agg, rn2_osl, rn1_v, rn1_osl, rn1_agg, rn0_v, rn0_sl, rn0, pickObs, pur_v, pur_b, pur_s, pur_nil, pur_sl, deI, deIs_sl, F42, iOb]

def mxI (l : List Int) : Int := l.tail.foldl (fun a b => if b > a then b else a) (l.headD 0)
theorem mxI_take (l : List Int) (k : Nat) (h0 : 0 < k) (h : k < l.length) : mxI (l.take (k + 1)) = (fun a b => if b > a then b else a) (mxI (l.take k)) l[k] := by
  cases l with
  | nil => simp at h
  | cons x l =>
    cases k with
    | zero => omega
    | succ k =>
      have h' : k < l.length := by simpa using h
      show List.foldl _ x (l.take (k + 1)) = _
      rw [take_succ' l k h', List.foldl_append]
      rfl
def F43 : Fun := ⟨fun xs => ∃ l, xs = [ints l] ∧ 0 < l.length ∧ l.length ≤ 1048576, fun xs => (I (mxI (deIs (xs.getD 0 .top))), [])⟩
theorem c43 : GenC Try.prog 43 F43 := by
  refine contract Try.mix [] (by simp) Try.func43 rfl (by decide) ?_
  rintro xs ⟨l, rfl, h0, hl⟩
  refine ⟨by rw [Try.ntmps43]; simp, ?_⟩
  have h0' : ¬ (l.length : Int) < 1 := by omega
  simp -implicitDefEqProofs [bodyOf, Try.f43, ↓awp_skip, ↓awp_seq, ↓awp_region, ↓awp_draw, ↓awp_cond, ↓awp_block, ↓awp_loop, ↓awp_exit, ↓awp_ret, ↓thenP_normal, ↓thenP_exit, ↓thenP_ret, ↓blockP_normal, ↓blockP_exit, ↓blockP_ret, ↓rgW_nil, ↓rgW_cons, ↓rgW_guard, brP_true, brP_false, brP_bool, guardP_bool, guardP_gd, gval, Eff.use_mk, Eff.useG_mk, useG_ft, useG_tf, put_some, put_none, dok_some, dok_none, upd_app, ev_tmp, ev_const, ev_func, cst_int, cst_bool, cst_string, cst_nil, tl_cons, tl_nil, args, aop_move, aop_assign, aop_pick, aop_alloc, aop_box, aop_build, aop_buildSlice, aop_load, aop_store, aop_nilCheck, aop_binOp, aop_unOp, aop_convert, aop_makeFunc, aop_makeSlice, aop_slice, aop_fieldAddr, aop_field, aop_indexAddr, aop_index, aop_extract, aop_builtin, aop_call, eBuiltin_len, eBuiltin_append, eBuiltin_min, eBuiltin_max, eMin_int, eMax_int, ePick_bool, eNil_pt, eNil_optr, eNil_fn, eUn_not, eUn_neg, bin_add, bin_sub, bin_mul, bin_quo, bin_rem, bin_eql, bin_neq, bin_lss, bin_leq, bin_gtr, bin_geq, bin_shl, bin_shr, bin_cat, bin_seq, bin_sne, eLen_sl, eLen_str, eLen_nil, eLen_osl, eLen_osub, fa_pt, ldX_false, ldX_true, ext_tup, box_agg, box_v, box_sl, box_osl, st_v, st_sl, st_osl, st_agg, pick_and, pick_or, if_and, if_or, pX_t, pX_f, un_mk, unT_app, unL_nil, unL_cons, gdL_nil, gdL_cons, allT_nil, allT_cons, un_gd, un_v, un_sl, un_pt, un_agg, un_tup, un_fn, un_osl, un_osub, un_optr, un_top, verOk_mk, liveOk_mk, iR_length, iR_get, iR_getE, retP_ret, retP_normal, resL_nil, resL_tmp, resL_cell, one_one, one_two, envOf, List.lookup_cons, eFn, eCall, pur_v, pur_b, pur_s, pur_nil, pur_sl, pur_oslE, pur_osubE, pur_optrE, pur_aggE, pur_fnE, shOb_mk, iR_sh, rowOf, putCells, splice, iR_set, iR_append, iR_inj, iR_pur, deIs_sl, deI_I, sh2, sh1, sh0, isPure, isP0, mf2, mf1, mf0, mfObs, and_assoc, Try.el22, Try.ok3, Try.sz3, Try.ag3, Try.by3, Try.hz3, Try.zc3, ix_sl _ _ _ _ _ _ Try.el22, ix_osl _ _ _ _ _ _ _ Try.el22, ld_pt1 _ _ _ Try.ag3, ld_op1 _ _ _ _ _ _ Try.ag3, bin_beq _ _ _ _ Try.un4, bin_bne _ _ _ _ Try.un4, ints, h0, h0']
  refine loopP_inv (fun k : Nat => ⟨25, tl [(0, .sl (iR l)), (3, I (mxI (l.take k))), (4, I k)], []⟩) (fun k => 0 < k ∧ k ≤ l.length) (fun k => l.length - k) 1 ⟨by omega, by omega⟩ (Wk.tl (by cases l <;> simp_all [hold, upd, tl_cons, mxI])) ?_
  rintro k ⟨hk0, hk⟩
  by_cases h : k < l.length
  · simp -implicitDefEqProofs [↓awp_skip, ↓awp_seq, ↓awp_region, ↓awp_draw, ↓awp_cond, ↓awp_block, ↓awp_loop, ↓awp_exit, ↓awp_ret, ↓thenP_normal, ↓thenP_exit, ↓thenP_ret, ↓blockP_normal, ↓blockP_exit, ↓blockP_ret, ↓rgW_nil, ↓rgW_cons, ↓rgW_guard, brP_true, brP_false, brP_bool, guardP_bool, guardP_gd, gval, Eff.use_mk, Eff.useG_mk, useG_ft, useG_tf, put_some, put_none, dok_some, dok_none, upd_app, ev_tmp, ev_const, ev_func, cst_int, cst_bool, cst_string, cst_nil, tl_cons, tl_nil, args, aop_move, aop_assign, aop_pick, aop_alloc, aop_box, aop_build, aop_buildSlice, aop_load, aop_store, aop_nilCheck, aop_binOp, aop_unOp, aop_convert, aop_makeFunc, aop_makeSlice, aop_slice, aop_fieldAddr, aop_field, aop_indexAddr, aop_index, aop_extract, aop_builtin, aop_call, eBuiltin_len, eBuiltin_append, eBuiltin_min, eBuiltin_max, eMin_int, eMax_int, ePick_bool, eNil_pt, eNil_optr, eNil_fn, eUn_not, eUn_neg, bin_add, bin_sub, bin_mul, bin_quo, bin_rem, bin_eql, bin_neq, bin_lss, bin_leq, bin_gtr, bin_geq, bin_shl, bin_shr, bin_cat, bin_seq, bin_sne, eLen_sl, eLen_str, eLen_nil, eLen_osl, eLen_osub, fa_pt, ldX_false, ldX_true, ext_tup, box_agg, box_v, box_sl, box_osl, st_v, st_sl, st_osl, st_agg, pick_and, pick_or, if_and, if_or, pX_t, pX_f, un_mk, unT_app, unL_nil, unL_cons, gdL_nil, gdL_cons, allT_nil, allT_cons, un_gd, un_v, un_sl, un_pt, un_agg, un_tup, un_fn, un_osl, un_osub, un_optr, un_top, verOk_mk, liveOk_mk, iR_length, iR_get, iR_getE, retP_ret, retP_normal, resL_nil, resL_tmp, resL_cell, one_one, one_two, envOf, List.lookup_cons, eFn, eCall, pur_v, pur_b, pur_s, pur_nil, pur_sl, pur_oslE, pur_osubE, pur_optrE, pur_aggE, pur_fnE, shOb_mk, iR_sh, rowOf, putCells, splice, iR_set, iR_append, iR_inj, iR_pur, deIs_sl, deI_I, sh2, sh1, sh0, isPure, isP0, mf2, mf1, mf0, mfObs, and_assoc, Try.el22, Try.ok3, Try.sz3, Try.ag3, Try.by3, Try.hz3, Try.zc3, ix_sl _ _ _ _ _ _ Try.el22, ix_osl _ _ _ _ _ _ _ Try.el22, ld_pt1 _ _ _ Try.ag3, ld_op1 _ _ _ _ _ _ Try.ag3, bin_beq _ _ _ _ Try.un4, bin_bne _ _ _ _ Try.un4, h]
    refine ⟨k + 1, by omega, by omega, by omega, Wk.tl ?_⟩
    simp [hold, upd, tl_cons, mxI_take l k hk0 h, w64_nat (show k < 4611686018427387904 by omega)]
  · simp -implicitDefEqProofs [↓awp_skip, ↓awp_seq, ↓awp_region, ↓awp_draw, ↓awp_cond, ↓awp_block, ↓awp_loop, ↓awp_exit, ↓awp_ret, ↓thenP_normal, ↓thenP_exit, ↓thenP_ret, ↓blockP_normal, ↓blockP_exit, ↓blockP_ret, ↓rgW_nil, ↓rgW_cons, ↓rgW_guard, brP_true, brP_false, brP_bool, guardP_bool, guardP_gd, gval, Eff.use_mk, Eff.useG_mk, useG_ft, useG_tf, put_some, put_none, dok_some, dok_none, upd_app, ev_tmp, ev_const, ev_func, cst_int, cst_bool, cst_string, cst_nil, tl_cons, tl_nil, args, aop_move, aop_assign, aop_pick, aop_alloc, aop_box, aop_build, aop_buildSlice, aop_load, aop_store, aop_nilCheck, aop_binOp, aop_unOp, aop_convert, aop_makeFunc, aop_makeSlice, aop_slice, aop_fieldAddr, aop_field, aop_indexAddr, aop_index, aop_extract, aop_builtin, aop_call, eBuiltin_len, eBuiltin_append, eBuiltin_min, eBuiltin_max, eMin_int, eMax_int, ePick_bool, eNil_pt, eNil_optr, eNil_fn, eUn_not, eUn_neg, bin_add, bin_sub, bin_mul, bin_quo, bin_rem, bin_eql, bin_neq, bin_lss, bin_leq, bin_gtr, bin_geq, bin_shl, bin_shr, bin_cat, bin_seq, bin_sne, eLen_sl, eLen_str, eLen_nil, eLen_osl, eLen_osub, fa_pt, ldX_false, ldX_true, ext_tup, box_agg, box_v, box_sl, box_osl, st_v, st_sl, st_osl, st_agg, pick_and, pick_or, if_and, if_or, pX_t, pX_f, un_mk, unT_app, unL_nil, unL_cons, gdL_nil, gdL_cons, allT_nil, allT_cons, un_gd, un_v, un_sl, un_pt, un_agg, un_tup, un_fn, un_osl, un_osub, un_optr, un_top, verOk_mk, liveOk_mk, iR_length, iR_get, iR_getE, retP_ret, retP_normal, resL_nil, resL_tmp, resL_cell, one_one, one_two, envOf, List.lookup_cons, eFn, eCall, pur_v, pur_b, pur_s, pur_nil, pur_sl, pur_oslE, pur_osubE, pur_optrE, pur_aggE, pur_fnE, shOb_mk, iR_sh, rowOf, putCells, splice, iR_set, iR_append, iR_inj, iR_pur, deIs_sl, deI_I, sh2, sh1, sh0, isPure, isP0, mf2, mf1, mf0, mfObs, and_assoc, Try.el22, Try.ok3, Try.sz3, Try.ag3, Try.by3, Try.hz3, Try.zc3, ix_sl _ _ _ _ _ _ Try.el22, ix_osl _ _ _ _ _ _ _ Try.el22, ld_pt1 _ _ _ Try.ag3, ld_op1 _ _ _ _ _ _ Try.ag3, bin_beq _ _ _ _ Try.un4, bin_bne _ _ _ _ Try.un4, h]
    rw [List.take_of_length_le (by omega)]
    refine fin_pure (by simp) ?_
    simp [pur2_i, pur2_b, pur2_s, pur2_nil, pur2_sl, pur2_tup, rn2_tup, rn2_agg, rn2_osl, rn1_v, rn1_osl, rn1_agg, rn0_v, rn0_sl, rn0, pickObs, pur_v, pur_b, pur_s, pur_nil, pur_sl, deI, deIs_sl, F43]

def mnI (l : List Int) : Int := l.tail.foldl (fun a b => if b < a then b else a) (l.headD 0)
theorem mnI_take (l : List Int) (k : Nat) (h0 : 0 < k) (h : k < l.length) : mnI (l.take (k + 1)) = (fun a b => if b < a then b else a) (mnI (l.take k)) l[k] := by
  cases l with
  | nil => simp at h
  | cons x l =>
    cases k with
    | zero => omega
    | succ k =>
      have h' : k < l.length := by simpa using h
      show List.foldl _ x (l.take (k + 1)) = _
      rw [take_succ' l k h', List.foldl_append]
      rfl
def F44 : Fun := ⟨fun xs => ∃ l, xs = [ints l] ∧ 0 < l.length ∧ l.length ≤ 1048576, fun xs => (I (mnI (deIs (xs.getD 0 .top))), [])⟩
theorem c44 : GenC Try.prog 44 F44 := by
  refine contract Try.mix [] (by simp) Try.func44 rfl (by decide) ?_
  rintro xs ⟨l, rfl, h0, hl⟩
  refine ⟨by rw [Try.ntmps44]; simp, ?_⟩
  have h0' : ¬ (l.length : Int) < 1 := by omega
  simp -implicitDefEqProofs [bodyOf, Try.f44, ↓awp_skip, ↓awp_seq, ↓awp_region, ↓awp_draw, ↓awp_cond, ↓awp_block, ↓awp_loop, ↓awp_exit, ↓awp_ret, ↓thenP_normal, ↓thenP_exit, ↓thenP_ret, ↓blockP_normal, ↓blockP_exit, ↓blockP_ret, ↓rgW_nil, ↓rgW_cons, ↓rgW_guard, brP_true, brP_false, brP_bool, guardP_bool, guardP_gd, gval, Eff.use_mk, Eff.useG_mk, useG_ft, useG_tf, put_some, put_none, dok_some, dok_none, upd_app, ev_tmp, ev_const, ev_func, cst_int, cst_bool, cst_string, cst_nil, tl_cons, tl_nil, args, aop_move, aop_assign, aop_pick, aop_alloc, aop_box, aop_build, aop_buildSlice, aop_load, aop_store, aop_nilCheck, aop_binOp, aop_unOp, aop_convert, aop_makeFunc, aop_makeSlice, aop_slice, aop_fieldAddr, aop_field, aop_indexAddr, aop_index, aop_extract, aop_builtin, aop_call, eBuiltin_len, eBuiltin_append, eBuiltin_min, eBuiltin_max, eMin_int, eMax_int, ePick_bool, eNil_pt, eNil_optr, eNil_fn, eUn_not, eUn_neg, bin_add, bin_sub, bin_mul, bin_quo, bin_rem, bin_eql, bin_neq, bin_lss, bin_leq, bin_gtr, bin_geq, bin_shl, bin_shr, bin_cat, bin_seq, bin_sne, eLen_sl, eLen_str, eLen_nil, eLen_osl, eLen_osub, fa_pt, ldX_false, ldX_true, ext_tup, box_agg, box_v, box_sl, box_osl, st_v, st_sl, st_osl, st_agg, pick_and, pick_or, if_and, if_or, pX_t, pX_f, un_mk, unT_app, unL_nil, unL_cons, gdL_nil, gdL_cons, allT_nil, allT_cons, un_gd, un_v, un_sl, un_pt, un_agg, un_tup, un_fn, un_osl, un_osub, un_optr, un_top, verOk_mk, liveOk_mk, iR_length, iR_get, iR_getE, retP_ret, retP_normal, resL_nil, resL_tmp, resL_cell, one_one, one_two, envOf, List.lookup_cons, eFn, eCall, pur_v, pur_b, pur_s, pur_nil, pur_sl, pur_oslE, pur_osubE, pur_optrE, pur_aggE, pur_fnE, shOb_mk, iR_sh, rowOf, putCells, splice, iR_set, iR_append, iR_inj, iR_pur, deIs_sl, deI_I, sh2, sh1, sh0, isPure, isP0, mf2, mf1, mf0, mfObs, and_assoc, Try.el22, Try.ok3, Try.sz3, Try.ag3, Try.by3, Try.hz3, Try.zc3, ix_sl _ _ _ _ _ _ Try.el22, ix_osl _ _ _ _ _ _ _ Try.el22, ld_pt1 _ _ _ Try.ag3, ld_op1 _ _ _ _ _ _ Try.ag3, bin_beq _ _ _ _ Try.un4, bin_bne _ _ _ _ Try.un4, ints, h0, h0']
  refine loopP_inv (fun k : Nat => ⟨25, tl [(0, .sl (iR l)), (3, I (mnI (l.take k))), (4, I k)], []⟩) (fun k => 0 < k ∧ k ≤ l.length) (fun k => l.length - k) 1 ⟨by omega, by omega⟩ (Wk.tl (by cases l <;> simp_all [hold, upd, tl_cons, mnI])) ?_
  rintro k ⟨hk0, hk⟩
  by_cases h : k < l.length
  · simp -implicitDefEqProofs [↓awp_skip, ↓awp_seq, ↓awp_region, ↓awp_draw, ↓awp_cond, ↓awp_block, ↓awp_loop, ↓awp_exit, ↓awp_ret, ↓thenP_normal, ↓thenP_exit, ↓thenP_ret, ↓blockP_normal, ↓blockP_exit, ↓blockP_ret, ↓rgW_nil, ↓rgW_cons, ↓rgW_guard, brP_true, brP_false, brP_bool, guardP_bool, guardP_gd, gval, Eff.use_mk, Eff.useG_mk, useG_ft, useG_tf, put_some, put_none, dok_some, dok_none, upd_app, ev_tmp, ev_const, ev_func, cst_int, cst_bool, cst_string, cst_nil, tl_cons, tl_nil, args, aop_move, aop_assign, aop_pick, aop_alloc, aop_box, aop_build, aop_buildSlice, aop_load, aop_store, aop_nilCheck, aop_binOp, aop_unOp, aop_convert, aop_makeFunc, aop_makeSlice, aop_slice, aop_fieldAddr, aop_field, aop_indexAddr, aop_index, aop_extract, aop_builtin, aop_call, eBuiltin_len, eBuiltin_append, eBuiltin_min, eBuiltin_max, eMin_int, eMax_int, ePick_bool, eNil_pt, eNil_optr, eNil_fn, eUn_not, eUn_neg, bin_add, bin_sub, bin_mul, bin_quo, bin_rem, bin_eql, bin_neq, bin_lss, bin_leq, bin_gtr, bin_geq, bin_shl, bin_shr, bin_cat, bin_seq, bin_sne, eLen_sl, eLen_str, eLen_nil, eLen_osl, eLen_osub, fa_pt, ldX_false, ldX_true, ext_tup, box_agg, box_v, box_sl, box_osl, st_v, st_sl, st_osl, st_agg, pick_and, pick_or, if_and, if_or, pX_t, pX_f, un_mk, unT_app, unL_nil, unL_cons, gdL_nil, gdL_cons, allT_nil, allT_cons, un_gd, un_v, un_sl, un_pt, un_agg, un_tup, un_fn, un_osl, un_osub, un_optr, un_top, verOk_mk, liveOk_mk, iR_length, iR_get, iR_getE, retP_ret, retP_normal, resL_nil, resL_tmp, resL_cell, one_one, one_two, envOf, List.lookup_cons, eFn, eCall, pur_v, pur_b, pur_s, pur_nil, pur_sl, pur_oslE, pur_osubE, pur_optrE, pur_aggE, pur_fnE, shOb_mk, iR_sh, rowOf, putCells, splice, iR_set, iR_append, iR_inj, iR_pur, deIs_sl, deI_I, sh2, sh1, sh0, isPure, isP0, mf2, mf1, mf0, mfObs, and_assoc, Try.el22, Try.ok3, Try.sz3, Try.ag3, Try.by3, Try.hz3, Try.zc3, ix_sl _ _ _ _ _ _ Try.el22, ix_osl _ _ _ _ _ _ _ Try.el22, ld_pt1 _ _ _ Try.ag3, ld_op1 _ _ _ _ _ _ Try.ag3, bin_beq _ _ _ _ Try.un4, bin_bne _ _ _ _ Try.un4, h]
    refine ⟨k + 1, by omega, by omega, by omega, Wk.tl ?_⟩
    simp [hold, upd, tl_cons, mnI_take l k hk0 h, w64_nat (show k < 4611686018427387904 by omega)]
  · simp -implicitDefEqProofs [↓awp_skip, ↓awp_seq, ↓awp_region, ↓awp_draw, ↓awp_cond, ↓awp_block, ↓awp_loop, ↓awp_exit, ↓awp_ret, ↓thenP_normal, ↓thenP_exit, ↓thenP_ret, ↓blockP_normal, ↓blockP_exit, ↓blockP_ret, ↓rgW_nil, ↓rgW_cons, ↓rgW_guard, brP_true, brP_false, brP_bool, guardP_bool, guardP_gd, gval, Eff.use_mk, Eff.useG_mk, useG_ft, useG_tf, put_some, put_none, dok_some, dok_none, upd_app, ev_tmp, ev_const, ev_func, cst_int, cst_bool, cst_string, cst_nil, tl_cons, tl_nil, args, aop_move, aop_assign, aop_pick, aop_alloc, aop_box, aop_build, aop_buildSlice, aop_load, aop_store, aop_nilCheck, aop_binOp, aop_unOp, aop_convert, aop_makeFunc, aop_makeSlice, aop_slice, aop_fieldAddr, aop_field, aop_indexAddr, aop_index, aop_extract, aop_builtin, aop_call, eBuiltin_len, eBuiltin_append, eBuiltin_min, eBuiltin_max, eMin_int, eMax_int, ePick_bool, eNil_pt, eNil_optr, eNil_fn, eUn_not, eUn_neg, bin_add, bin_sub, bin_mul, bin_quo, bin_rem, bin_eql, bin_neq, bin_lss, bin_leq, bin_gtr, bin_geq, bin_shl, bin_shr, bin_cat, bin_seq, bin_sne, eLen_sl, eLen_str, eLen_nil, eLen_osl, eLen_osub, fa_pt, ldX_false, ldX_true, ext_tup, box_agg, box_v, box_sl, box_osl, st_v, st_sl, st_osl, st_agg, pick_and, pick_or, if_and, if_or, pX_t, pX_f, un_mk, unT_app, unL_nil, unL_cons, gdL_nil, gdL_cons, allT_nil, allT_cons, un_gd, un_v, un_sl, un_pt, un_agg, un_tup, un_fn, un_osl, un_osub, un_optr, un_top, verOk_mk, liveOk_mk, iR_length, iR_get, iR_getE, retP_ret, retP_normal, resL_nil, resL_tmp, resL_cell, one_one, one_two, envOf, List.lookup_cons, eFn, eCall, pur_v, pur_b, pur_s, pur_nil, pur_sl, pur_oslE, pur_osubE, pur_optrE, pur_aggE, pur_fnE, shOb_mk, iR_sh, rowOf, putCells, splice, iR_set, iR_append, iR_inj, iR_pur, deIs_sl, deI_I, sh2, sh1, sh0, isPure, isP0, mf2, mf1, mf0, mfObs, and_assoc, Try.el22, Try.ok3, Try.sz3, Try.ag3, Try.by3, Try.hz3, Try.zc3, ix_sl _ _ _ _ _ _ Try.el22, ix_osl _ _ _ _ _ _ _ Try.el22, ld_pt1 _ _ _ Try.ag3, ld_op1 _ _ _ _ _ _ Try.ag3, bin_beq _ _ _ _ Try.un4, bin_bne _ _ _ _ Try.un4, h]
    rw [List.take_of_length_le (by omega)]
    refine fin_pure (by simp) ?_
    simp [pur2_i, pur2_b, pur2_s, pur2_nil, pur2_sl, pur2_tup, rn2_tup, rn2_agg, rn2_osl, rn1_v, rn1_osl, rn1_agg, rn0_v, rn0_sl, rn0, pickObs, pur_v, pur_b, pur_s, pur_nil, pur_sl, deI, deIs_sl, F44]


theorem posI_zero (s : List Int) (n : Int) : ∀ k, posI s n k = 0 → ∀ j, j < k → n < s.getD j 0
  | 0, _, j, hj => by omega
  | k + 1, h, j, hj => by
    unfold posI at h
    split at h
    · rcases Nat.lt_succ_iff_lt_or_eq.1 hj with h' | rfl
      · exact posI_zero s n k h j h'
      · assumption
    · omega
theorem posI_at (s : List Int) (n : Int) : ∀ k, 0 < posI s n k → s.getD (posI s n k - 1) 0 ≤ n
  | 0, h => by simp [posI] at h
  | k + 1, h => by
    unfold posI at h ⊢
    split at h
    · rename_i h1
      rw [if_pos h1]; exact posI_at s n k h
    · rename_i h1
      rw [if_neg h1]
      simp only [Nat.add_sub_cancel]
      omega
theorem insI_last (s : List Int) (n : Int) (h0 : 0 < s.length) : (insI s n).getD s.length 0 = if n > s.getD (s.length - 1) 0 then n else if s.getD (s.length - 1) 0 ≤ n then n else s.getD (s.length - 1) 0 := by
  have hle := posI_le s n s.length
  obtain ⟨m, hm⟩ : ∃ m, s.length = m + 1 := ⟨s.length - 1, by omega⟩
  have hp : posI s n s.length = if n < s.getD m 0 then posI s n m else m + 1 := by rw [hm]; rfl
  have hpm := posI_le s n m
  have e : s.length - 1 = m := by omega
  rw [e]
  by_cases h : n < s.getD m 0
  · rw [if_neg (by omega), if_neg (by omega)]
    rw [if_pos h] at hp
    unfold insI
    rw [hp]
    simp only [List.getD]
    rw [List.getElem?_append_right (by simp; omega), List.getElem?_drop]
    congr 2
    simp; omega
  · rw [if_neg h] at hp
    have : (insI s n).getD s.length 0 = n := by
      unfold insI
      rw [hp, ← hm, List.take_length, List.drop_length]
      simp [List.getD]
    rw [this]
    split
    · rfl
    · rw [if_pos (by omega)]
theorem insI_head (s : List Int) (n : Int) (h0 : 0 < s.length) (hmin : ∀ x ∈ s, s.getD 0 0 ≤ x) : (insI s n).getD 0 0 = (if n < s.getD 0 0 then n else s.getD 0 0) ∧ ∀ x ∈ insI s n, (insI s n).getD 0 0 ≤ x := by
  have hle := posI_le s n s.length
  have hmem : ∀ x, x ∈ insI s n → x = n ∨ x ∈ s := by
    intro x hx
    unfold insI at hx
    simp only [List.mem_append, List.mem_singleton] at hx
    rcases hx with (h | h) | h
    · exact .inr (List.mem_of_mem_take h)
    · exact .inl h
    · exact .inr (List.mem_of_mem_drop h)
  rcases Nat.eq_zero_or_pos (posI s n s.length) with hp | hp
  · have h1 := posI_zero s n s.length hp 0 h0
    have e : (insI s n).getD 0 0 = n := by unfold insI; rw [hp]; simp
    rw [e]
    refine ⟨by rw [if_pos h1], fun x hx => ?_⟩
    rcases hmem x hx with rfl | h
    · exact Int.le_refl _
    · have := hmin x h; omega
  · have h1 := posI_at s n s.length hp
    have hm : s.getD (posI s n s.length - 1) 0 ∈ s := by
      have hlt : posI s n s.length - 1 < s.length := by omega
      simp only [List.getD]
      rw [List.getElem?_eq_getElem hlt]
      exact List.getElem_mem hlt
    have h2 := hmin _ hm
    have e : (insI s n).getD 0 0 = s.getD 0 0 := by
      unfold insI
      simp only [List.getD]
      rw [List.append_assoc, List.getElem?_append_left (by simp; omega), List.getElem?_take]
      rw [if_pos hp]
    rw [e]
    refine ⟨by rw [if_neg (by omega)], fun x hx => ?_⟩
    rcases hmem x hx with rfl | h
    · omega
    · exact hmin x h
theorem srt_ends (l : List Int) : ∀ k, 0 < k → k ≤ l.length → (srt (l.take k)).getD (k - 1) 0 = mxI (l.take k) ∧ (srt (l.take k)).getD 0 0 = mnI (l.take k) ∧ ∀ x ∈ srt (l.take k), (srt (l.take k)).getD 0 0 ≤ x
  | 0, h, _ => by omega
  | 1, _, hk => by
    cases l with
    | nil => simp at hk
    | cons x l => simp [srt, insI, posI, mxI, mnI]
  | k + 2, _, hk => by
    obtain ⟨h1, h2, h3⟩ := srt_ends l (k + 1) (by omega) (by omega)
    have hlen := srt_len l (k + 1) (by omega)
    rw [srt_take l (k + 1) (by omega), mxI_take l (k + 1) (by omega) (by omega), mnI_take l (k + 1) (by omega) (by omega)]
    obtain ⟨g1, g2⟩ := insI_head _ l[k + 1] (by omega) h3
    refine ⟨?_, ?_, g2⟩
    · have := insI_last (srt (l.take (k + 1))) l[k + 1] (by omega)
      rw [hlen] at this
      rw [show k + 2 - 1 = k + 1 from rfl, this, h1]
      simp only
      split
      · rfl
      · split <;> omega
    · rw [g1, h2]
def F19 : Fun := ⟨fun xs => ∃ l, xs = [ints l] ∧ l.length ≤ 1048576, fun xs =>
  let l := deIs (xs.getD 0 .top)
  (.tup [I (if good l = true then IntKind.i64.wrap (mxI l - mnI l) else 0), B (good l)], [])⟩
theorem c19 : GenC Try.prog 19 F19 := by
  refine contract Try.mix [(37, F37), (42, F42)] (by simp [c37, c42]) Try.func19 rfl (by decide) ?_
  rintro xs ⟨l, rfl, hl⟩
  refine ⟨by rw [Try.ntmps19]; simp, ?_⟩
  cases hg : good l with
  | false =>
    simp -implicitDefEqProofs [bodyOf, Try.f19, ↓awp_skip, ↓awp_seq, ↓awp_region, ↓awp_draw, ↓awp_cond, ↓awp_block, ↓awp_loop, ↓awp_exit, ↓awp_ret, ↓thenP_normal, ↓thenP_exit, ↓thenP_ret, ↓blockP_normal, ↓blockP_exit, ↓blockP_ret, ↓rgW_nil, ↓rgW_cons, ↓rgW_guard, brP_true, brP_false, brP_bool, guardP_bool, guardP_gd, gval, Eff.use_mk, Eff.useG_mk, useG_ft, useG_tf, put_some, put_none, dok_some, dok_none, upd_app, ev_tmp, ev_const, ev_func, cst_int, cst_bool, cst_string, cst_nil, tl_cons, tl_nil, args, aop_move, aop_assign, aop_pick, aop_alloc, aop_box, aop_build, aop_buildSlice, aop_load, aop_store, aop_nilCheck, aop_binOp, aop_unOp, aop_convert, aop_makeFunc, aop_makeSlice, aop_slice, aop_fieldAddr, aop_field, aop_indexAddr, aop_index, aop_extract, aop_builtin, aop_call, eBuiltin_len, eBuiltin_append, eBuiltin_min, eBuiltin_max, eMin_int, eMax_int, ePick_bool, eNil_pt, eNil_optr, eNil_fn, eUn_not, eUn_neg, bin_add, bin_sub, bin_mul, bin_quo, bin_rem, bin_eql, bin_neq, bin_lss, bin_leq, bin_gtr, bin_geq, bin_shl, bin_shr, bin_cat, bin_seq, bin_sne, eLen_sl, eLen_str, eLen_nil, eLen_osl, eLen_osub, fa_pt, ldX_false, ldX_true, ext_tup, box_agg, box_v, box_sl, box_osl, st_v, st_sl, st_osl, st_agg, pick_and, pick_or, if_and, if_or, pX_t, pX_f, un_mk, unT_app, unL_nil, unL_cons, gdL_nil, gdL_cons, allT_nil, allT_cons, un_gd, un_v, un_sl, un_pt, un_agg, un_tup, un_fn, un_osl, un_osub, un_optr, un_top, verOk_mk, liveOk_mk, iR_length, iR_get, iR_getE, retP_ret, retP_normal, resL_nil, resL_tmp, resL_cell, one_one, one_two, envOf, List.lookup_cons, eFn, eCall, pur_v, pur_b, pur_s, pur_nil, pur_sl, pur_oslE, pur_osubE, pur_optrE, pur_aggE, pur_fnE, shOb_mk, iR_sh, rowOf, putCells, splice, iR_set, iR_append, iR_inj, iR_pur, deIs_sl, deI_I, sh2, sh1, sh0, isPure, isP0, mf2, mf1, mf0, mfObs, and_assoc, Try.el22, Try.ok3, Try.sz3, Try.ag3, Try.by3, Try.hz3, Try.zc3, ix_sl _ _ _ _ _ _ Try.el22, ix_osl _ _ _ _ _ _ _ Try.el22, ld_pt1 _ _ _ Try.ag3, ld_op1 _ _ _ _ _ _ Try.ag3, bin_beq _ _ _ _ Try.un4, bin_bne _ _ _ _ Try.un4, ints, F37, hl, hg]
    refine fin_pure (by simp) ?_
    simp [pur2_i, pur2_b, pur2_s, pur2_nil, pur2_sl, pur2_tup, rn2_tup, rn2_agg, rn2_osl, rn1_v, rn1_osl, rn1_agg, rn0_v, rn0_sl, rn0, pickObs, pur_v, pur_b, pur_s, pur_nil, pur_sl, deI, deIs_sl, F19, hg]
  | true =>
    have hlen := good_len hg
    obtain ⟨h1, h2, _⟩ := srt_ends l l.length (by omega) (Nat.le_refl _)
    have h3 := srt_len l l.length (Nat.le_refl _)
    rw [List.take_length] at h1 h2 h3
    have hw : IntKind.i64.wrap ((l.length : Int) - 1) = ((l.length - 1 : Nat) : Int) := by rw [w64 (by omega) (by omega)]; omega
    have h4 : l.length - 1 < l.length := by omega
    have h5 : 0 < l.length := by omega
    have e1 : (srt l)[l.length - 1]? = some (mxI l) := by
      rw [← h1]; simp only [List.getD]; rw [List.getElem?_eq_getElem (by omega)]; rfl
    have e2 : (srt l)[0]? = some (mnI l) := by
      rw [← h2]; simp only [List.getD]; rw [List.getElem?_eq_getElem (by omega)]; rfl
    simp -implicitDefEqProofs [bodyOf, Try.f19, ↓awp_skip, ↓awp_seq, ↓awp_region, ↓awp_draw, ↓awp_cond, ↓awp_block, ↓awp_loop, ↓awp_exit, ↓awp_ret, ↓thenP_normal, ↓thenP_exit, ↓thenP_ret, ↓blockP_normal, ↓blockP_exit, ↓blockP_ret, ↓rgW_nil, ↓rgW_cons, ↓rgW_guard, brP_true, brP_false, brP_bool, guardP_bool, guardP_gd, gval, Eff.use_mk, Eff.useG_mk, useG_ft, useG_tf, put_some, put_none, dok_some, dok_none, upd_app, ev_tmp, ev_const, ev_func, cst_int, cst_bool, cst_string, cst_nil, tl_cons, tl_nil, args, aop_move, aop_assign, aop_pick, aop_alloc, aop_box, aop_build, aop_buildSlice, aop_load, aop_store, aop_nilCheck, aop_binOp, aop_unOp, aop_convert, aop_makeFunc, aop_makeSlice, aop_slice, aop_fieldAddr, aop_field, aop_indexAddr, aop_index, aop_extract, aop_builtin, aop_call, eBuiltin_len, eBuiltin_append, eBuiltin_min, eBuiltin_max, eMin_int, eMax_int, ePick_bool, eNil_pt, eNil_optr, eNil_fn, eUn_not, eUn_neg, bin_add, bin_sub, bin_mul, bin_quo, bin_rem, bin_eql, bin_neq, bin_lss, bin_leq, bin_gtr, bin_geq, bin_shl, bin_shr, bin_cat, bin_seq, bin_sne, eLen_sl, eLen_str, eLen_nil, eLen_osl, eLen_osub, fa_pt, ldX_false, ldX_true, ext_tup, box_agg, box_v, box_sl, box_osl, st_v, st_sl, st_osl, st_agg, pick_and, pick_or, if_and, if_or, pX_t, pX_f, un_mk, unT_app, unL_nil, unL_cons, gdL_nil, gdL_cons, allT_nil, allT_cons, un_gd, un_v, un_sl, un_pt, un_agg, un_tup, un_fn, un_osl, un_osub, un_optr, un_top, verOk_mk, liveOk_mk, iR_length, iR_get, iR_getE, retP_ret, retP_normal, resL_nil, resL_tmp, resL_cell, one_one, one_two, envOf, List.lookup_cons, eFn, eCall, pur_v, pur_b, pur_s, pur_nil, pur_sl, pur_oslE, pur_osubE, pur_optrE, pur_aggE, pur_fnE, shOb_mk, iR_sh, rowOf, putCells, splice, iR_set, iR_append, iR_inj, iR_pur, deIs_sl, deI_I, sh2, sh1, sh0, isPure, isP0, mf2, mf1, mf0, mfObs, and_assoc, Try.el22, Try.ok3, Try.sz3, Try.ag3, Try.by3, Try.hz3, Try.zc3, ix_sl _ _ _ _ _ _ Try.el22, ix_osl _ _ _ _ _ _ _ Try.el22, ld_pt1 _ _ _ Try.ag3, ld_op1 _ _ _ _ _ _ Try.ag3, bin_beq _ _ _ _ Try.un4, bin_bne _ _ _ _ Try.un4, ints, F37, F42, hl, hg, iOb]
    refine drawP_all _ (by decide) ?_
    simp -implicitDefEqProofs [↓awp_skip, ↓awp_seq, ↓awp_region, ↓awp_draw, ↓awp_cond, ↓awp_block, ↓awp_loop, ↓awp_exit, ↓awp_ret, ↓thenP_normal, ↓thenP_exit, ↓thenP_ret, ↓blockP_normal, ↓blockP_exit, ↓blockP_ret, ↓rgW_nil, ↓rgW_cons, ↓rgW_guard, brP_true, brP_false, brP_bool, guardP_bool, guardP_gd, gval, Eff.use_mk, Eff.useG_mk, useG_ft, useG_tf, put_some, put_none, dok_some, dok_none, upd_app, ev_tmp, ev_const, ev_func, cst_int, cst_bool, cst_string, cst_nil, tl_cons, tl_nil, args, aop_move, aop_assign, aop_pick, aop_alloc, aop_box, aop_build, aop_buildSlice, aop_load, aop_store, aop_nilCheck, aop_binOp, aop_unOp, aop_convert, aop_makeFunc, aop_makeSlice, aop_slice, aop_fieldAddr, aop_field, aop_indexAddr, aop_index, aop_extract, aop_builtin, aop_call, eBuiltin_len, eBuiltin_append, eBuiltin_min, eBuiltin_max, eMin_int, eMax_int, ePick_bool, eNil_pt, eNil_optr, eNil_fn, eUn_not, eUn_neg, bin_add, bin_sub, bin_mul, bin_quo, bin_rem, bin_eql, bin_neq, bin_lss, bin_leq, bin_gtr, bin_geq, bin_shl, bin_shr, bin_cat, bin_seq, bin_sne, eLen_sl, eLen_str, eLen_nil, eLen_osl, eLen_osub, fa_pt, ldX_false, ldX_true, ext_tup, box_agg, box_v, box_sl, box_osl, st_v, st_sl, st_osl, st_agg, pick_and, pick_or, if_and, if_or, pX_t, pX_f, un_mk, unT_app, unL_nil, unL_cons, gdL_nil, gdL_cons, allT_nil, allT_cons, un_gd, un_v, un_sl, un_pt, un_agg, un_tup, un_fn, un_osl, un_osub, un_optr, un_top, verOk_mk, liveOk_mk, iR_length, iR_get, iR_getE, retP_ret, retP_normal, resL_nil, resL_tmp, resL_cell, one_one, one_two, envOf, List.lookup_cons, eFn, eCall, pur_v, pur_b, pur_s, pur_nil, pur_sl, pur_oslE, pur_osubE, pur_optrE, pur_aggE, pur_fnE, shOb_mk, iR_sh, rowOf, putCells, splice, iR_set, iR_append, iR_inj, iR_pur, deIs_sl, deI_I, sh2, sh1, sh0, isPure, isP0, mf2, mf1, mf0, mfObs, and_assoc, ↓rgD_nil, ↓rgD_cons, ↓rgD_guard, aopD_move, aopD_assign, aopD_pick, aopD_build, aopD_load, aopD_nilCheck, aopD_binOp, aopD_unOp, aopD_convert, aopD_makeFunc, aopD_slice, aopD_fieldAddr, aopD_field, aopD_indexAddr, aopD_index, aopD_extract, aopD_len, aopD_min, aopD_max, aopD_call, eFnD_call, ↓rgZ_nil, ↓rgZ_cons, ↓List.getElem?_cons_zero, ↓List.getElem?_cons_succ, rgO_ch, rgO_fl, rgO_flg, free, againL_nil, againL_cons, aopD_buildSlice, Try.el22, Try.ok3, Try.sz3, Try.ag3, Try.by3, Try.hz3, Try.zc3, ix_sl _ _ _ _ _ _ Try.el22, ix_osl _ _ _ _ _ _ _ Try.el22, ld_pt1 _ _ _ Try.ag3, ld_op1 _ _ _ _ _ _ Try.ag3, bin_beq _ _ _ _ Try.un4, bin_bne _ _ _ _ Try.un4, h3, hw, h4, h5]
    refine fin_pure (by simp) ?_
    have e3 : (srt l)[l.length - 1] = mxI l := by rw [List.getElem?_eq_getElem (by omega)] at e1; injection e1
    have e4 : (srt l)[0] = mnI l := by rw [List.getElem?_eq_getElem (by omega)] at e2; injection e2
    simp [pur2_i, pur2_b, pur2_s, pur2_nil, pur2_sl, pur2_tup, rn2_tup, rn2_agg, rn2_osl, rn1_v, rn1_osl, rn1_agg, rn0_v, rn0_sl, rn0, pickObs, pur_v, pur_b, pur_s, pur_nil, pur_sl, deI, deIs_sl, F19, hg, e3, e4]
theorem c20 : GenC Try.prog 20 F19 := by
  refine contract Try.mix [(39, F37), (43, F43), (44, F44)] (by simp [c39, c43, c44]) Try.func20 rfl (by decide) ?_
  rintro xs ⟨l, rfl, hl⟩
  refine ⟨by rw [Try.ntmps20]; simp, ?_⟩
  cases hg : good l with
  | false =>
    simp -implicitDefEqProofs [bodyOf, Try.f20, ↓awp_skip, ↓awp_seq, ↓awp_region, ↓awp_draw, ↓awp_cond, ↓awp_block, ↓awp_loop, ↓awp_exit, ↓awp_ret, ↓thenP_normal, ↓thenP_exit, ↓thenP_ret, ↓blockP_normal, ↓blockP_exit, ↓blockP_ret, ↓rgW_nil, ↓rgW_cons, ↓rgW_guard, brP_true, brP_false, brP_bool, guardP_bool, guardP_gd, gval, Eff.use_mk, Eff.useG_mk, useG_ft, useG_tf, put_some, put_none, dok_some, dok_none, upd_app, ev_tmp, ev_const, ev_func, cst_int, cst_bool, cst_string, cst_nil, tl_cons, tl_nil, args, aop_move, aop_assign, aop_pick, aop_alloc, aop_box, aop_build, aop_buildSlice, aop_load, aop_store, aop_nilCheck, aop_binOp, aop_unOp, aop_convert, aop_makeFunc, aop_makeSlice, aop_slice, aop_fieldAddr, aop_field, aop_indexAddr, aop_index, aop_extract, aop_builtin, aop_call, eBuiltin_len, eBuiltin_append, eBuiltin_min, eBuiltin_max, eMin_int, eMax_int, ePick_bool, eNil_pt, eNil_optr, eNil_fn, eUn_not, eUn_neg, bin_add, bin_sub, bin_mul, bin_quo, bin_rem, bin_eql, bin_neq, bin_lss, bin_leq, bin_gtr, bin_geq, bin_shl, bin_shr, bin_cat, bin_seq, bin_sne, eLen_sl, eLen_str, eLen_nil, eLen_osl, eLen_osub, fa_pt, ldX_false, ldX_true, ext_tup, box_agg, box_v, box_sl, box_osl, st_v, st_sl, st_osl, st_agg, pick_and, pick_or, if_and, if_or, pX_t, pX_f, un_mk, unT_app, unL_nil, unL_cons, gdL_nil, gdL_cons, allT_nil, allT_cons, un_gd, un_v, un_sl, un_pt, un_agg, un_tup, un_fn, un_osl, un_osub, un_optr, un_top, verOk_mk, liveOk_mk, iR_length, iR_get, iR_getE, retP_ret, retP_normal, resL_nil, resL_tmp, resL_cell, one_one, one_two, envOf, List.lookup_cons, eFn, eCall, pur_v, pur_b, pur_s, pur_nil, pur_sl, pur_oslE, pur_osubE, pur_optrE, pur_aggE, pur_fnE, shOb_mk, iR_sh, rowOf, putCells, splice, iR_set, iR_append, iR_inj, iR_pur, deIs_sl, deI_I, sh2, sh1, sh0, isPure, isP0, mf2, mf1, mf0, mfObs, and_assoc, Try.el22, Try.ok3, Try.sz3, Try.ag3, Try.by3, Try.hz3, Try.zc3, ix_sl _ _ _ _ _ _ Try.el22, ix_osl _ _ _ _ _ _ _ Try.el22, ld_pt1 _ _ _ Try.ag3, ld_op1 _ _ _ _ _ _ Try.ag3, bin_beq _ _ _ _ Try.un4, bin_bne _ _ _ _ Try.un4, ints, F37, hl, hg]
    refine fin_pure (by simp) ?_
    simp [pur2_i, pur2_b, pur2_s, pur2_nil, pur2_sl, pur2_tup, rn2_tup, rn2_agg, rn2_osl, rn1_v, rn1_osl, rn1_agg, rn0_v, rn0_sl, rn0, pickObs, pur_v, pur_b, pur_s, pur_nil, pur_sl, deI, deIs_sl, F19, hg]
  | true =>
    have hlen := good_len hg
    have h5 : 0 < l.length := by omega
    simp -implicitDefEqProofs [bodyOf, Try.f20, ↓awp_skip, ↓awp_seq, ↓awp_region, ↓awp_draw, ↓awp_cond, ↓awp_block, ↓awp_loop, ↓awp_exit, ↓awp_ret, ↓thenP_normal, ↓thenP_exit, ↓thenP_ret, ↓blockP_normal, ↓blockP_exit, ↓blockP_ret, ↓rgW_nil, ↓rgW_cons, ↓rgW_guard, brP_true, brP_false, brP_bool, guardP_bool, guardP_gd, gval, Eff.use_mk, Eff.useG_mk, useG_ft, useG_tf, put_some, put_none, dok_some, dok_none, upd_app, ev_tmp, ev_const, ev_func, cst_int, cst_bool, cst_string, cst_nil, tl_cons, tl_nil, args, aop_move, aop_assign, aop_pick, aop_alloc, aop_box, aop_build, aop_buildSlice, aop_load, aop_store, aop_nilCheck, aop_binOp, aop_unOp, aop_convert, aop_makeFunc, aop_makeSlice, aop_slice, aop_fieldAddr, aop_field, aop_indexAddr, aop_index, aop_extract, aop_builtin, aop_call, eBuiltin_len, eBuiltin_append, eBuiltin_min, eBuiltin_max, eMin_int, eMax_int, ePick_bool, eNil_pt, eNil_optr, eNil_fn, eUn_not, eUn_neg, bin_add, bin_sub, bin_mul, bin_quo, bin_rem, bin_eql, bin_neq, bin_lss, bin_leq, bin_gtr, bin_geq, bin_shl, bin_shr, bin_cat, bin_seq, bin_sne, eLen_sl, eLen_str, eLen_nil, eLen_osl, eLen_osub, fa_pt, ldX_false, ldX_true, ext_tup, box_agg, box_v, box_sl, box_osl, st_v, st_sl, st_osl, st_agg, pick_and, pick_or, if_and, if_or, pX_t, pX_f, un_mk, unT_app, unL_nil, unL_cons, gdL_nil, gdL_cons, allT_nil, allT_cons, un_gd, un_v, un_sl, un_pt, un_agg, un_tup, un_fn, un_osl, un_osub, un_optr, un_top, verOk_mk, liveOk_mk, iR_length, iR_get, iR_getE, retP_ret, retP_normal, resL_nil, resL_tmp, resL_cell, one_one, one_two, envOf, List.lookup_cons, eFn, eCall, pur_v, pur_b, pur_s, pur_nil, pur_sl, pur_oslE, pur_osubE, pur_optrE, pur_aggE, pur_fnE, shOb_mk, iR_sh, rowOf, putCells, splice, iR_set, iR_append, iR_inj, iR_pur, deIs_sl, deI_I, sh2, sh1, sh0, isPure, isP0, mf2, mf1, mf0, mfObs, and_assoc, Try.el22, Try.ok3, Try.sz3, Try.ag3, Try.by3, Try.hz3, Try.zc3, ix_sl _ _ _ _ _ _ Try.el22, ix_osl _ _ _ _ _ _ _ Try.el22, ld_pt1 _ _ _ Try.ag3, ld_op1 _ _ _ _ _ _ Try.ag3, bin_beq _ _ _ _ Try.un4, bin_bne _ _ _ _ Try.un4, ints, F37, F43, F44, hl, hg, h5]
    refine fin_pure (by simp) ?_
    simp [pur2_i, pur2_b, pur2_s, pur2_nil, pur2_sl, pur2_tup, rn2_tup, rn2_agg, rn2_osl, rn1_v, rn1_osl, rn1_agg, rn0_v, rn0_sl, rn0, pickObs, pur_v, pur_b, pur_s, pur_nil, pur_sl, deI, deIs_sl, F19, hg]
theorem c5 : GenC Try.prog 5 FL1 := by
  refine contract Try.mix [(19, F19), (14, F14), (20, F19), (16, F16)] (by simp [c19, c14, c20, c16]) Try.func5 rfl (by decide) ?_
  rintro xs ⟨l, rfl, hin⟩
  refine ⟨by rw [Try.ntmps5]; simp, ?_⟩
  by_cases hl : l.length ≤ 1048576
  · have hl' : ¬ (1048576 : Int) < l.length := by omega
    simp -implicitDefEqProofs [bodyOf, Try.f5, ↓awp_skip, ↓awp_seq, ↓awp_region, ↓awp_draw, ↓awp_cond, ↓awp_block, ↓awp_loop, ↓awp_exit, ↓awp_ret, ↓thenP_normal, ↓thenP_exit, ↓thenP_ret, ↓blockP_normal, ↓blockP_exit, ↓blockP_ret, ↓rgW_nil, ↓rgW_cons, ↓rgW_guard, brP_true, brP_false, brP_bool, guardP_bool, guardP_gd, gval, Eff.use_mk, Eff.useG_mk, useG_ft, useG_tf, put_some, put_none, dok_some, dok_none, upd_app, ev_tmp, ev_const, ev_func, cst_int, cst_bool, cst_string, cst_nil, tl_cons, tl_nil, args, aop_move, aop_assign, aop_pick, aop_alloc, aop_box, aop_build, aop_buildSlice, aop_load, aop_store, aop_nilCheck, aop_binOp, aop_unOp, aop_convert, aop_makeFunc, aop_makeSlice, aop_slice, aop_fieldAddr, aop_field, aop_indexAddr, aop_index, aop_extract, aop_builtin, aop_call, eBuiltin_len, eBuiltin_append, eBuiltin_min, eBuiltin_max, eMin_int, eMax_int, ePick_bool, eNil_pt, eNil_optr, eNil_fn, eUn_not, eUn_neg, bin_add, bin_sub, bin_mul, bin_quo, bin_rem, bin_eql, bin_neq, bin_lss, bin_leq, bin_gtr, bin_geq, bin_shl, bin_shr, bin_cat, bin_seq, bin_sne, eLen_sl, eLen_str, eLen_nil, eLen_osl, eLen_osub, fa_pt, ldX_false, ldX_true, ext_tup, box_agg, box_v, box_sl, box_osl, st_v, st_sl, st_osl, st_agg, pick_and, pick_or, if_and, if_or, pX_t, pX_f, un_mk, unT_app, unL_nil, unL_cons, gdL_nil, gdL_cons, allT_nil, allT_cons, un_gd, un_v, un_sl, un_pt, un_agg, un_tup, un_fn, un_osl, un_osub, un_optr, un_top, verOk_mk, liveOk_mk, iR_length, iR_get, iR_getE, retP_ret, retP_normal, resL_nil, resL_tmp, resL_cell, one_one, one_two, envOf, List.lookup_cons, eFn, eCall, pur_v, pur_b, pur_s, pur_nil, pur_sl, pur_oslE, pur_osubE, pur_optrE, pur_aggE, pur_fnE, shOb_mk, iR_sh, rowOf, putCells, splice, iR_set, iR_append, iR_inj, iR_pur, deIs_sl, deI_I, sh2, sh1, sh0, isPure, isP0, mf2, mf1, mf0, mfObs, and_assoc, Try.el22, Try.ok3, Try.sz3, Try.ag3, Try.by3, Try.hz3, Try.zc3, ix_sl _ _ _ _ _ _ Try.el22, ix_osl _ _ _ _ _ _ _ Try.el22, ld_pt1 _ _ _ Try.ag3, ld_op1 _ _ _ _ _ _ Try.ag3, bin_beq _ _ _ _ Try.un4, bin_bne _ _ _ _ Try.un4, ints, F14, F19, F16, hl, hl', iOb]
    refine fin_pure (by simp) ?_
    simp [pur2_i, pur2_b, pur2_s, pur2_nil, pur2_sl, pur2_tup, rn2_tup, rn2_agg, rn2_osl, rn1_v, rn1_osl, rn1_agg, rn0_v, rn0_sl, rn0, pickObs, pur_v, pur_b, pur_s, pur_nil, pur_sl, deI, deIs_sl, FL1]
  · have hl' : (1048576 : Int) < l.length := by omega
    simp -implicitDefEqProofs [bodyOf, Try.f5, ↓awp_skip, ↓awp_seq, ↓awp_region, ↓awp_draw, ↓awp_cond, ↓awp_block, ↓awp_loop, ↓awp_exit, ↓awp_ret, ↓thenP_normal, ↓thenP_exit, ↓thenP_ret, ↓blockP_normal, ↓blockP_exit, ↓blockP_ret, ↓rgW_nil, ↓rgW_cons, ↓rgW_guard, brP_true, brP_false, brP_bool, guardP_bool, guardP_gd, gval, Eff.use_mk, Eff.useG_mk, useG_ft, useG_tf, put_some, put_none, dok_some, dok_none, upd_app, ev_tmp, ev_const, ev_func, cst_int, cst_bool, cst_string, cst_nil, tl_cons, tl_nil, args, aop_move, aop_assign, aop_pick, aop_alloc, aop_box, aop_build, aop_buildSlice, aop_load, aop_store, aop_nilCheck, aop_binOp, aop_unOp, aop_convert, aop_makeFunc, aop_makeSlice, aop_slice, aop_fieldAddr, aop_field, aop_indexAddr, aop_index, aop_extract, aop_builtin, aop_call, eBuiltin_len, eBuiltin_append, eBuiltin_min, eBuiltin_max, eMin_int, eMax_int, ePick_bool, eNil_pt, eNil_optr, eNil_fn, eUn_not, eUn_neg, bin_add, bin_sub, bin_mul, bin_quo, bin_rem, bin_eql, bin_neq, bin_lss, bin_leq, bin_gtr, bin_geq, bin_shl, bin_shr, bin_cat, bin_seq, bin_sne, eLen_sl, eLen_str, eLen_nil, eLen_osl, eLen_osub, fa_pt, ldX_false, ldX_true, ext_tup, box_agg, box_v, box_sl, box_osl, st_v, st_sl, st_osl, st_agg, pick_and, pick_or, if_and, if_or, pX_t, pX_f, un_mk, unT_app, unL_nil, unL_cons, gdL_nil, gdL_cons, allT_nil, allT_cons, un_gd, un_v, un_sl, un_pt, un_agg, un_tup, un_fn, un_osl, un_osub, un_optr, un_top, verOk_mk, liveOk_mk, iR_length, iR_get, iR_getE, retP_ret, retP_normal, resL_nil, resL_tmp, resL_cell, one_one, one_two, envOf, List.lookup_cons, eFn, eCall, pur_v, pur_b, pur_s, pur_nil, pur_sl, pur_oslE, pur_osubE, pur_optrE, pur_aggE, pur_fnE, shOb_mk, iR_sh, rowOf, putCells, splice, iR_set, iR_append, iR_inj, iR_pur, deIs_sl, deI_I, sh2, sh1, sh0, isPure, isP0, mf2, mf1, mf0, mfObs, and_assoc, Try.el22, Try.ok3, Try.sz3, Try.ag3, Try.by3, Try.hz3, Try.zc3, ix_sl _ _ _ _ _ _ Try.el22, ix_osl _ _ _ _ _ _ _ Try.el22, ld_pt1 _ _ _ Try.ag3, ld_op1 _ _ _ _ _ _ Try.ag3, bin_beq _ _ _ _ Try.un4, bin_bne _ _ _ _ Try.un4, ints, hl']
    refine fin_pure (by simp) ?_
    simp [pur2_i, pur2_b, pur2_s, pur2_nil, pur2_sl, pur2_tup, rn2_tup, rn2_agg, rn2_osl, rn1_v, rn1_osl, rn1_agg, rn0_v, rn0_sl, rn0, pickObs, pur_v, pur_b, pur_s, pur_nil, pur_sl, deI, deIs_sl, FL1]
end Go.Proofs
