/-
  What is proved here: contracts of the functions that the law of FairShares reaches, and of that law itself. Condition: none.
-/
import Derived.Test.YtlbeedbkafjfcaaSA7b
import Derived.Test.YtlbeedbkafjfcaaAbs18
import Derived.KernelRfl
namespace Go.Proofs
open Go.Abs
set_option linter.unusedSimpArgs false
set_option maxHeartbeats 4000000

theorem Try.ok22 : okT Try.prog 22 = true := by kernel_rfl
theorem Try.ag22 : isAg Try.prog 22 = false := by kernel_rfl
/-! ### the plain law -/
def lvl (d : List Int) (n : Int) : List Int := d.map fun x => if n < x then n else x
theorem lvl_len (d : List Int) (n : Int) : (lvl d n).length = d.length := by simp [lvl]
theorem lvl_get (d : List Int) (n : Int) (i : Nat) (h : i < d.length) : (lvl d n)[i]'(by rw [lvl_len]; exact h) = if n < d[i] then n else d[i] := by simp [lvl]
theorem lvl_take (d : List Int) (n : Int) (k : Nat) (h : k < d.length) : lvl (d.take (k + 1)) n = lvl (d.take k) n ++ [if n < d[k] then n else d[k]] := by
  rw [take_succ' d k h]; simp only [lvl, List.map_append, List.map_cons, List.map_nil]
theorem lst_lvl (x n : Int) : lst x n = if n < x then n else x := by unfold lst; split <;> split <;> omega
theorem lvl_good {d : List Int} (h : good d = true) {n : Int} (hn : 0 ≤ n) : good (lvl d n) = true := by
  have h1 := good_len h
  have h2 := good_all h
  simp only [good, rng, lvl_len, Bool.and_eq_true, decide_eq_true_eq, List.all_eq_true]
  refine ⟨by omega, fun x hx => ?_⟩
  simp only [lvl, List.mem_map] at hx
  obtain ⟨y, hy, rfl⟩ := hx
  have := h2 y hy
  split <;> omega
theorem wsum_sum {l : List Int} (h : good l = true) : ∀ k, k ≤ l.length → wsum (l.take k) = (l.take k).sum
  | 0, _ => by simp [wsum]
  | k + 1, hk => by
    have hl := good_len h
    have hx := good_all h l[k] (List.getElem_mem (by omega))
    have hb := wsum_b h k (by omega)
    rw [wsum_take l k (by omega), w64 (by omega) (by omega), wsum_sum h k (by omega), take_succ' l k (by omega), List.sum_append]
    simp
theorem wsum_sum' {l : List Int} (h : good l = true) : wsum l = l.sum := by
  have := wsum_sum h l.length (Nat.le_refl _)
  rwa [List.take_length] at this
theorem sum_mono (d : List Int) {n m : Int} (h : n ≤ m) : (lvl d n).sum ≤ (lvl d m).sum := by
  induction d with
  | nil => simp [lvl]
  | cons x d ih =>
    simp only [lvl, List.map_cons, List.sum_cons] at ih ⊢
    split <;> split <;> omega
theorem S_mono {d : List Int} (h : good d = true) {n m : Int} (h0 : 0 ≤ n) (hm : n ≤ m) : wsum (lvl d n) ≤ wsum (lvl d m) := by
  rw [wsum_sum' (lvl_good h h0), wsum_sum' (lvl_good h (by omega))]
  exact sum_mono d hm
theorem lvl_top {d : List Int} {n : Int} (h : ∀ x ∈ d, x ≤ n) : lvl d n = d := by
  unfold lvl
  conv => rhs; rw [← List.map_id d]
  refine List.map_congr_left fun x hx => ?_
  have := h x hx
  rw [if_neg (by omega)]; rfl
theorem S_zero {d : List Int} (h : good d = true) : wsum (lvl d 0) = 0 := by
  rw [wsum_sum' (lvl_good h (Int.le_refl _))]
  have h2 := good_all h
  clear h
  induction d with
  | nil => simp [lvl]
  | cons x d ih =>
    have := h2 x (by simp)
    have ih' := ih fun n hn => h2 n (by simp [hn])
    simp only [lvl, List.map_cons, List.sum_cons] at ih' ⊢
    rw [ih']
    split <;> omega

def firstP (p : Nat → Bool) (N : Nat) : Nat := ((List.range N).find? p).getD N
theorem firstP_eq {p : Nat → Bool} {N r : Nat} (hr : r ≤ N) (h1 : ∀ i, i < r → p i = false) (h2 : r < N → p r = true) : firstP p N = r := by
  unfold firstP
  cases hf : (List.range N).find? p with
  | none =>
    rw [List.find?_eq_none] at hf
    rcases Nat.lt_or_ge r N with h | h
    · exact absurd (h2 h) (hf r (by simpa using h))
    · show N = r; omega
  | some a =>
    rw [List.find?_range_eq_some] at hf
    obtain ⟨a1, a2, a3⟩ := hf
    show a = r
    rcases Nat.lt_trichotomy a r with h | h | h
    · rw [h1 a h] at a1; cases a1
    · exact h
    · have := a3 r h
      rw [h2 (by simp at a2; omega)] at this
      simp at this
def over (d : List Int) (c : Int) (n : Nat) : Bool := decide (c < wsum (lvl d n))
def lv (d : List Int) (c : Int) : Int := (firstP (over d c) 1000001 : Nat) - 1

def halves (d : List Int) (c : Int) : Nat → Nat → Nat
  | 0, L => L
  | n + 1, L => halves d c n (if wsum (lvl d ((L + 2 ^ n : Nat) : Int)) ≤ c then L + 2 ^ n else L)
theorem halves_prop (d : List Int) (c : Int) : ∀ n L : Nat, wsum (lvl d (L : Int)) ≤ c → halves d c n L ≤ L + 2 ^ n - 1 ∧ wsum (lvl d (halves d c n L : Int)) ≤ c ∧ (halves d c n L = L + 2 ^ n - 1 ∨ c < wsum (lvl d ((halves d c n L + 1 : Nat) : Int)))
  | 0, L, h => by simp [halves, h]
  | n + 1, L, h => by
    have hp : 2 ^ (n + 1) = 2 ^ n + 2 ^ n := by rw [Nat.pow_succ]; omega
    have h0 : 0 < 2 ^ n := Nat.pos_of_ne_zero (by simp)
    simp only [halves]
    split
    · rename_i h1
      obtain ⟨a1, a2, a3⟩ := halves_prop d c n (L + 2 ^ n) h1
      refine ⟨by omega, a2, ?_⟩
      rcases a3 with a3 | a3
      · exact .inl (by omega)
      · exact .inr a3
    · rename_i h1
      obtain ⟨a1, a2, a3⟩ := halves_prop d c n L h
      refine ⟨by omega, a2, .inr ?_⟩
      rcases a3 with a3 | a3
      · have e : halves d c n L + 1 = L + 2 ^ n := by omega
        rw [e]; omega
      · exact a3

def giv (t : Nat → Bool) (o : List Int) (l : Int) : Nat → List Int × Int
  | 0 => (o, l)
  | i + 1 => if 0 < (giv t o l i).2 ∧ t i = true then ((giv t o l i).1.set i (IntKind.i64.wrap ((giv t o l i).1.getD i 0 + 1)), IntKind.i64.wrap ((giv t o l i).2 - 1)) else giv t o l i
theorem giv_len (t : Nat → Bool) (o : List Int) (l : Int) : ∀ i, (giv t o l i).1.length = o.length
  | 0 => rfl
  | i + 1 => by
    simp only [giv]
    split
    · simp [giv_len t o l i]
    · exact giv_len t o l i
theorem giv_get (t : Nat → Bool) (o : List Int) (l : Int) : ∀ i j, i ≤ j → (giv t o l i).1.getD j 0 = o.getD j 0
  | 0, j, _ => rfl
  | i + 1, j, h => by
    simp only [giv]
    split
    · simp only [List.getD_eq_getElem?_getD]
      rw [List.getElem?_set_ne (by omega)]
      simpa only [List.getD_eq_getElem?_getD] using giv_get t o l i j (by omega)
    · exact giv_get t o l i j (by omega)
theorem giv_none (o : List Int) (l : Int) {t : Nat → Bool} : ∀ i, (∀ j, j < i → t j = false) → giv t o l i = (o, l)
  | 0, _ => rfl
  | i + 1, h => by
    simp only [giv]
    rw [if_neg (by rw [h i (by omega)]; simp)]
    exact giv_none o l i fun j hj => h j (by omega)
def shares (d : List Int) (c L : Int) : List Int := (giv (fun i => decide (L < d.getD i 0)) (lvl d L) (IntKind.i64.wrap (c - wsum (lvl d L))) d.length).1
theorem shares_top {d : List Int} {c L : Int} (h : ∀ x ∈ d, x ≤ L) : shares d c L = d := by
  unfold shares
  rw [lvl_top h, giv_none]
  intro j hj
  have : d.getD j 0 = d[j] := by simp [List.getD, hj]
  rw [this]
  have := h d[j] (List.getElem_mem hj)
  simp; omega
theorem shares_eq {d : List Int} {c : Int} (hg : good d = true) (hc : 0 ≤ c) : shares d c (halves d c 21 0 : Nat) = shares d c (lv d c) := by
  obtain ⟨h1, h2, h3⟩ := halves_prop d c 21 0 (by show wsum (lvl d 0) ≤ c; rw [S_zero hg]; exact hc)
  have hall := good_all hg
  generalize hR : halves d c 21 0 = R at h1 h2 h3
  by_cases hA : wsum d ≤ c
  · have hS : ∀ n : Nat, wsum (lvl d (n : Int)) ≤ c := by
      intro n
      have := S_mono (d := d) hg (n := n) (m := max n 1000000) (by omega) (by omega)
      rw [lvl_top (n := max (n : Int) 1000000) (fun x hx => by have := hall x hx; omega)] at this
      omega
    have e1 : lv d c = 1000000 := by
      unfold lv
      rw [firstP_eq (r := 1000001) (Nat.le_refl _) (fun i _ => by have := hS i; simp [over]; omega) (by omega)]
      rfl
    have e2 : R = 2097151 := by
      rcases h3 with h3 | h3
      · simpa using h3
      · have := hS (R + 1); omega
    rw [e1, e2, shares_top (fun x hx => by have := hall x hx; omega), shares_top (fun x hx => (hall x hx).2)]
  · have hex : ∃ n, n ≤ 1000000 ∧ over d c n = true := ⟨1000000, Nat.le_refl _, by simp only [over, decide_eq_true_eq]; rw [lvl_top (fun x hx => by have := hall x hx; omega)]; omega⟩
    have hl : lv d c = R := by
      unfold lv
      rw [firstP_eq (r := R + 1)]
      · omega
      · rcases h3 with h3 | h3
        · exfalso
          have e : R = 2097151 := by simpa using h3
          rw [e, lvl_top (fun x hx => by have := hall x hx; omega)] at h2
          omega
        · rcases Nat.lt_or_ge R 1000001 with h | h
          · omega
          · exfalso
            rw [lvl_top (fun x hx => by have := hall x hx; omega)] at h2
            omega
      · intro i hi
        have := S_mono (d := d) hg (n := i) (m := R) (by omega) (by omega)
        simp [over]; omega
      · intro hlt
        rcases h3 with h3 | h3
        · exfalso
          have e : R = 2097151 := by simpa using h3
          omega
        · simpa [over] using h3
    rw [hl]

/-! ### the walks -/
def F52 : Fun := ⟨fun xs => ∃ d n, xs = [ints d, I n] ∧ d.length ≤ 1048576, fun xs => (.osl 0 0, [iOb (lvl (deIs (xs.getD 0 .top)) (deI (xs.getD 1 .top)))])⟩
theorem c52 : GenC Try.prog 52 F52 := by
  refine contract Try.mix [(49, F49)] (by simp [c49]) Try.func52 rfl (by decide) ?_
  rintro xs ⟨d, n, rfl, hd⟩
  refine ⟨by rw [Try.ntmps52]; simp, ?_⟩
  simp -implicitDefEqProofs [bodyOf, Try.f52, ↓awp_skip, ↓awp_seq, ↓awp_region, ↓awp_draw, ↓awp_cond, ↓awp_block, ↓awp_loop, ↓awp_exit, ↓awp_ret, ↓thenP_normal, ↓thenP_exit, ↓thenP_ret, ↓blockP_normal, ↓blockP_exit, ↓blockP_ret, ↓rgW_nil, ↓rgW_cons, ↓rgW_guard, brP_true, brP_false, brP_bool, guardP_bool, guardP_gd, gval, Eff.use_mk, Eff.useG_mk, useG_ft, useG_tf, put_some, put_none, dok_some, dok_none, upd_app, ev_tmp, ev_const, ev_func, cst_int, cst_bool, cst_string, cst_nil, tl_cons, tl_nil, args, aop_move, aop_assign, aop_pick, aop_alloc, aop_box, aop_build, aop_buildSlice, aop_load, aop_store, aop_nilCheck, aop_binOp, aop_unOp, aop_convert, aop_makeFunc, aop_makeSlice, aop_slice, aop_fieldAddr, aop_field, aop_indexAddr, aop_index, aop_extract, aop_builtin, aop_call, eBuiltin_len, eBuiltin_append, eBuiltin_min, eBuiltin_max, eMin_int, eMax_int, ePick_bool, eNil_pt, eNil_optr, eNil_fn, eUn_not, eUn_neg, bin_add, bin_sub, bin_mul, bin_quo, bin_rem, bin_eql, bin_neq, bin_lss, bin_leq, bin_gtr, bin_geq, bin_shl, bin_shr, bin_cat, bin_seq, bin_sne, eLen_sl, eLen_str, eLen_nil, eLen_osl, eLen_osub, fa_pt, ldX_false, ldX_true, ext_tup, box_agg, box_v, box_sl, box_osl, st_v, st_sl, st_osl, st_agg, pick_and, pick_or, if_and, if_or, pX_t, pX_f, un_mk, unT_app, unL_nil, unL_cons, gdL_nil, gdL_cons, allT_nil, allT_cons, un_gd, un_v, un_sl, un_pt, un_agg, un_tup, un_fn, un_osl, un_osub, un_optr, un_top, verOk_mk, liveOk_mk, iR_length, iR_get, iR_getE, retP_ret, retP_normal, retM_ret, retM_normal, pinl_nil, pinl_cons, envM, eCallM, pickK, mArgs, mPure, setObs, rb2, rb1, rb0, verOf, rn0, pickObs, resL_nil, resL_tmp, resL_cell, one_one, one_two, envOf, List.lookup_cons, eFn, eCall, pur_v, pur_b, pur_s, pur_nil, pur_sl, pur_oslE, pur_osubE, pur_optrE, pur_aggE, pur_fnE, shOb_mk, iR_sh, rowOf, putCells, splice, iR_set, iR_append, iR_inj, iR_pur, deIs_sl, deI_I, sh2, sh1, sh0, isPure, isP0, mf2, mf1, mf0, mfObs, and_assoc, Try.el22, Try.ok3, Try.sz3, Try.ag3, Try.by3, Try.hz3, Try.zc3, ix_sl _ _ _ _ _ _ Try.el22, ix_osl _ _ _ _ _ _ _ Try.el22, ld_pt1 _ _ _ Try.ag3, ld_op1 _ _ _ _ _ _ Try.ag3, bin_beq _ _ _ _ Try.un4, bin_bne _ _ _ _ Try.un4, ints]
  refine loopP_inv (fun k : Nat => ⟨22, tl [(1, I n), (5, .osl 0 0), (8, .sl (iR d)), (9, I d.length), (10, I k)], [iOb (lvl (d.take k) n)]⟩) (fun k => k ≤ d.length) (fun k => d.length - k) 0 (Nat.zero_le _) (Wk.tlN (h := []) 3 1 5 (by simp [upd]) (by simp [hold, upd, tl_cons])) ?_
  intro k hk
  by_cases h : k < d.length
  · have hlen : (lvl (d.take k) n).length = k := by rw [lvl_len]; simp; omega
    simp -implicitDefEqProofs [↓awp_skip, ↓awp_seq, ↓awp_region, ↓awp_draw, ↓awp_cond, ↓awp_block, ↓awp_loop, ↓awp_exit, ↓awp_ret, ↓thenP_normal, ↓thenP_exit, ↓thenP_ret, ↓blockP_normal, ↓blockP_exit, ↓blockP_ret, ↓rgW_nil, ↓rgW_cons, ↓rgW_guard, brP_true, brP_false, brP_bool, guardP_bool, guardP_gd, gval, Eff.use_mk, Eff.useG_mk, useG_ft, useG_tf, put_some, put_none, dok_some, dok_none, upd_app, ev_tmp, ev_const, ev_func, cst_int, cst_bool, cst_string, cst_nil, tl_cons, tl_nil, args, aop_move, aop_assign, aop_pick, aop_alloc, aop_box, aop_build, aop_buildSlice, aop_load, aop_store, aop_nilCheck, aop_binOp, aop_unOp, aop_convert, aop_makeFunc, aop_makeSlice, aop_slice, aop_fieldAddr, aop_field, aop_indexAddr, aop_index, aop_extract, aop_builtin, aop_call, eBuiltin_len, eBuiltin_append, eBuiltin_min, eBuiltin_max, eMin_int, eMax_int, ePick_bool, eNil_pt, eNil_optr, eNil_fn, eUn_not, eUn_neg, bin_add, bin_sub, bin_mul, bin_quo, bin_rem, bin_eql, bin_neq, bin_lss, bin_leq, bin_gtr, bin_geq, bin_shl, bin_shr, bin_cat, bin_seq, bin_sne, eLen_sl, eLen_str, eLen_nil, eLen_osl, eLen_osub, fa_pt, ldX_false, ldX_true, ext_tup, box_agg, box_v, box_sl, box_osl, st_v, st_sl, st_osl, st_agg, pick_and, pick_or, if_and, if_or, pX_t, pX_f, un_mk, unT_app, unL_nil, unL_cons, gdL_nil, gdL_cons, allT_nil, allT_cons, un_gd, un_v, un_sl, un_pt, un_agg, un_tup, un_fn, un_osl, un_osub, un_optr, un_top, verOk_mk, liveOk_mk, iR_length, iR_get, iR_getE, retP_ret, retP_normal, retM_ret, retM_normal, pinl_nil, pinl_cons, envM, eCallM, pickK, mArgs, mPure, setObs, rb2, rb1, rb0, verOf, rn0, pickObs, resL_nil, resL_tmp, resL_cell, one_one, one_two, envOf, List.lookup_cons, eFn, eCall, pur_v, pur_b, pur_s, pur_nil, pur_sl, pur_oslE, pur_osubE, pur_optrE, pur_aggE, pur_fnE, shOb_mk, iR_sh, rowOf, putCells, splice, iR_set, iR_append, iR_inj, iR_pur, deIs_sl, deI_I, sh2, sh1, sh0, isPure, isP0, mf2, mf1, mf0, mfObs, and_assoc, Try.el22, Try.ok3, Try.sz3, Try.ag3, Try.by3, Try.hz3, Try.zc3, ix_sl _ _ _ _ _ _ Try.el22, ix_osl _ _ _ _ _ _ _ Try.el22, ld_pt1 _ _ _ Try.ag3, ld_op1 _ _ _ _ _ _ Try.ag3, bin_beq _ _ _ _ Try.un4, bin_bne _ _ _ _ Try.un4, h, iOb, F49, eBuildSlice, fillX, chunk, eAppend, srcRows, srcOk, plain, isV, cellsX, iR_take, iR_drop, iR_rows, iR_sing, hlen]
    refine ⟨by omega, by omega, k + 1, by omega, by omega, Wk.tlP [0] (by simp [pickOk, -List.all_eq_true, iR_ok, ok0]) ?_ ?_⟩
    · rw [lvl_take d n k h]; simp [pickObs, iOb, lst_lvl, iR_cons]
    · simp [hold, upd, tl_cons, rn1, rn0, w64_nat (show k < 4611686018427387904 by omega)]
  · simp -implicitDefEqProofs [↓awp_skip, ↓awp_seq, ↓awp_region, ↓awp_draw, ↓awp_cond, ↓awp_block, ↓awp_loop, ↓awp_exit, ↓awp_ret, ↓thenP_normal, ↓thenP_exit, ↓thenP_ret, ↓blockP_normal, ↓blockP_exit, ↓blockP_ret, ↓rgW_nil, ↓rgW_cons, ↓rgW_guard, brP_true, brP_false, brP_bool, guardP_bool, guardP_gd, gval, Eff.use_mk, Eff.useG_mk, useG_ft, useG_tf, put_some, put_none, dok_some, dok_none, upd_app, ev_tmp, ev_const, ev_func, cst_int, cst_bool, cst_string, cst_nil, tl_cons, tl_nil, args, aop_move, aop_assign, aop_pick, aop_alloc, aop_box, aop_build, aop_buildSlice, aop_load, aop_store, aop_nilCheck, aop_binOp, aop_unOp, aop_convert, aop_makeFunc, aop_makeSlice, aop_slice, aop_fieldAddr, aop_field, aop_indexAddr, aop_index, aop_extract, aop_builtin, aop_call, eBuiltin_len, eBuiltin_append, eBuiltin_min, eBuiltin_max, eMin_int, eMax_int, ePick_bool, eNil_pt, eNil_optr, eNil_fn, eUn_not, eUn_neg, bin_add, bin_sub, bin_mul, bin_quo, bin_rem, bin_eql, bin_neq, bin_lss, bin_leq, bin_gtr, bin_geq, bin_shl, bin_shr, bin_cat, bin_seq, bin_sne, eLen_sl, eLen_str, eLen_nil, eLen_osl, eLen_osub, fa_pt, ldX_false, ldX_true, ext_tup, box_agg, box_v, box_sl, box_osl, st_v, st_sl, st_osl, st_agg, pick_and, pick_or, if_and, if_or, pX_t, pX_f, un_mk, unT_app, unL_nil, unL_cons, gdL_nil, gdL_cons, allT_nil, allT_cons, un_gd, un_v, un_sl, un_pt, un_agg, un_tup, un_fn, un_osl, un_osub, un_optr, un_top, verOk_mk, liveOk_mk, iR_length, iR_get, iR_getE, retP_ret, retP_normal, retM_ret, retM_normal, pinl_nil, pinl_cons, envM, eCallM, pickK, mArgs, mPure, setObs, rb2, rb1, rb0, verOf, rn0, pickObs, resL_nil, resL_tmp, resL_cell, one_one, one_two, envOf, List.lookup_cons, eFn, eCall, pur_v, pur_b, pur_s, pur_nil, pur_sl, pur_oslE, pur_osubE, pur_optrE, pur_aggE, pur_fnE, shOb_mk, iR_sh, rowOf, putCells, splice, iR_set, iR_append, iR_inj, iR_pur, deIs_sl, deI_I, sh2, sh1, sh0, isPure, isP0, mf2, mf1, mf0, mfObs, and_assoc, Try.el22, Try.ok3, Try.sz3, Try.ag3, Try.by3, Try.hz3, Try.zc3, ix_sl _ _ _ _ _ _ Try.el22, ix_osl _ _ _ _ _ _ _ Try.el22, ld_pt1 _ _ _ Try.ag3, ld_op1 _ _ _ _ _ _ Try.ag3, bin_beq _ _ _ _ Try.un4, bin_bne _ _ _ _ Try.un4, h, iOb]
    rw [List.take_of_length_le (by omega)]
    refine fin_own [0] (by simp [pickOk, -List.all_eq_true, iR_ok]) ?_
    simp [pur2_i, pur2_b, pur2_s, pur2_nil, pur2_sl, pur2_tup, rn2_tup, rn2_agg, rn2_osl, rn1_v, rn1_osl, rn1_agg, rn0_v, rn0_sl, rn0, pickObs, pur_v, pur_b, pur_s, pur_nil, pur_sl, deI, deIs_sl, F52, iOb]
theorem c55 : GenC Try.prog 55 F52 := by
  refine contract Try.mix [] (by simp) Try.func55 rfl (by decide) ?_
  rintro xs ⟨d, n, rfl, hd⟩
  refine ⟨by rw [Try.ntmps55]; simp, ?_⟩
  simp -implicitDefEqProofs [bodyOf, Try.f55, ↓awp_skip, ↓awp_seq, ↓awp_region, ↓awp_draw, ↓awp_cond, ↓awp_block, ↓awp_loop, ↓awp_exit, ↓awp_ret, ↓thenP_normal, ↓thenP_exit, ↓thenP_ret, ↓blockP_normal, ↓blockP_exit, ↓blockP_ret, ↓rgW_nil, ↓rgW_cons, ↓rgW_guard, brP_true, brP_false, brP_bool, guardP_bool, guardP_gd, gval, Eff.use_mk, Eff.useG_mk, useG_ft, useG_tf, put_some, put_none, dok_some, dok_none, upd_app, ev_tmp, ev_const, ev_func, cst_int, cst_bool, cst_string, cst_nil, tl_cons, tl_nil, args, aop_move, aop_assign, aop_pick, aop_alloc, aop_box, aop_build, aop_buildSlice, aop_load, aop_store, aop_nilCheck, aop_binOp, aop_unOp, aop_convert, aop_makeFunc, aop_makeSlice, aop_slice, aop_fieldAddr, aop_field, aop_indexAddr, aop_index, aop_extract, aop_builtin, aop_call, eBuiltin_len, eBuiltin_append, eBuiltin_min, eBuiltin_max, eMin_int, eMax_int, ePick_bool, eNil_pt, eNil_optr, eNil_fn, eUn_not, eUn_neg, bin_add, bin_sub, bin_mul, bin_quo, bin_rem, bin_eql, bin_neq, bin_lss, bin_leq, bin_gtr, bin_geq, bin_shl, bin_shr, bin_cat, bin_seq, bin_sne, eLen_sl, eLen_str, eLen_nil, eLen_osl, eLen_osub, fa_pt, ldX_false, ldX_true, ext_tup, box_agg, box_v, box_sl, box_osl, st_v, st_sl, st_osl, st_agg, pick_and, pick_or, if_and, if_or, pX_t, pX_f, un_mk, unT_app, unL_nil, unL_cons, gdL_nil, gdL_cons, allT_nil, allT_cons, un_gd, un_v, un_sl, un_pt, un_agg, un_tup, un_fn, un_osl, un_osub, un_optr, un_top, verOk_mk, liveOk_mk, iR_length, iR_get, iR_getE, retP_ret, retP_normal, retM_ret, retM_normal, pinl_nil, pinl_cons, envM, eCallM, pickK, mArgs, mPure, setObs, rb2, rb1, rb0, verOf, rn0, pickObs, resL_nil, resL_tmp, resL_cell, one_one, one_two, envOf, List.lookup_cons, eFn, eCall, pur_v, pur_b, pur_s, pur_nil, pur_sl, pur_oslE, pur_osubE, pur_optrE, pur_aggE, pur_fnE, shOb_mk, iR_sh, rowOf, putCells, splice, iR_set, iR_append, iR_inj, iR_pur, deIs_sl, deI_I, sh2, sh1, sh0, isPure, isP0, mf2, mf1, mf0, mfObs, and_assoc, Try.el22, Try.ok3, Try.sz3, Try.ag3, Try.by3, Try.hz3, Try.zc3, ix_sl _ _ _ _ _ _ Try.el22, ix_osl _ _ _ _ _ _ _ Try.el22, ld_pt1 _ _ _ Try.ag3, ld_op1 _ _ _ _ _ _ Try.ag3, bin_beq _ _ _ _ Try.un4, bin_bne _ _ _ _ Try.un4, ints, eBuildSlice, fillX, chunk, plain]
  refine loopP_inv (fun k : Nat => ⟨23, tl [(1, I n), (5, .osl 0 0), (9, .sl (iR d)), (10, I d.length), (11, I k)], [iOb (lvl (d.take k) n)]⟩) (fun k => k ≤ d.length) (fun k => d.length - k) 0 (Nat.zero_le _) (Wk.tl (by simp [hold, upd, tl_cons])) ?_
  intro k hk
  by_cases h : k < d.length
  · have hlen : (lvl (d.take k) n).length = k := by rw [lvl_len]; simp; omega
    simp -implicitDefEqProofs [↓awp_skip, ↓awp_seq, ↓awp_region, ↓awp_draw, ↓awp_cond, ↓awp_block, ↓awp_loop, ↓awp_exit, ↓awp_ret, ↓thenP_normal, ↓thenP_exit, ↓thenP_ret, ↓blockP_normal, ↓blockP_exit, ↓blockP_ret, ↓rgW_nil, ↓rgW_cons, ↓rgW_guard, brP_true, brP_false, brP_bool, guardP_bool, guardP_gd, gval, Eff.use_mk, Eff.useG_mk, useG_ft, useG_tf, put_some, put_none, dok_some, dok_none, upd_app, ev_tmp, ev_const, ev_func, cst_int, cst_bool, cst_string, cst_nil, tl_cons, tl_nil, args, aop_move, aop_assign, aop_pick, aop_alloc, aop_box, aop_build, aop_buildSlice, aop_load, aop_store, aop_nilCheck, aop_binOp, aop_unOp, aop_convert, aop_makeFunc, aop_makeSlice, aop_slice, aop_fieldAddr, aop_field, aop_indexAddr, aop_index, aop_extract, aop_builtin, aop_call, eBuiltin_len, eBuiltin_append, eBuiltin_min, eBuiltin_max, eMin_int, eMax_int, ePick_bool, eNil_pt, eNil_optr, eNil_fn, eUn_not, eUn_neg, bin_add, bin_sub, bin_mul, bin_quo, bin_rem, bin_eql, bin_neq, bin_lss, bin_leq, bin_gtr, bin_geq, bin_shl, bin_shr, bin_cat, bin_seq, bin_sne, eLen_sl, eLen_str, eLen_nil, eLen_osl, eLen_osub, fa_pt, ldX_false, ldX_true, ext_tup, box_agg, box_v, box_sl, box_osl, st_v, st_sl, st_osl, st_agg, pick_and, pick_or, if_and, if_or, pX_t, pX_f, un_mk, unT_app, unL_nil, unL_cons, gdL_nil, gdL_cons, allT_nil, allT_cons, un_gd, un_v, un_sl, un_pt, un_agg, un_tup, un_fn, un_osl, un_osub, un_optr, un_top, verOk_mk, liveOk_mk, iR_length, iR_get, iR_getE, retP_ret, retP_normal, retM_ret, retM_normal, pinl_nil, pinl_cons, envM, eCallM, pickK, mArgs, mPure, setObs, rb2, rb1, rb0, verOf, rn0, pickObs, resL_nil, resL_tmp, resL_cell, one_one, one_two, envOf, List.lookup_cons, eFn, eCall, pur_v, pur_b, pur_s, pur_nil, pur_sl, pur_oslE, pur_osubE, pur_optrE, pur_aggE, pur_fnE, shOb_mk, iR_sh, rowOf, putCells, splice, iR_set, iR_append, iR_inj, iR_pur, deIs_sl, deI_I, sh2, sh1, sh0, isPure, isP0, mf2, mf1, mf0, mfObs, and_assoc, Try.el22, Try.ok3, Try.sz3, Try.ag3, Try.by3, Try.hz3, Try.zc3, ix_sl _ _ _ _ _ _ Try.el22, ix_osl _ _ _ _ _ _ _ Try.el22, ld_pt1 _ _ _ Try.ag3, ld_op1 _ _ _ _ _ _ Try.ag3, bin_beq _ _ _ _ Try.un4, bin_bne _ _ _ _ Try.un4, h, iOb, eBuildSlice, fillX, chunk, eAppend, srcRows, srcOk, plain, isV, cellsX, iR_take, iR_drop, iR_rows, iR_sing, hlen]
    refine ⟨by omega, by omega, k + 1, by omega, by omega, Wk.tlP [0] (by simp [pickOk, -List.all_eq_true, iR_ok, ok0]) ?_ ?_⟩
    · rw [lvl_take d n k h]; simp [pickObs, iOb, iR_cons]
    · simp [hold, upd, tl_cons, rn1, rn0, w64_nat (show k < 4611686018427387904 by omega)]
  · simp -implicitDefEqProofs [↓awp_skip, ↓awp_seq, ↓awp_region, ↓awp_draw, ↓awp_cond, ↓awp_block, ↓awp_loop, ↓awp_exit, ↓awp_ret, ↓thenP_normal, ↓thenP_exit, ↓thenP_ret, ↓blockP_normal, ↓blockP_exit, ↓blockP_ret, ↓rgW_nil, ↓rgW_cons, ↓rgW_guard, brP_true, brP_false, brP_bool, guardP_bool, guardP_gd, gval, Eff.use_mk, Eff.useG_mk, useG_ft, useG_tf, put_some, put_none, dok_some, dok_none, upd_app, ev_tmp, ev_const, ev_func, cst_int, cst_bool, cst_string, cst_nil, tl_cons, tl_nil, args, aop_move, aop_assign, aop_pick, aop_alloc, aop_box, aop_build, aop_buildSlice, aop_load, aop_store, aop_nilCheck, aop_binOp, aop_unOp, aop_convert, aop_makeFunc, aop_makeSlice, aop_slice, aop_fieldAddr, aop_field, aop_indexAddr, aop_index, aop_extract, aop_builtin, aop_call, eBuiltin_len, eBuiltin_append, eBuiltin_min, eBuiltin_max, eMin_int, eMax_int, ePick_bool, eNil_pt, eNil_optr, eNil_fn, eUn_not, eUn_neg, bin_add, bin_sub, bin_mul, bin_quo, bin_rem, bin_eql, bin_neq, bin_lss, bin_leq, bin_gtr, bin_geq, bin_shl, bin_shr, bin_cat, bin_seq, bin_sne, eLen_sl, eLen_str, eLen_nil, eLen_osl, eLen_osub, fa_pt, ldX_false, ldX_true, ext_tup, box_agg, box_v, box_sl, box_osl, st_v, st_sl, st_osl, st_agg, pick_and, pick_or, if_and, if_or, pX_t, pX_f, un_mk, unT_app, unL_nil, unL_cons, gdL_nil, gdL_cons, allT_nil, allT_cons, un_gd, un_v, un_sl, un_pt, un_agg, un_tup, un_fn, un_osl, un_osub, un_optr, un_top, verOk_mk, liveOk_mk, iR_length, iR_get, iR_getE, retP_ret, retP_normal, retM_ret, retM_normal, pinl_nil, pinl_cons, envM, eCallM, pickK, mArgs, mPure, setObs, rb2, rb1, rb0, verOf, rn0, pickObs, resL_nil, resL_tmp, resL_cell, one_one, one_two, envOf, List.lookup_cons, eFn, eCall, pur_v, pur_b, pur_s, pur_nil, pur_sl, pur_oslE, pur_osubE, pur_optrE, pur_aggE, pur_fnE, shOb_mk, iR_sh, rowOf, putCells, splice, iR_set, iR_append, iR_inj, iR_pur, deIs_sl, deI_I, sh2, sh1, sh0, isPure, isP0, mf2, mf1, mf0, mfObs, and_assoc, Try.el22, Try.ok3, Try.sz3, Try.ag3, Try.by3, Try.hz3, Try.zc3, ix_sl _ _ _ _ _ _ Try.el22, ix_osl _ _ _ _ _ _ _ Try.el22, ld_pt1 _ _ _ Try.ag3, ld_op1 _ _ _ _ _ _ Try.ag3, bin_beq _ _ _ _ Try.un4, bin_bne _ _ _ _ Try.un4, h, iOb]
    rw [List.take_of_length_le (by omega)]
    refine fin_own [0] (by simp [pickOk, -List.all_eq_true, iR_ok]) ?_
    simp [pur2_i, pur2_b, pur2_s, pur2_nil, pur2_sl, pur2_tup, rn2_tup, rn2_agg, rn2_osl, rn1_v, rn1_osl, rn1_agg, rn0_v, rn0_sl, rn0, pickObs, pur_v, pur_b, pur_s, pur_nil, pur_sl, deI, deIs_sl, F52, iOb]

def deC : X → X
  | .pt [x] => x
  | _ => .top
def F52p : Fun := ⟨F52.pre, fun xs => (.sl (iR (lvl (deIs (xs.getD 0 .top)) (deI (xs.getD 1 .top)))), [])⟩
theorem F52_pu : F52.pu = F52p := by simp [Fun.pu, F52p, F52, pur2, pur_oslE, iOb, iR_pur]
theorem c55p : GenC Try.prog 55 F52p := F52_pu ▸ c55.pu
def F54 : Fun := ⟨fun xs => ∃ n d c, xs = [I (n : Int), .pt [ints d], .pt [I c]] ∧ d.length ≤ 1048576, fun xs => (B (decide (deI (deC (xs.getD 2 .top)) < wsum (lvl (deIs (deC (xs.getD 1 .top))) (deI (xs.getD 0 .top))))), [])⟩
theorem c54 : GenC Try.prog 54 F54 := by
  refine contract Try.mix [(55, F52p), (40, F40)] (by simp [c55p, c40]) Try.func54 rfl (by decide) ?_
  rintro xs ⟨n, d, c, rfl, hd⟩
  refine ⟨by rw [Try.ntmps54]; simp, ?_⟩
  simp -implicitDefEqProofs [bodyOf, Try.f54, ↓awp_skip, ↓awp_seq, ↓awp_region, ↓awp_draw, ↓awp_cond, ↓awp_block, ↓awp_loop, ↓awp_exit, ↓awp_ret, ↓thenP_normal, ↓thenP_exit, ↓thenP_ret, ↓blockP_normal, ↓blockP_exit, ↓blockP_ret, ↓rgW_nil, ↓rgW_cons, ↓rgW_guard, brP_true, brP_false, brP_bool, guardP_bool, guardP_gd, gval, Eff.use_mk, Eff.useG_mk, useG_ft, useG_tf, put_some, put_none, dok_some, dok_none, upd_app, ev_tmp, ev_const, ev_func, cst_int, cst_bool, cst_string, cst_nil, tl_cons, tl_nil, args, aop_move, aop_assign, aop_pick, aop_alloc, aop_box, aop_build, aop_buildSlice, aop_load, aop_store, aop_nilCheck, aop_binOp, aop_unOp, aop_convert, aop_makeFunc, aop_makeSlice, aop_slice, aop_fieldAddr, aop_field, aop_indexAddr, aop_index, aop_extract, aop_builtin, aop_call, eBuiltin_len, eBuiltin_append, eBuiltin_min, eBuiltin_max, eMin_int, eMax_int, ePick_bool, eNil_pt, eNil_optr, eNil_fn, eUn_not, eUn_neg, bin_add, bin_sub, bin_mul, bin_quo, bin_rem, bin_eql, bin_neq, bin_lss, bin_leq, bin_gtr, bin_geq, bin_shl, bin_shr, bin_cat, bin_seq, bin_sne, eLen_sl, eLen_str, eLen_nil, eLen_osl, eLen_osub, fa_pt, ldX_false, ldX_true, ext_tup, box_agg, box_v, box_sl, box_osl, st_v, st_sl, st_osl, st_agg, pick_and, pick_or, if_and, if_or, pX_t, pX_f, un_mk, unT_app, unL_nil, unL_cons, gdL_nil, gdL_cons, allT_nil, allT_cons, un_gd, un_v, un_sl, un_pt, un_agg, un_tup, un_fn, un_osl, un_osub, un_optr, un_top, verOk_mk, liveOk_mk, iR_length, iR_get, iR_getE, retP_ret, retP_normal, retM_ret, retM_normal, pinl_nil, pinl_cons, envM, eCallM, pickK, mArgs, mPure, setObs, rb2, rb1, rb0, verOf, rn0, pickObs, resL_nil, resL_tmp, resL_cell, one_one, one_two, envOf, List.lookup_cons, eFn, eCall, pur_v, pur_b, pur_s, pur_nil, pur_sl, pur_oslE, pur_osubE, pur_optrE, pur_aggE, pur_fnE, shOb_mk, iR_sh, rowOf, putCells, splice, iR_set, iR_append, iR_inj, iR_pur, deIs_sl, deI_I, sh2, sh1, sh0, isPure, isP0, mf2, mf1, mf0, mfObs, and_assoc, Try.el22, Try.ok3, Try.sz3, Try.ag3, Try.by3, Try.hz3, Try.zc3, ix_sl _ _ _ _ _ _ Try.el22, ix_osl _ _ _ _ _ _ _ Try.el22, ld_pt1 _ _ _ Try.ag3, ld_op1 _ _ _ _ _ _ Try.ag3, bin_beq _ _ _ _ Try.un4, bin_bne _ _ _ _ Try.un4, ints, Try.ag22, ld_pt1 _ _ _ Try.ag22]
  refine drawP_all _ (by decide) ?_
  simp -implicitDefEqProofs [↓awp_skip, ↓awp_seq, ↓awp_region, ↓awp_draw, ↓awp_cond, ↓awp_block, ↓awp_loop, ↓awp_exit, ↓awp_ret, ↓thenP_normal, ↓thenP_exit, ↓thenP_ret, ↓blockP_normal, ↓blockP_exit, ↓blockP_ret, ↓rgW_nil, ↓rgW_cons, ↓rgW_guard, brP_true, brP_false, brP_bool, guardP_bool, guardP_gd, gval, Eff.use_mk, Eff.useG_mk, useG_ft, useG_tf, put_some, put_none, dok_some, dok_none, upd_app, ev_tmp, ev_const, ev_func, cst_int, cst_bool, cst_string, cst_nil, tl_cons, tl_nil, args, aop_move, aop_assign, aop_pick, aop_alloc, aop_box, aop_build, aop_buildSlice, aop_load, aop_store, aop_nilCheck, aop_binOp, aop_unOp, aop_convert, aop_makeFunc, aop_makeSlice, aop_slice, aop_fieldAddr, aop_field, aop_indexAddr, aop_index, aop_extract, aop_builtin, aop_call, eBuiltin_len, eBuiltin_append, eBuiltin_min, eBuiltin_max, eMin_int, eMax_int, ePick_bool, eNil_pt, eNil_optr, eNil_fn, eUn_not, eUn_neg, bin_add, bin_sub, bin_mul, bin_quo, bin_rem, bin_eql, bin_neq, bin_lss, bin_leq, bin_gtr, bin_geq, bin_shl, bin_shr, bin_cat, bin_seq, bin_sne, eLen_sl, eLen_str, eLen_nil, eLen_osl, eLen_osub, fa_pt, ldX_false, ldX_true, ext_tup, box_agg, box_v, box_sl, box_osl, st_v, st_sl, st_osl, st_agg, pick_and, pick_or, if_and, if_or, pX_t, pX_f, un_mk, unT_app, unL_nil, unL_cons, gdL_nil, gdL_cons, allT_nil, allT_cons, un_gd, un_v, un_sl, un_pt, un_agg, un_tup, un_fn, un_osl, un_osub, un_optr, un_top, verOk_mk, liveOk_mk, iR_length, iR_get, iR_getE, retP_ret, retP_normal, retM_ret, retM_normal, pinl_nil, pinl_cons, envM, eCallM, pickK, mArgs, mPure, setObs, rb2, rb1, rb0, verOf, rn0, pickObs, resL_nil, resL_tmp, resL_cell, one_one, one_two, envOf, List.lookup_cons, eFn, eCall, pur_v, pur_b, pur_s, pur_nil, pur_sl, pur_oslE, pur_osubE, pur_optrE, pur_aggE, pur_fnE, shOb_mk, iR_sh, rowOf, putCells, splice, iR_set, iR_append, iR_inj, iR_pur, deIs_sl, deI_I, sh2, sh1, sh0, isPure, isP0, mf2, mf1, mf0, mfObs, and_assoc, ↓rgD_nil, ↓rgD_cons, ↓rgD_guard, aopD_move, aopD_assign, aopD_pick, aopD_build, aopD_load, aopD_nilCheck, aopD_binOp, aopD_unOp, aopD_convert, aopD_makeFunc, aopD_slice, aopD_fieldAddr, aopD_field, aopD_indexAddr, aopD_index, aopD_extract, aopD_len, aopD_min, aopD_max, aopD_call, eFnD_call, ↓rgZ_nil, ↓rgZ_cons, ↓List.getElem?_cons_zero, ↓List.getElem?_cons_succ, rgO_ch, rgO_fl, rgO_flg, free, againL_nil, againL_cons, aopD_buildSlice, Try.el22, Try.ok3, Try.sz3, Try.ag3, Try.by3, Try.hz3, Try.zc3, ix_sl _ _ _ _ _ _ Try.el22, ix_osl _ _ _ _ _ _ _ Try.el22, ld_pt1 _ _ _ Try.ag3, ld_op1 _ _ _ _ _ _ Try.ag3, bin_beq _ _ _ _ Try.un4, bin_bne _ _ _ _ Try.un4, ints, Try.ag22, ld_pt1 _ _ _ Try.ag22, F52p, F52, F40, hd, lvl_len, Try.ok22]
  refine fin_pure (by simp) ?_
  simp [pur2_i, pur2_b, pur2_s, pur2_nil, pur2_sl, pur2_tup, rn2_tup, rn2_agg, rn2_osl, rn1_v, rn1_osl, rn1_agg, rn0_v, rn0_sl, rn0, pickObs, pur_v, pur_b, pur_s, pur_nil, pur_sl, deI, deIs_sl, F54, deC]

def deFn : X → List X
  | .fn _ c => c
  | _ => []
def F53 : Fun := ⟨fun xs => ∃ d c, xs = [I 0, I 1000000, .fn 54 [.pt [ints d], .pt [I c]]] ∧ good d = true, fun xs =>
  (I (firstP (over (deIs (deC ((deFn (xs.getD 2 .top)).getD 0 .top))) (deI (deC ((deFn (xs.getD 2 .top)).getD 1 .top)))) 1000001 : Nat), [])⟩
theorem c53 : GenC Try.prog 53 F53 := by
  refine contract Try.mix [(54, F54)] (by simp [c54]) Try.func53 rfl (by decide) ?_
  rintro xs ⟨d, c, rfl, hg⟩
  refine ⟨by rw [Try.ntmps53]; simp, ?_⟩
  have hd : d.length ≤ 1048576 := by have := good_len hg; omega
  simp -implicitDefEqProofs [bodyOf, Try.f53, ↓awp_skip, ↓awp_seq, ↓awp_region, ↓awp_draw, ↓awp_cond, ↓awp_block, ↓awp_loop, ↓awp_exit, ↓awp_ret, ↓thenP_normal, ↓thenP_exit, ↓thenP_ret, ↓blockP_normal, ↓blockP_exit, ↓blockP_ret, ↓rgW_nil, ↓rgW_cons, ↓rgW_guard, brP_true, brP_false, brP_bool, guardP_bool, guardP_gd, gval, Eff.use_mk, Eff.useG_mk, useG_ft, useG_tf, put_some, put_none, dok_some, dok_none, upd_app, ev_tmp, ev_const, ev_func, cst_int, cst_bool, cst_string, cst_nil, tl_cons, tl_nil, args, aop_move, aop_assign, aop_pick, aop_alloc, aop_box, aop_build, aop_buildSlice, aop_load, aop_store, aop_nilCheck, aop_binOp, aop_unOp, aop_convert, aop_makeFunc, aop_makeSlice, aop_slice, aop_fieldAddr, aop_field, aop_indexAddr, aop_index, aop_extract, aop_builtin, aop_call, eBuiltin_len, eBuiltin_append, eBuiltin_min, eBuiltin_max, eMin_int, eMax_int, ePick_bool, eNil_pt, eNil_optr, eNil_fn, eUn_not, eUn_neg, bin_add, bin_sub, bin_mul, bin_quo, bin_rem, bin_eql, bin_neq, bin_lss, bin_leq, bin_gtr, bin_geq, bin_shl, bin_shr, bin_cat, bin_seq, bin_sne, eLen_sl, eLen_str, eLen_nil, eLen_osl, eLen_osub, fa_pt, ldX_false, ldX_true, ext_tup, box_agg, box_v, box_sl, box_osl, st_v, st_sl, st_osl, st_agg, pick_and, pick_or, if_and, if_or, pX_t, pX_f, un_mk, unT_app, unL_nil, unL_cons, gdL_nil, gdL_cons, allT_nil, allT_cons, un_gd, un_v, un_sl, un_pt, un_agg, un_tup, un_fn, un_osl, un_osub, un_optr, un_top, verOk_mk, liveOk_mk, iR_length, iR_get, iR_getE, retP_ret, retP_normal, retM_ret, retM_normal, pinl_nil, pinl_cons, envM, eCallM, pickK, mArgs, mPure, setObs, rb2, rb1, rb0, verOf, rn0, pickObs, resL_nil, resL_tmp, resL_cell, one_one, one_two, envOf, List.lookup_cons, eFn, eCall, pur_v, pur_b, pur_s, pur_nil, pur_sl, pur_oslE, pur_osubE, pur_optrE, pur_aggE, pur_fnE, shOb_mk, iR_sh, rowOf, putCells, splice, iR_set, iR_append, iR_inj, iR_pur, deIs_sl, deI_I, sh2, sh1, sh0, isPure, isP0, mf2, mf1, mf0, mfObs, and_assoc, Try.el22, Try.ok3, Try.sz3, Try.ag3, Try.by3, Try.hz3, Try.zc3, ix_sl _ _ _ _ _ _ Try.el22, ix_osl _ _ _ _ _ _ _ Try.el22, ld_pt1 _ _ _ Try.ag3, ld_op1 _ _ _ _ _ _ Try.ag3, bin_beq _ _ _ _ Try.un4, bin_bne _ _ _ _ Try.un4, ints]
  refine loopP_inv (fun p : Nat × Nat => ⟨23, tl [(0, I p.1), (1, I ((p.2 : Int) - 1)), (2, .fn 54 [.pt [.sl (iR d)], .pt [I c]])], []⟩) (fun p => p.1 ≤ p.2 ∧ p.2 ≤ 1000001 ∧ (∀ i, i < p.1 → over d c i = false) ∧ ∀ i, p.2 ≤ i → over d c i = true ∨ 1000001 ≤ i) (fun p => p.2 - p.1) (0, 1000001) ⟨by omega, by omega, by omega, fun i hi => .inr hi⟩ (Wk.tl (by simp [hold, upd, tl_cons])) ?_
  rintro ⟨lo, hi⟩ ⟨h1, h2, h3, h4⟩
  dsimp only at h1 h2 h3 h4 ⊢
  by_cases h : lo < hi
  · have hle : (lo : Int) ≤ (hi : Int) - 1 := by omega
    have hw1 : IntKind.i64.wrap ((lo : Int) + ((hi : Int) - 1)) = ((lo + hi - 1 : Nat) : Int) := by rw [w64 (by omega) (by omega)]; omega
    have hw2 : IntKind.i64.wrap (((lo + hi - 1 : Nat) : Int) / 2) = (((lo + hi - 1) / 2 : Nat) : Int) := by
      rw [w64 (by omega) (by omega)]; omega
    have hw3 : IntKind.i64.wrap ((((lo + hi - 1) / 2 : Nat) : Int) - 1) = (((lo + hi - 1) / 2 : Nat) : Int) - 1 := w64 (by omega) (by omega)
    generalize hm : (lo + hi - 1) / 2 = m at hw2 hw3
    have hm1 : lo ≤ m := by omega
    have hm2 : m < hi := by omega
    cases hp : over d c m with
    | true =>
      have hp' : c < wsum (lvl d m) := by simpa [over] using hp
      simp -implicitDefEqProofs [↓awp_skip, ↓awp_seq, ↓awp_region, ↓awp_draw, ↓awp_cond, ↓awp_block, ↓awp_loop, ↓awp_exit, ↓awp_ret, ↓thenP_normal, ↓thenP_exit, ↓thenP_ret, ↓blockP_normal, ↓blockP_exit, ↓blockP_ret, ↓rgW_nil, ↓rgW_cons, ↓rgW_guard, brP_true, brP_false, brP_bool, guardP_bool, guardP_gd, gval, Eff.use_mk, Eff.useG_mk, useG_ft, useG_tf, put_some, put_none, dok_some, dok_none, upd_app, ev_tmp, ev_const, ev_func, cst_int, cst_bool, cst_string, cst_nil, tl_cons, tl_nil, args, aop_move, aop_assign, aop_pick, aop_alloc, aop_box, aop_build, aop_buildSlice, aop_load, aop_store, aop_nilCheck, aop_binOp, aop_unOp, aop_convert, aop_makeFunc, aop_makeSlice, aop_slice, aop_fieldAddr, aop_field, aop_indexAddr, aop_index, aop_extract, aop_builtin, aop_call, eBuiltin_len, eBuiltin_append, eBuiltin_min, eBuiltin_max, eMin_int, eMax_int, ePick_bool, eNil_pt, eNil_optr, eNil_fn, eUn_not, eUn_neg, bin_add, bin_sub, bin_mul, bin_quo, bin_rem, bin_eql, bin_neq, bin_lss, bin_leq, bin_gtr, bin_geq, bin_shl, bin_shr, bin_cat, bin_seq, bin_sne, eLen_sl, eLen_str, eLen_nil, eLen_osl, eLen_osub, fa_pt, ldX_false, ldX_true, ext_tup, box_agg, box_v, box_sl, box_osl, st_v, st_sl, st_osl, st_agg, pick_and, pick_or, if_and, if_or, pX_t, pX_f, un_mk, unT_app, unL_nil, unL_cons, gdL_nil, gdL_cons, allT_nil, allT_cons, un_gd, un_v, un_sl, un_pt, un_agg, un_tup, un_fn, un_osl, un_osub, un_optr, un_top, verOk_mk, liveOk_mk, iR_length, iR_get, iR_getE, retP_ret, retP_normal, retM_ret, retM_normal, pinl_nil, pinl_cons, envM, eCallM, pickK, mArgs, mPure, setObs, rb2, rb1, rb0, verOf, rn0, pickObs, resL_nil, resL_tmp, resL_cell, one_one, one_two, envOf, List.lookup_cons, eFn, eCall, pur_v, pur_b, pur_s, pur_nil, pur_sl, pur_oslE, pur_osubE, pur_optrE, pur_aggE, pur_fnE, shOb_mk, iR_sh, rowOf, putCells, splice, iR_set, iR_append, iR_inj, iR_pur, deIs_sl, deI_I, sh2, sh1, sh0, isPure, isP0, mf2, mf1, mf0, mfObs, and_assoc, Try.el22, Try.ok3, Try.sz3, Try.ag3, Try.by3, Try.hz3, Try.zc3, ix_sl _ _ _ _ _ _ Try.el22, ix_osl _ _ _ _ _ _ _ Try.el22, ld_pt1 _ _ _ Try.ag3, ld_op1 _ _ _ _ _ _ Try.ag3, bin_beq _ _ _ _ Try.un4, bin_bne _ _ _ _ Try.un4, hle, hw1, hw2, hw3, F54, ints, hd, hp', deC, pur_pt]
      refine ⟨lo, m, by omega, by omega, h3, fun i hi => ?_, by omega, Wk.tl (by simp [hold, upd, tl_cons])⟩
      have := S_mono (d := d) hg (n := m) (m := i) (by omega) (by omega)
      exact .inl (by simp [over]; omega)
    | false =>
      have hp' : ¬ c < wsum (lvl d m) := by simpa [over] using hp
      simp -implicitDefEqProofs [↓awp_skip, ↓awp_seq, ↓awp_region, ↓awp_draw, ↓awp_cond, ↓awp_block, ↓awp_loop, ↓awp_exit, ↓awp_ret, ↓thenP_normal, ↓thenP_exit, ↓thenP_ret, ↓blockP_normal, ↓blockP_exit, ↓blockP_ret, ↓rgW_nil, ↓rgW_cons, ↓rgW_guard, brP_true, brP_false, brP_bool, guardP_bool, guardP_gd, gval, Eff.use_mk, Eff.useG_mk, useG_ft, useG_tf, put_some, put_none, dok_some, dok_none, upd_app, ev_tmp, ev_const, ev_func, cst_int, cst_bool, cst_string, cst_nil, tl_cons, tl_nil, args, aop_move, aop_assign, aop_pick, aop_alloc, aop_box, aop_build, aop_buildSlice, aop_load, aop_store, aop_nilCheck, aop_binOp, aop_unOp, aop_convert, aop_makeFunc, aop_makeSlice, aop_slice, aop_fieldAddr, aop_field, aop_indexAddr, aop_index, aop_extract, aop_builtin, aop_call, eBuiltin_len, eBuiltin_append, eBuiltin_min, eBuiltin_max, eMin_int, eMax_int, ePick_bool, eNil_pt, eNil_optr, eNil_fn, eUn_not, eUn_neg, bin_add, bin_sub, bin_mul, bin_quo, bin_rem, bin_eql, bin_neq, bin_lss, bin_leq, bin_gtr, bin_geq, bin_shl, bin_shr, bin_cat, bin_seq, bin_sne, eLen_sl, eLen_str, eLen_nil, eLen_osl, eLen_osub, fa_pt, ldX_false, ldX_true, ext_tup, box_agg, box_v, box_sl, box_osl, st_v, st_sl, st_osl, st_agg, pick_and, pick_or, if_and, if_or, pX_t, pX_f, un_mk, unT_app, unL_nil, unL_cons, gdL_nil, gdL_cons, allT_nil, allT_cons, un_gd, un_v, un_sl, un_pt, un_agg, un_tup, un_fn, un_osl, un_osub, un_optr, un_top, verOk_mk, liveOk_mk, iR_length, iR_get, iR_getE, retP_ret, retP_normal, retM_ret, retM_normal, pinl_nil, pinl_cons, envM, eCallM, pickK, mArgs, mPure, setObs, rb2, rb1, rb0, verOf, rn0, pickObs, resL_nil, resL_tmp, resL_cell, one_one, one_two, envOf, List.lookup_cons, eFn, eCall, pur_v, pur_b, pur_s, pur_nil, pur_sl, pur_oslE, pur_osubE, pur_optrE, pur_aggE, pur_fnE, shOb_mk, iR_sh, rowOf, putCells, splice, iR_set, iR_append, iR_inj, iR_pur, deIs_sl, deI_I, sh2, sh1, sh0, isPure, isP0, mf2, mf1, mf0, mfObs, and_assoc, Try.el22, Try.ok3, Try.sz3, Try.ag3, Try.by3, Try.hz3, Try.zc3, ix_sl _ _ _ _ _ _ Try.el22, ix_osl _ _ _ _ _ _ _ Try.el22, ld_pt1 _ _ _ Try.ag3, ld_op1 _ _ _ _ _ _ Try.ag3, bin_beq _ _ _ _ Try.un4, bin_bne _ _ _ _ Try.un4, hle, hw1, hw2, hw3, F54, ints, hd, hp', deC, pur_pt]
      refine ⟨m + 1, hi, by omega, by omega, fun i hi => ?_, h4, by omega, Wk.tl (by simp [hold, upd, tl_cons, w64_nat (show m < 4611686018427387904 by omega)])⟩
      have := S_mono (d := d) hg (n := i) (m := m) (by omega) (by omega)
      simp [over]; omega
  · have hle : ¬ (lo : Int) ≤ (hi : Int) - 1 := by omega
    simp -implicitDefEqProofs [↓awp_skip, ↓awp_seq, ↓awp_region, ↓awp_draw, ↓awp_cond, ↓awp_block, ↓awp_loop, ↓awp_exit, ↓awp_ret, ↓thenP_normal, ↓thenP_exit, ↓thenP_ret, ↓blockP_normal, ↓blockP_exit, ↓blockP_ret, ↓rgW_nil, ↓rgW_cons, ↓rgW_guard, brP_true, brP_false, brP_bool, guardP_bool, guardP_gd, gval, Eff.use_mk, Eff.useG_mk, useG_ft, useG_tf, put_some, put_none, dok_some, dok_none, upd_app, ev_tmp, ev_const, ev_func, cst_int, cst_bool, cst_string, cst_nil, tl_cons, tl_nil, args, aop_move, aop_assign, aop_pick, aop_alloc, aop_box, aop_build, aop_buildSlice, aop_load, aop_store, aop_nilCheck, aop_binOp, aop_unOp, aop_convert, aop_makeFunc, aop_makeSlice, aop_slice, aop_fieldAddr, aop_field, aop_indexAddr, aop_index, aop_extract, aop_builtin, aop_call, eBuiltin_len, eBuiltin_append, eBuiltin_min, eBuiltin_max, eMin_int, eMax_int, ePick_bool, eNil_pt, eNil_optr, eNil_fn, eUn_not, eUn_neg, bin_add, bin_sub, bin_mul, bin_quo, bin_rem, bin_eql, bin_neq, bin_lss, bin_leq, bin_gtr, bin_geq, bin_shl, bin_shr, bin_cat, bin_seq, bin_sne, eLen_sl, eLen_str, eLen_nil, eLen_osl, eLen_osub, fa_pt, ldX_false, ldX_true, ext_tup, box_agg, box_v, box_sl, box_osl, st_v, st_sl, st_osl, st_agg, pick_and, pick_or, if_and, if_or, pX_t, pX_f, un_mk, unT_app, unL_nil, unL_cons, gdL_nil, gdL_cons, allT_nil, allT_cons, un_gd, un_v, un_sl, un_pt, un_agg, un_tup, un_fn, un_osl, un_osub, un_optr, un_top, verOk_mk, liveOk_mk, iR_length, iR_get, iR_getE, retP_ret, retP_normal, retM_ret, retM_normal, pinl_nil, pinl_cons, envM, eCallM, pickK, mArgs, mPure, setObs, rb2, rb1, rb0, verOf, rn0, pickObs, resL_nil, resL_tmp, resL_cell, one_one, one_two, envOf, List.lookup_cons, eFn, eCall, pur_v, pur_b, pur_s, pur_nil, pur_sl, pur_oslE, pur_osubE, pur_optrE, pur_aggE, pur_fnE, shOb_mk, iR_sh, rowOf, putCells, splice, iR_set, iR_append, iR_inj, iR_pur, deIs_sl, deI_I, sh2, sh1, sh0, isPure, isP0, mf2, mf1, mf0, mfObs, and_assoc, Try.el22, Try.ok3, Try.sz3, Try.ag3, Try.by3, Try.hz3, Try.zc3, ix_sl _ _ _ _ _ _ Try.el22, ix_osl _ _ _ _ _ _ _ Try.el22, ld_pt1 _ _ _ Try.ag3, ld_op1 _ _ _ _ _ _ Try.ag3, bin_beq _ _ _ _ Try.un4, bin_bne _ _ _ _ Try.un4, hle]
    refine fin_pure (by simp) ?_
    have e := firstP_eq (p := over d c) (N := 1000001) (r := lo) (by omega) h3 (fun hlt => by
      rcases h4 lo (by omega) with h5 | h5
      · exact h5
      · omega)
    simp [pur2_i, pur2_b, pur2_s, pur2_nil, pur2_sl, pur2_tup, rn2_tup, rn2_agg, rn2_osl, rn1_v, rn1_osl, rn1_agg, rn0_v, rn0_sl, rn0, pickObs, pur_v, pur_b, pur_s, pur_nil, pur_sl, deI, deIs_sl, F53, deC, deFn, e]
end Go.Proofs
