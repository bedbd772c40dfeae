/-
  What is proved here: the law of LoadConfig. Condition: none.
-/
import Derived.Test.YtflhbkcjfmajeaaGreatDoorLlA
import Derived.Test.YtflhbkcjfmajeaaGreatDoorLlB
namespace Go.Proofs
open Go.Abs
set_option linter.unusedSimpArgs false
set_option linter.unnecessarySimpa false
set_option linter.unusedVariables false
set_option maxHeartbeats 16000000
set_option maxRecDepth 20000

theorem ld_len (c : Cfg) (ho : okC c) (hg : isCfg c = true) : okL (loadOf c) := by
  have hlim := cfg_lim hg
  obtain ⟨f1, f2⟩ := cfg_fil hg
  have hwl := wk_len (topOf hg)
  refine ⟨?_, ?_, ?_, ?_, ?_, ?_, ?_⟩ <;> simp only [loadOf, List.length_map] <;> omega
def F3 : Fun := ⟨fun xs => xs = [.agg (cX (deC (xs.getD 0 .top) : Cfg))] ∧ (fun (c : Cfg) => (bigC c)) (deC (xs.getD 0 .top) : Cfg), fun xs => (fun (c : Cfg) => ((B true, []) : X × List Ob)) (deC (xs.getD 0 .top) : Cfg)⟩
theorem F3_in {xs : List X} (h : F3.pre xs) : ∃ (c : Cfg), xs = [.agg (cX c)] ∧ (bigC c) := ⟨_, h.1, h.2⟩
theorem F3_res (c : Cfg) : F3.res [.agg (cX c)] = (B true, []) := by simp [F3]
theorem F3_mk (c : Cfg) (h : bigC c) : F3.pre [.agg (cX c)] := by simpa [F3] using h
theorem c3 : GenCA K Tryz.prog 3 F3 := by
  refine contractAS Tryz.mix K [(5, F5), (7, F7), (6, F6), (8, F8), (9, F9), (10, F10), (13, F13)] [(11, M11), (12, M12)] [] (by simp [c5, c7, c6, c8, c9, c10, c13]) (by simp [m11, m12]) (by simp) Tryz.func3 rfl (by decide) ?_
  intro xs hxs
  obtain ⟨c, rfl, hbc⟩ := F3_in hxs
  rw [F3_res]
  refine ⟨by rw [Tryz.ntmps3]; simp, ?_⟩
  by_cases h1 : (1048576 : Int) < cSz c
  · refine Snd.of ?_
    simp -implicitDefEqProofs [Tryz.f3, F5, List.lookup_cons, and_assoc, pick_and, pick_or, if_and, if_or, rbR_iR, rbR_nil, rbOb_mk, iR_mf, pickOk, -List.all_eq_true, iR_ok, ok0, iR_eq_nil, deIs_nil, hbc, h1]
    refine fin_pure (by simp) ?_
    simp -implicitDefEqProofs [pur2_i, pur2_b, pur2_s, pur2_nil, pur2_sl, pur2_tup, rn2_tup, rn2_agg, rn2_osl, rn1_v, rn1_osl, rn1_agg, rn0_v, rn0_sl, rn0, pickObs, pur_v, pur_b, pur_s, pur_nil, pur_sl, deI, deIs_sl]
  have hz1 : 0 ≤ cSz c := by unfold cSz; omega
  have e1 : ¬ (1048576 : Int) - cSz c < 0 := by omega
  have hoc := okC_of h1 (Int.le_refl _)
  have pre : ∀ {Q : Exit → St → Prop} {E : Env}, True := fun {_ _} => trivial
  refine Snd.cutC rfl (⟨96, tl [(1, .optr 0 0 0 0)], [pBx c]⟩) ?_ ?_
  · simp only [Tryz.f3, bodyOf, Option.getD_some, tlC, hdC, lpC]
    simp -implicitDefEqProofs [List.lookup_cons, and_assoc, pick_and, pick_or, if_and, if_or, rbR_iR, rbR_nil, rbOb_mk, iR_mf, pickOk, -List.all_eq_true, iR_ok, ok0, iR_eq_nil, deIs_nil, F5, hbc, h1, e1, pBx]
    exact Wk.tl (by simp [hold, upd, tl_cons])
  refine Snd.cutC rfl (⟨96, tl [(1, .optr 0 0 0 0), (3, I 1048576)], [pBx c]⟩) ?_ ?_
  · simp only [Tryz.f3, bodyOf, Option.getD_some, tlC, hdC, lpC]
    simp -implicitDefEqProofs [List.lookup_cons, and_assoc, pick_and, pick_or, if_and, if_or, rbR_iR, rbR_nil, rbOb_mk, iR_mf, pickOk, -List.all_eq_true, iR_ok, ok0, iR_eq_nil, deIs_nil, F5, hbc, h1, e1, pBx]
    exact Wk.tl (by simp [hold, upd, tl_cons])
  refine Snd.cutC rfl (⟨96, tl [(1, .optr 0 0 0 0), (3, I (1048576 - cSz c))], [pBx c]⟩) ?_ ?_
  · simp only [Tryz.f3, bodyOf, Option.getD_some, tlC, hdC, lpC]
    simp -implicitDefEqProofs [List.lookup_cons, and_assoc, pick_and, pick_or, if_and, if_or, rbR_iR, rbR_nil, rbOb_mk, iR_mf, pickOk, -List.all_eq_true, iR_ok, ok0, iR_eq_nil, deIs_nil, F5, hbc, h1, e1, pBx]
    exact Wk.tl (by simp [hold, upd, tl_cons])
  refine Snd.cutC rfl (⟨96, tl [(1, .optr 0 0 0 0)], [pBx c]⟩) ?_ ?_
  · simp only [Tryz.f3, bodyOf, Option.getD_some, tlC, hdC, lpC]
    simp -implicitDefEqProofs [List.lookup_cons, and_assoc, pick_and, pick_or, if_and, if_or, rbR_iR, rbR_nil, rbOb_mk, iR_mf, pickOk, -List.all_eq_true, iR_ok, ok0, iR_eq_nil, deIs_nil, F5, hbc, h1, e1, pBx]
    exact Wk.tl (by simp [hold, upd, tl_cons])
  cases hg : isCfg c with
  | true =>
    have h : LdOk c (loadOf c) := ⟨hoc, ld_len c hoc hg, by simp [ldX, hg], by simp [rdX, hg]⟩
    refine Snd.cutCp rfl (lyS5 c (loadOf c)) (ly_4 c (loadOf c) h) ?_
    refine Snd.cutC rfl (lyS6 c (loadOf c)) (ly_5 c (loadOf c) h) ?_
    refine Snd.cutC rfl (lyS7 c (loadOf c)) (ly_6 c (loadOf c) h) ?_
    refine Snd.cutC rfl (lyS8 c (loadOf c)) (ly_7 c (loadOf c) h) ?_
    refine Snd.cutC rfl (lyS9 c (loadOf c)) (ly_8 c (loadOf c) h) ?_
    refine Snd.cutC rfl (lyS10 c (loadOf c)) (ly_9 c (loadOf c) h) ?_
    refine Snd.cutC rfl (lyS11 c (loadOf c)) (ly_10 c (loadOf c) h) ?_
    refine Snd.cutC rfl (lyS12 c (loadOf c)) (ly_11 c (loadOf c) h) ?_
    refine Snd.cutC rfl (lyS13 c (loadOf c)) (ly_12 c (loadOf c) h) ?_
    refine Snd.cutC rfl (lyS14 c (loadOf c)) (ly_13 c (loadOf c) h) ?_
    refine Snd.cutC rfl (lyS15 c (loadOf c)) (ly_14 c (loadOf c) h) ?_
    refine Snd.cutC rfl (lyS16 c (loadOf c)) (ly_15 c (loadOf c) h) ?_
    refine Snd.cutC rfl (lyS17 c (loadOf c)) (ly_16 c (loadOf c) h) ?_
    refine Snd.cutC rfl (lyS18 c (loadOf c)) (ly_17 c (loadOf c) h) ?_
    refine Snd.cutCp rfl (lyS19 c (loadOf c)) (ly_18 c (loadOf c) h) ?_
    refine Snd.cutC rfl (lyS20 c (loadOf c)) (ly_19 c (loadOf c) h) ?_
    refine Snd.cutC rfl (lyS21 c (loadOf c)) (ly_20 c (loadOf c) h) ?_
    refine Snd.cutC rfl (lyS22 c (loadOf c)) (ly_21 c (loadOf c) h) ?_
    refine Snd.cutC rfl (lyS23 c (loadOf c)) (ly_22 c (loadOf c) h) ?_
    refine Snd.cutC rfl (lyS24 c (loadOf c)) (ly_23 c (loadOf c) h) ?_
    refine Snd.of ?_
    simp only [lyS24, Tryz.f3, bodyOf, Option.getD_some, tlC, hdC, lpC]
    simp -implicitDefEqProofs [List.lookup_cons, and_assoc, pick_and, pick_or, if_and, if_or, pBx]
    refine fin_pure (by simp) ?_
    simp -implicitDefEqProofs [pur2_i, pur2_b, pur2_s, pur2_nil, pur2_sl, pur2_tup, rn2_tup, rn2_agg, rn2_osl, rn1_v, rn1_osl, rn1_agg, rn0_v, rn0_sl, rn0, pickObs, pur_v, pur_b, pur_s, pur_nil, pur_sl, deI, deIs_sl]
  | false =>
    have h : LdNo c nilE := ⟨hoc, okL_nil, by simp [ldX, hg], by simp [rdX, hg]⟩
    refine Snd.cutCp rfl (lnS5 c nilE) (ln_4 c nilE h rfl) ?_
    refine Snd.cutC rfl (lnS6 c nilE) (ln_5 c nilE h rfl) ?_
    refine Snd.cutC rfl (lnS7 c nilE) (ln_6 c nilE h rfl) ?_
    refine Snd.cutC rfl (lnS8 c nilE) (ln_7 c nilE h rfl) ?_
    refine Snd.cutC rfl (lnS9 c nilE) (ln_8 c nilE h rfl) ?_
    refine Snd.cutC rfl (lnS10 c nilE) (ln_9 c nilE h rfl) ?_
    refine Snd.cutC rfl (lnS11 c nilE) (ln_10 c nilE h rfl) ?_
    refine Snd.cutC rfl (lnS12 c nilE) (ln_11 c nilE h rfl) ?_
    refine Snd.cutC rfl (lnS13 c nilE) (ln_12 c nilE h rfl) ?_
    refine Snd.cutC rfl (lnS14 c nilE) (ln_13 c nilE h rfl) ?_
    refine Snd.cutC rfl (lnS15 c nilE) (ln_14 c nilE h rfl) ?_
    refine Snd.cutC rfl (lnS16 c nilE) (ln_15 c nilE h rfl) ?_
    refine Snd.cutC rfl (lnS17 c nilE) (ln_16 c nilE h rfl) ?_
    refine Snd.cutC rfl (lnS18 c nilE) (ln_17 c nilE h rfl) ?_
    refine Snd.cutCp rfl (lnS19 c nilE) (ln_18 c nilE h rfl) ?_
    refine Snd.cutC rfl (lnS20 c nilE) (ln_19 c nilE h rfl) ?_
    refine Snd.cutC rfl (lnS21 c nilE) (ln_20 c nilE h rfl) ?_
    refine Snd.cutC rfl (lnS22 c nilE) (ln_21 c nilE h rfl) ?_
    refine Snd.cutC rfl (lnS23 c nilE) (ln_22 c nilE h rfl) ?_
    refine Snd.cutC rfl (lnS24 c nilE) (ln_23 c nilE h rfl) ?_
    refine Snd.of ?_
    simp only [lnS24, Tryz.f3, bodyOf, Option.getD_some, tlC, hdC, lpC]
    simp -implicitDefEqProofs [List.lookup_cons, and_assoc, pick_and, pick_or, if_and, if_or, pBx]
    refine fin_pure (by simp) ?_
    simp -implicitDefEqProofs [pur2_i, pur2_b, pur2_s, pur2_nil, pur2_sl, pur2_tup, rn2_tup, rn2_agg, rn2_osl, rn1_v, rn1_osl, rn1_agg, rn0_v, rn0_sl, rn0, pickObs, pur_v, pur_b, pur_s, pur_nil, pur_sl, deI, deIs_sl]
end Go.Proofs
