/-
  What is proved here: a piece of the law of LoadConfig. Condition: none.
  What is proved here: a piece of the law of LoadConfig. Condition: none.
  What is proved here: a piece of the law of LoadConfig. Condition: none.
  What is proved here: a piece of the law of LoadConfig. Condition: none.
-/
import Derived.Test.YtflhbkcjfmajeaaGreatDoorLmA
namespace Go.Proofs
open Go.Abs
set_option linter.unusedSimpArgs false
set_option linter.unnecessarySimpa false
set_option linter.unusedVariables false
set_option maxHeartbeats 16000000
set_option maxRecDepth 20000

theorem ln_4 (c : Cfg) (e : Ldd) (h : LdNo c e) (he : e = nilE) {Q : Exit → St → Prop} : awp Tryz.prog (envN K [(5, F5), (7, F7), (6, F6), (8, F8), (9, F9), (10, F10), (13, F13)] [(11, M11), (12, M12)] []).pu (hdC (tlC (tlC (tlC (tlC (bodyOf Tryz.f3)))))) (thenP (fun s => ∃ s', Wk s s' ∧ s' = lnS5 c e) Q) (lnS4 c e) := by
  simp only [lnS4, lnS5, Tryz.f3, bodyOf, Option.getD_some, tlC, hdC, lpC]
  obtain ⟨hRi, hRs, hPi, hPs, hRt, hPt, hPq, hRq, hPe, hRe, hT, k2, hmu, hml⟩ := lnF c e h
  obtain ⟨ho, oe, hI, hS⟩ := h
  have hPe0 : F9.pre [.agg [.v (.string ⟨#[]⟩), .sl [], .sl [], .sl [], .sl [], .sl [], .sl [], .sl [], .v (.int .i64 0)], .agg [.v (.string ⟨#[]⟩), .sl [], .sl [], .sl [], .sl [], .sl [], .sl [], .sl [], .v (.int .i64 0)]] := ⟨nilE, rfl, okL_nil⟩
  have hRe0 : F9.res [.agg [.v (.string ⟨#[]⟩), .sl [], .sl [], .sl [], .sl [], .sl [], .sl [], .sl [], .v (.int .i64 0)], .agg [.v (.string ⟨#[]⟩), .sl [], .sl [], .sl [], .sl [], .sl [], .sl [], .sl [], .v (.int .i64 0)]] = (B true, []) := rfl
  subst he
  simp -implicitDefEqProofs [List.lookup_cons, and_assoc, pick_and, pick_or, if_and, if_or, pBx, dBx, gBx, lBx, obCls, obFil, iOb, lO, lOb, rO, rOb, cO, cOb, tOb, pl2osl, pnil2, nilE, nT1, nT2, nT3, hRi, hRs, hPi, hPs, hRt, hPt, hPq, hRq, hPe, hRe, hPe0, hRe0, pur2_tup, pur2_b, pur2_i, pur2_sl, pur_sl, pur_b, pur_v, pur_oslE]
  exact Wk.tl (by simp [hold, upd, tl_cons])
theorem ln_5 (c : Cfg) (e : Ldd) (h : LdNo c e) (he : e = nilE) {Q : Exit → St → Prop} : awp Tryz.prog (envN K [(5, F5), (7, F7), (6, F6), (8, F8), (9, F9), (10, F10), (13, F13)] [(11, M11), (12, M12)] []) (hdC (tlC (tlC (tlC (tlC (tlC (bodyOf Tryz.f3))))))) (thenP (fun s => ∃ s', Wk s s' ∧ s' = lnS6 c e) Q) (lnS5 c e) := by
  simp only [lnS5, lnS6, Tryz.f3, bodyOf, Option.getD_some, tlC, hdC, lpC]
  obtain ⟨hRi, hRs, hPi, hPs, hRt, hPt, hPq, hRq, hPe, hRe, hT, k2, hmu, hml⟩ := lnF c e h
  obtain ⟨ho, oe, hI, hS⟩ := h
  have hPe0 : F9.pre [.agg [.v (.string ⟨#[]⟩), .sl [], .sl [], .sl [], .sl [], .sl [], .sl [], .sl [], .v (.int .i64 0)], .agg [.v (.string ⟨#[]⟩), .sl [], .sl [], .sl [], .sl [], .sl [], .sl [], .sl [], .v (.int .i64 0)]] := ⟨nilE, rfl, okL_nil⟩
  have hRe0 : F9.res [.agg [.v (.string ⟨#[]⟩), .sl [], .sl [], .sl [], .sl [], .sl [], .sl [], .sl [], .v (.int .i64 0)], .agg [.v (.string ⟨#[]⟩), .sl [], .sl [], .sl [], .sl [], .sl [], .sl [], .sl [], .v (.int .i64 0)]] = (B true, []) := rfl
  subst he
  simp -implicitDefEqProofs [List.lookup_cons, and_assoc, pick_and, pick_or, if_and, if_or, pBx, dBx, gBx, lBx, obCls, obFil, iOb, lO, lOb, rO, rOb, cO, cOb, tOb, pl2osl, pnil2, nilE, nT1, nT2, nT3, hRi, hRs, hPi, hPs, hRt, hPt, hPq, hRq, hPe, hRe, hPe0, hRe0, pur2_tup, pur2_b, pur2_i, pur2_sl, pur_sl, pur_b, pur_v, pur_oslE]
  exact Wk.tl (by simp [hold, upd, tl_cons])
theorem ln_6 (c : Cfg) (e : Ldd) (h : LdNo c e) (he : e = nilE) {Q : Exit → St → Prop} : awp Tryz.prog (envN K [(5, F5), (7, F7), (6, F6), (8, F8), (9, F9), (10, F10), (13, F13)] [(11, M11), (12, M12)] []) (hdC (tlC (tlC (tlC (tlC (tlC (tlC (bodyOf Tryz.f3)))))))) (thenP (fun s => ∃ s', Wk s s' ∧ s' = lnS7 c e) Q) (lnS6 c e) := by
  simp only [lnS6, lnS7, Tryz.f3, bodyOf, Option.getD_some, tlC, hdC, lpC]
  obtain ⟨hRi, hRs, hPi, hPs, hRt, hPt, hPq, hRq, hPe, hRe, hT, k2, hmu, hml⟩ := lnF c e h
  obtain ⟨ho, oe, hI, hS⟩ := h
  have hPe0 : F9.pre [.agg [.v (.string ⟨#[]⟩), .sl [], .sl [], .sl [], .sl [], .sl [], .sl [], .sl [], .v (.int .i64 0)], .agg [.v (.string ⟨#[]⟩), .sl [], .sl [], .sl [], .sl [], .sl [], .sl [], .sl [], .v (.int .i64 0)]] := ⟨nilE, rfl, okL_nil⟩
  have hRe0 : F9.res [.agg [.v (.string ⟨#[]⟩), .sl [], .sl [], .sl [], .sl [], .sl [], .sl [], .sl [], .v (.int .i64 0)], .agg [.v (.string ⟨#[]⟩), .sl [], .sl [], .sl [], .sl [], .sl [], .sl [], .sl [], .v (.int .i64 0)]] = (B true, []) := rfl
  subst he
  simp -implicitDefEqProofs [List.lookup_cons, and_assoc, pick_and, pick_or, if_and, if_or, pBx, dBx, gBx, lBx, obCls, obFil, iOb, lO, lOb, rO, rOb, cO, cOb, tOb, pl2osl, pnil2, nilE, nT1, nT2, nT3, hRi, hRs, hPi, hPs, hRt, hPt, hPq, hRq, hPe, hRe, hPe0, hRe0, pur2_tup, pur2_b, pur2_i, pur2_sl, pur_sl, pur_b, pur_v, pur_oslE]
  exact Wk.tl (by simp [hold, upd, tl_cons])
theorem ln_7 (c : Cfg) (e : Ldd) (h : LdNo c e) (he : e = nilE) {Q : Exit → St → Prop} : awp Tryz.prog (envN K [(5, F5), (7, F7), (6, F6), (8, F8), (9, F9), (10, F10), (13, F13)] [(11, M11), (12, M12)] []) (hdC (tlC (tlC (tlC (tlC (tlC (tlC (tlC (bodyOf Tryz.f3))))))))) (thenP (fun s => ∃ s', Wk s s' ∧ s' = lnS8 c e) Q) (lnS7 c e) := by
  simp only [lnS7, lnS8, Tryz.f3, bodyOf, Option.getD_some, tlC, hdC, lpC]
  obtain ⟨hRi, hRs, hPi, hPs, hRt, hPt, hPq, hRq, hPe, hRe, hT, k2, hmu, hml⟩ := lnF c e h
  obtain ⟨ho, oe, hI, hS⟩ := h
  have hPe0 : F9.pre [.agg [.v (.string ⟨#[]⟩), .sl [], .sl [], .sl [], .sl [], .sl [], .sl [], .sl [], .v (.int .i64 0)], .agg [.v (.string ⟨#[]⟩), .sl [], .sl [], .sl [], .sl [], .sl [], .sl [], .sl [], .v (.int .i64 0)]] := ⟨nilE, rfl, okL_nil⟩
  have hRe0 : F9.res [.agg [.v (.string ⟨#[]⟩), .sl [], .sl [], .sl [], .sl [], .sl [], .sl [], .sl [], .v (.int .i64 0)], .agg [.v (.string ⟨#[]⟩), .sl [], .sl [], .sl [], .sl [], .sl [], .sl [], .sl [], .v (.int .i64 0)]] = (B true, []) := rfl
  subst he
  simp -implicitDefEqProofs [List.lookup_cons, and_assoc, pick_and, pick_or, if_and, if_or, pBx, dBx, gBx, lBx, obCls, obFil, iOb, lO, lOb, rO, rOb, cO, cOb, tOb, pl2osl, pnil2, nilE, nT1, nT2, nT3, hRi, hRs, hPi, hPs, hRt, hPt, hPq, hRq, hPe, hRe, hPe0, hRe0, pur2_tup, pur2_b, pur2_i, pur2_sl, pur_sl, pur_b, pur_v, pur_oslE]
  exact Wk.tl (by simp [hold, upd, tl_cons])
theorem ln_8 (c : Cfg) (e : Ldd) (h : LdNo c e) (he : e = nilE) {Q : Exit → St → Prop} : awp Tryz.prog (envN K [(5, F5), (7, F7), (6, F6), (8, F8), (9, F9), (10, F10), (13, F13)] [(11, M11), (12, M12)] []) (hdC (tlC (tlC (tlC (tlC (tlC (tlC (tlC (tlC (bodyOf Tryz.f3)))))))))) (thenP (fun s => ∃ s', Wk s s' ∧ s' = lnS9 c e) Q) (lnS8 c e) := by
  simp only [lnS8, lnS9, Tryz.f3, bodyOf, Option.getD_some, tlC, hdC, lpC]
  obtain ⟨hRi, hRs, hPi, hPs, hRt, hPt, hPq, hRq, hPe, hRe, hT, k2, hmu, hml⟩ := lnF c e h
  obtain ⟨ho, oe, hI, hS⟩ := h
  have hPe0 : F9.pre [.agg [.v (.string ⟨#[]⟩), .sl [], .sl [], .sl [], .sl [], .sl [], .sl [], .sl [], .v (.int .i64 0)], .agg [.v (.string ⟨#[]⟩), .sl [], .sl [], .sl [], .sl [], .sl [], .sl [], .sl [], .v (.int .i64 0)]] := ⟨nilE, rfl, okL_nil⟩
  have hRe0 : F9.res [.agg [.v (.string ⟨#[]⟩), .sl [], .sl [], .sl [], .sl [], .sl [], .sl [], .sl [], .v (.int .i64 0)], .agg [.v (.string ⟨#[]⟩), .sl [], .sl [], .sl [], .sl [], .sl [], .sl [], .sl [], .v (.int .i64 0)]] = (B true, []) := rfl
  subst he
  simp -implicitDefEqProofs [List.lookup_cons, and_assoc, pick_and, pick_or, if_and, if_or, pBx, dBx, gBx, lBx, obCls, obFil, iOb, lO, lOb, rO, rOb, cO, cOb, tOb, pl2osl, pnil2, nilE, nT1, nT2, nT3, hRi, hRs, hPi, hPs, hRt, hPt, hPq, hRq, hPe, hRe, hPe0, hRe0, pur2_tup, pur2_b, pur2_i, pur2_sl, pur_sl, pur_b, pur_v, pur_oslE]
  refine drawP_pu _ (by decide) ?_
  simp -implicitDefEqProofs [List.lookup_cons, and_assoc, pick_and, pick_or, if_and, if_or, pBx, dBx, gBx, lBx, obCls, obFil, iOb, lO, lOb, rO, rOb, cO, cOb, tOb, pl2osl, pnil2, nilE, nT1, nT2, nT3, hRi, hRs, hPi, hPs, hRt, hPt, hPq, hRq, hPe, hRe, hPe0, hRe0, pur2_tup, pur2_b, pur2_i, pur2_sl, pur_sl, pur_b, pur_v, pur_oslE]
  exact Wk.tl (by simp [hold, upd, tl_cons])
theorem ln_9 (c : Cfg) (e : Ldd) (h : LdNo c e) (he : e = nilE) {Q : Exit → St → Prop} : awp Tryz.prog (envN K [(5, F5), (7, F7), (6, F6), (8, F8), (9, F9), (10, F10), (13, F13)] [(11, M11), (12, M12)] []) (hdC (tlC (tlC (tlC (tlC (tlC (tlC (tlC (tlC (tlC (bodyOf Tryz.f3))))))))))) (thenP (fun s => ∃ s', Wk s s' ∧ s' = lnS10 c e) Q) (lnS9 c e) := by
  simp only [lnS9, lnS10, Tryz.f3, bodyOf, Option.getD_some, tlC, hdC, lpC]
  obtain ⟨hRi, hRs, hPi, hPs, hRt, hPt, hPq, hRq, hPe, hRe, hT, k2, hmu, hml⟩ := lnF c e h
  obtain ⟨ho, oe, hI, hS⟩ := h
  have hPe0 : F9.pre [.agg [.v (.string ⟨#[]⟩), .sl [], .sl [], .sl [], .sl [], .sl [], .sl [], .sl [], .v (.int .i64 0)], .agg [.v (.string ⟨#[]⟩), .sl [], .sl [], .sl [], .sl [], .sl [], .sl [], .sl [], .v (.int .i64 0)]] := ⟨nilE, rfl, okL_nil⟩
  have hRe0 : F9.res [.agg [.v (.string ⟨#[]⟩), .sl [], .sl [], .sl [], .sl [], .sl [], .sl [], .sl [], .v (.int .i64 0)], .agg [.v (.string ⟨#[]⟩), .sl [], .sl [], .sl [], .sl [], .sl [], .sl [], .sl [], .v (.int .i64 0)]] = (B true, []) := rfl
  subst he
  simp -implicitDefEqProofs [List.lookup_cons, and_assoc, pick_and, pick_or, if_and, if_or, pBx, dBx, gBx, lBx, obCls, obFil, iOb, lO, lOb, rO, rOb, cO, cOb, tOb, pl2osl, pnil2, nilE, nT1, nT2, nT3, hRi, hRs, hPi, hPs, hRt, hPt, hPq, hRq, hPe, hRe, hPe0, hRe0, pur2_tup, pur2_b, pur2_i, pur2_sl, pur_sl, pur_b, pur_v, pur_oslE]
  exact Wk.tl (by simp [hold, upd, tl_cons])
end Go.Proofs

namespace Go.Proofs
open Go.Abs
set_option linter.unusedSimpArgs false
set_option linter.unnecessarySimpa false
set_option linter.unusedVariables false
set_option maxHeartbeats 16000000
set_option maxRecDepth 20000

theorem ln_10 (c : Cfg) (e : Ldd) (h : LdNo c e) (he : e = nilE) {Q : Exit → St → Prop} : awp Tryz.prog (envN K [(5, F5), (7, F7), (6, F6), (8, F8), (9, F9), (10, F10), (13, F13)] [(11, M11), (12, M12)] []) (hdC (tlC (tlC (tlC (tlC (tlC (tlC (tlC (tlC (tlC (tlC (bodyOf Tryz.f3)))))))))))) (thenP (fun s => ∃ s', Wk s s' ∧ s' = lnS11 c e) Q) (lnS10 c e) := by
  simp only [lnS10, lnS11, Tryz.f3, bodyOf, Option.getD_some, tlC, hdC, lpC]
  obtain ⟨hRi, hRs, hPi, hPs, hRt, hPt, hPq, hRq, hPe, hRe, hT, k2, hmu, hml⟩ := lnF c e h
  obtain ⟨ho, oe, hI, hS⟩ := h
  have hPe0 : F9.pre [.agg [.v (.string ⟨#[]⟩), .sl [], .sl [], .sl [], .sl [], .sl [], .sl [], .sl [], .v (.int .i64 0)], .agg [.v (.string ⟨#[]⟩), .sl [], .sl [], .sl [], .sl [], .sl [], .sl [], .sl [], .v (.int .i64 0)]] := ⟨nilE, rfl, okL_nil⟩
  have hRe0 : F9.res [.agg [.v (.string ⟨#[]⟩), .sl [], .sl [], .sl [], .sl [], .sl [], .sl [], .sl [], .v (.int .i64 0)], .agg [.v (.string ⟨#[]⟩), .sl [], .sl [], .sl [], .sl [], .sl [], .sl [], .sl [], .v (.int .i64 0)]] = (B true, []) := rfl
  subst he
  have hp1 : M11.pre [.agg [.v (.string c.name), .osl 0 0, .osl 1 0, I c.dflt], .v (.int .i64 1)] [⟨63, 8, 0, tR c.cls, false, true, none⟩, ⟨70, 5, 0, tR c.fil, false, true, none⟩] := ⟨c, 1, rfl, rfl, ho, by omega, by omega⟩
  have hr1 : M11.res [.agg [.v (.string c.name), .osl 0 0, .osl 1 0, I c.dflt], .v (.int .i64 1)] [⟨63, 8, 0, tR c.cls, false, true, none⟩, ⟨70, 5, 0, tR c.fil, false, true, none⟩] = (I (1 + 8 * (c.cls.length : Int) + 5 * (c.fil.length : Int)), [⟨63, 8, 0, tR (mkc c).cls, false, true, none⟩, ⟨70, 5, 0, tR (mkc c).fil, false, true, none⟩]) := by
    simp [M11, cMk, obl, tOb, deI, mkc]
  obtain ⟨X, hX⟩ : ∃ X, mkc c = X := ⟨_, rfl⟩
  rw [hX] at hr1
  rw [hX]
  simp -implicitDefEqProofs [List.lookup_cons, and_assoc, pick_and, pick_or, if_and, if_or, pBx, dBx, gBx, lBx, obCls, obFil, iOb, lO, lOb, rO, rOb, cO, cOb, tOb, pl2osl, pnil2, nilE, nT1, nT2, nT3, hRi, hRs, hPi, hPs, hRt, hPt, hPq, hRq, hPe, hRe, hPe0, hRe0, pur2_tup, pur2_b, pur2_i, pur2_sl, pur_sl, pur_b, pur_v, pur_oslE, rbR_iR, rbR_nil, rbOb_mk, iR_mf, pickOk, -List.all_eq_true, iR_ok, ok0, iR_eq_nil, deIs_nil, hmu, hp1, hr1]
  exact Wk.tl (by simp [hold, upd, tl_cons])
theorem ln_11 (c : Cfg) (e : Ldd) (h : LdNo c e) (he : e = nilE) {Q : Exit → St → Prop} : awp Tryz.prog (envN K [(5, F5), (7, F7), (6, F6), (8, F8), (9, F9), (10, F10), (13, F13)] [(11, M11), (12, M12)] []) (hdC (tlC (tlC (tlC (tlC (tlC (tlC (tlC (tlC (tlC (tlC (tlC (bodyOf Tryz.f3))))))))))))) (thenP (fun s => ∃ s', Wk s s' ∧ s' = lnS12 c e) Q) (lnS11 c e) := by
  simp only [lnS11, lnS12, Tryz.f3, bodyOf, Option.getD_some, tlC, hdC, lpC]
  obtain ⟨hRi, hRs, hPi, hPs, hRt, hPt, hPq, hRq, hPe, hRe, hT, k2, hmu, hml⟩ := lnF c e h
  obtain ⟨ho, oe, hI, hS⟩ := h
  have hPe0 : F9.pre [.agg [.v (.string ⟨#[]⟩), .sl [], .sl [], .sl [], .sl [], .sl [], .sl [], .sl [], .v (.int .i64 0)], .agg [.v (.string ⟨#[]⟩), .sl [], .sl [], .sl [], .sl [], .sl [], .sl [], .sl [], .v (.int .i64 0)]] := ⟨nilE, rfl, okL_nil⟩
  have hRe0 : F9.res [.agg [.v (.string ⟨#[]⟩), .sl [], .sl [], .sl [], .sl [], .sl [], .sl [], .sl [], .v (.int .i64 0)], .agg [.v (.string ⟨#[]⟩), .sl [], .sl [], .sl [], .sl [], .sl [], .sl [], .sl [], .v (.int .i64 0)]] = (B true, []) := rfl
  subst he
  obtain ⟨X, hX⟩ : ∃ X, mkc c = X := ⟨_, rfl⟩
  rw [hX]
  simp -implicitDefEqProofs [List.lookup_cons, and_assoc, pick_and, pick_or, if_and, if_or, pBx, dBx, gBx, lBx, obCls, obFil, iOb, lO, lOb, rO, rOb, cO, cOb, tOb, pl2osl, pnil2, nilE, nT1, nT2, nT3, hRi, hRs, hPi, hPs, hRt, hPt, hPq, hRq, hPe, hRe, hPe0, hRe0, pur2_tup, pur2_b, pur2_i, pur2_sl, pur_sl, pur_b, pur_v, pur_oslE, k2]
  exact Wk.tl (by simp [hold, upd, tl_cons])
theorem ln_12 (c : Cfg) (e : Ldd) (h : LdNo c e) (he : e = nilE) {Q : Exit → St → Prop} : awp Tryz.prog (envN K [(5, F5), (7, F7), (6, F6), (8, F8), (9, F9), (10, F10), (13, F13)] [(11, M11), (12, M12)] []) (hdC (tlC (tlC (tlC (tlC (tlC (tlC (tlC (tlC (tlC (tlC (tlC (tlC (bodyOf Tryz.f3)))))))))))))) (thenP (fun s => ∃ s', Wk s s' ∧ s' = lnS13 c e) Q) (lnS12 c e) := by
  simp only [lnS12, lnS13, Tryz.f3, bodyOf, Option.getD_some, tlC, hdC, lpC]
  obtain ⟨hRi, hRs, hPi, hPs, hRt, hPt, hPq, hRq, hPe, hRe, hT, k2, hmu, hml⟩ := lnF c e h
  obtain ⟨ho, oe, hI, hS⟩ := h
  have hPe0 : F9.pre [.agg [.v (.string ⟨#[]⟩), .sl [], .sl [], .sl [], .sl [], .sl [], .sl [], .sl [], .v (.int .i64 0)], .agg [.v (.string ⟨#[]⟩), .sl [], .sl [], .sl [], .sl [], .sl [], .sl [], .sl [], .v (.int .i64 0)]] := ⟨nilE, rfl, okL_nil⟩
  have hRe0 : F9.res [.agg [.v (.string ⟨#[]⟩), .sl [], .sl [], .sl [], .sl [], .sl [], .sl [], .sl [], .v (.int .i64 0)], .agg [.v (.string ⟨#[]⟩), .sl [], .sl [], .sl [], .sl [], .sl [], .sl [], .sl [], .v (.int .i64 0)]] = (B true, []) := rfl
  subst he
  obtain ⟨X, hX⟩ : ∃ X, mkc c = X := ⟨_, rfl⟩
  rw [hX]
  simp -implicitDefEqProofs [List.lookup_cons, and_assoc, pick_and, pick_or, if_and, if_or, pBx, dBx, gBx, lBx, obCls, obFil, iOb, lO, lOb, rO, rOb, cO, cOb, tOb, pl2osl, pnil2, nilE, nT1, nT2, nT3]
  exact Wk.tl (by simp [hold, upd, tl_cons])
theorem ln_13 (c : Cfg) (e : Ldd) (h : LdNo c e) (he : e = nilE) {Q : Exit → St → Prop} : awp Tryz.prog (envN K [(5, F5), (7, F7), (6, F6), (8, F8), (9, F9), (10, F10), (13, F13)] [(11, M11), (12, M12)] []) (hdC (tlC (tlC (tlC (tlC (tlC (tlC (tlC (tlC (tlC (tlC (tlC (tlC (tlC (bodyOf Tryz.f3))))))))))))))) (thenP (fun s => ∃ s', Wk s s' ∧ s' = lnS14 c e) Q) (lnS13 c e) := by
  simp only [lnS13, lnS14, Tryz.f3, bodyOf, Option.getD_some, tlC, hdC, lpC]
  obtain ⟨hRi, hRs, hPi, hPs, hRt, hPt, hPq, hRq, hPe, hRe, hT, k2, hmu, hml⟩ := lnF c e h
  obtain ⟨ho, oe, hI, hS⟩ := h
  have hPe0 : F9.pre [.agg [.v (.string ⟨#[]⟩), .sl [], .sl [], .sl [], .sl [], .sl [], .sl [], .sl [], .v (.int .i64 0)], .agg [.v (.string ⟨#[]⟩), .sl [], .sl [], .sl [], .sl [], .sl [], .sl [], .sl [], .v (.int .i64 0)]] := ⟨nilE, rfl, okL_nil⟩
  have hRe0 : F9.res [.agg [.v (.string ⟨#[]⟩), .sl [], .sl [], .sl [], .sl [], .sl [], .sl [], .sl [], .v (.int .i64 0)], .agg [.v (.string ⟨#[]⟩), .sl [], .sl [], .sl [], .sl [], .sl [], .sl [], .sl [], .v (.int .i64 0)]] = (B true, []) := rfl
  subst he
  obtain ⟨X, hX⟩ : ∃ X, mkc c = X := ⟨_, rfl⟩
  rw [hX]
  have hTn : lTot 1 (lLen nilE) 7 = 1 := by simp [lTot, lLen, nilE]
  have hp1 : M12.pre [.agg [.v (.string ⟨#[]⟩), .sl [], .sl [], .sl [], .sl [], .sl [], .sl [], .sl [], I 0], .v (.int .i64 1)] [] := .inr ⟨1, rfl, rfl, by omega, by omega⟩
  have hr1 : M12.res [.agg [.v (.string ⟨#[]⟩), .sl [], .sl [], .sl [], .sl [], .sl [], .sl [], .sl [], I 0], .v (.int .i64 1)] [] = (I 1, []) := rfl
  rw [hTn]
  simp -implicitDefEqProofs [List.lookup_cons, and_assoc, pick_and, pick_or, if_and, if_or, rbR_iR, rbR_nil, rbOb_mk, iR_mf, pickOk, -List.all_eq_true, iR_ok, ok0, iR_eq_nil, deIs_nil, pBx, dBx, gBx, lBx, obCls, obFil, iOb, lO, lOb, rO, rOb, cO, cOb, tOb, pl2osl, pnil2, nilE, nT1, nT2, nT3, hml, hp1, hr1]
  exact Wk.tl (by simp [hold, upd, tl_cons])
end Go.Proofs

namespace Go.Proofs
open Go.Abs
set_option linter.unusedSimpArgs false
set_option linter.unnecessarySimpa false
set_option linter.unusedVariables false
set_option maxHeartbeats 16000000
set_option maxRecDepth 20000

theorem ln_14 (c : Cfg) (e : Ldd) (h : LdNo c e) (he : e = nilE) {Q : Exit → St → Prop} : awp Tryz.prog (envN K [(5, F5), (7, F7), (6, F6), (8, F8), (9, F9), (10, F10), (13, F13)] [(11, M11), (12, M12)] []) (hdC (tlC (tlC (tlC (tlC (tlC (tlC (tlC (tlC (tlC (tlC (tlC (tlC (tlC (tlC (bodyOf Tryz.f3)))))))))))))))) (thenP (fun s => ∃ s', Wk s s' ∧ s' = lnS15 c e) Q) (lnS14 c e) := by
  simp only [lnS14, lnS15, Tryz.f3, bodyOf, Option.getD_some, tlC, hdC, lpC]
  obtain ⟨hRi, hRs, hPi, hPs, hRt, hPt, hPq, hRq, hPe, hRe, hT, k2, hmu, hml⟩ := lnF c e h
  obtain ⟨ho, oe, hI, hS⟩ := h
  have hPe0 : F9.pre [.agg [.v (.string ⟨#[]⟩), .sl [], .sl [], .sl [], .sl [], .sl [], .sl [], .sl [], .v (.int .i64 0)], .agg [.v (.string ⟨#[]⟩), .sl [], .sl [], .sl [], .sl [], .sl [], .sl [], .sl [], .v (.int .i64 0)]] := ⟨nilE, rfl, okL_nil⟩
  have hRe0 : F9.res [.agg [.v (.string ⟨#[]⟩), .sl [], .sl [], .sl [], .sl [], .sl [], .sl [], .sl [], .v (.int .i64 0)], .agg [.v (.string ⟨#[]⟩), .sl [], .sl [], .sl [], .sl [], .sl [], .sl [], .sl [], .v (.int .i64 0)]] = (B true, []) := rfl
  subst he
  obtain ⟨X, hX⟩ : ∃ X, mkc c = X := ⟨_, rfl⟩
  rw [hX]
  obtain ⟨T, hTT⟩ : ∃ T, lTot 1 (lLen nilE) 7 = T := ⟨_, rfl⟩
  rw [hTT] at hT
  simp only [hTT]
  simp -implicitDefEqProofs [List.lookup_cons, and_assoc, pick_and, pick_or, if_and, if_or, pBx, dBx, gBx, lBx, obCls, obFil, iOb, lO, lOb, rO, rOb, cO, cOb, tOb, pl2osl, pnil2, nilE, nT1, nT2, nT3, hT, hRi, hRs, hPi, hPs, hRt, hPt, hPe, hRe, hPe0, hRe0, pur2_tup, pur2_b, pur2_i, pur2_sl, pur_sl, pur_b, pur_v, pur_oslE]
  exact Wk.tl (by simp [hold, upd, tl_cons])
theorem ln_15 (c : Cfg) (e : Ldd) (h : LdNo c e) (he : e = nilE) {Q : Exit → St → Prop} : awp Tryz.prog (envN K [(5, F5), (7, F7), (6, F6), (8, F8), (9, F9), (10, F10), (13, F13)] [(11, M11), (12, M12)] []) (hdC (tlC (tlC (tlC (tlC (tlC (tlC (tlC (tlC (tlC (tlC (tlC (tlC (tlC (tlC (tlC (bodyOf Tryz.f3))))))))))))))))) (thenP (fun s => ∃ s', Wk s s' ∧ s' = lnS16 c e) Q) (lnS15 c e) := by
  simp only [lnS15, lnS16, Tryz.f3, bodyOf, Option.getD_some, tlC, hdC, lpC]
  obtain ⟨hRi, hRs, hPi, hPs, hRt, hPt, hPq, hRq, hPe, hRe, hT, k2, hmu, hml⟩ := lnF c e h
  obtain ⟨ho, oe, hI, hS⟩ := h
  have hPe0 : F9.pre [.agg [.v (.string ⟨#[]⟩), .sl [], .sl [], .sl [], .sl [], .sl [], .sl [], .sl [], .v (.int .i64 0)], .agg [.v (.string ⟨#[]⟩), .sl [], .sl [], .sl [], .sl [], .sl [], .sl [], .sl [], .v (.int .i64 0)]] := ⟨nilE, rfl, okL_nil⟩
  have hRe0 : F9.res [.agg [.v (.string ⟨#[]⟩), .sl [], .sl [], .sl [], .sl [], .sl [], .sl [], .sl [], .v (.int .i64 0)], .agg [.v (.string ⟨#[]⟩), .sl [], .sl [], .sl [], .sl [], .sl [], .sl [], .sl [], .v (.int .i64 0)]] = (B true, []) := rfl
  subst he
  obtain ⟨X, hX⟩ : ∃ X, mkc c = X := ⟨_, rfl⟩
  rw [hX]
  have hp1 : F13.pre [.agg [.v (.string ⟨#[]⟩), .sl [], .sl [], .sl [], .sl [], .sl [], .sl [], .sl [], I 0], .v (.int .i64 1)] := ⟨⟨#[]⟩, 1, [], 0, rfl, fun i => by simp, by omega, by omega⟩
  have hr1 : F13.res [.agg [.v (.string ⟨#[]⟩), .sl [], .sl [], .sl [], .sl [], .sl [], .sl [], .sl [], I 0], .v (.int .i64 1)] = (I (lTot 1 (lLen nilE) 7), []) := rfl
  obtain ⟨T, hTT⟩ : ∃ T, lTot 1 (lLen nilE) 7 = T := ⟨_, rfl⟩
  rw [hTT] at hT
  rw [hTT] at hr1
  simp only [hTT]
  simp -implicitDefEqProofs [List.lookup_cons, and_assoc, pick_and, pick_or, if_and, if_or, pBx, dBx, gBx, lBx, obCls, obFil, iOb, lO, lOb, rO, rOb, cO, cOb, tOb, pl2osl, pnil2, nilE, nT1, nT2, nT3, hp1, hr1]
  exact Wk.tl (by simp [hold, upd, tl_cons])
theorem ln_16 (c : Cfg) (e : Ldd) (h : LdNo c e) (he : e = nilE) {Q : Exit → St → Prop} : awp Tryz.prog (envN K [(5, F5), (7, F7), (6, F6), (8, F8), (9, F9), (10, F10), (13, F13)] [(11, M11), (12, M12)] []) (hdC (tlC (tlC (tlC (tlC (tlC (tlC (tlC (tlC (tlC (tlC (tlC (tlC (tlC (tlC (tlC (tlC (bodyOf Tryz.f3)))))))))))))))))) (thenP (fun s => ∃ s', Wk s s' ∧ s' = lnS17 c e) Q) (lnS16 c e) := by
  simp only [lnS16, lnS17, Tryz.f3, bodyOf, Option.getD_some, tlC, hdC, lpC]
  obtain ⟨hRi, hRs, hPi, hPs, hRt, hPt, hPq, hRq, hPe, hRe, hT, k2, hmu, hml⟩ := lnF c e h
  obtain ⟨ho, oe, hI, hS⟩ := h
  have hPe0 : F9.pre [.agg [.v (.string ⟨#[]⟩), .sl [], .sl [], .sl [], .sl [], .sl [], .sl [], .sl [], .v (.int .i64 0)], .agg [.v (.string ⟨#[]⟩), .sl [], .sl [], .sl [], .sl [], .sl [], .sl [], .sl [], .v (.int .i64 0)]] := ⟨nilE, rfl, okL_nil⟩
  have hRe0 : F9.res [.agg [.v (.string ⟨#[]⟩), .sl [], .sl [], .sl [], .sl [], .sl [], .sl [], .sl [], .v (.int .i64 0)], .agg [.v (.string ⟨#[]⟩), .sl [], .sl [], .sl [], .sl [], .sl [], .sl [], .sl [], .v (.int .i64 0)]] = (B true, []) := rfl
  subst he
  obtain ⟨X, hX⟩ : ∃ X, mkc c = X := ⟨_, rfl⟩
  rw [hX]
  obtain ⟨T, hTT⟩ : ∃ T, lTot 1 (lLen nilE) 7 = T := ⟨_, rfl⟩
  rw [hTT] at hT
  simp only [hTT]
  simp -implicitDefEqProofs [List.lookup_cons, and_assoc, pick_and, pick_or, if_and, if_or, pBx, dBx, gBx, lBx, obCls, obFil, iOb, lO, lOb, rO, rOb, cO, cOb, tOb, pl2osl, pnil2, nilE, nT1, nT2, nT3, hT, hRi, hRs, hPi, hPs, hRt, hPt, hPe, hRe, hPe0, hRe0, pur2_tup, pur2_b, pur2_i, pur2_sl, pur_sl, pur_b, pur_v, pur_oslE]
  exact Wk.tl (by simp [hold, upd, tl_cons])
theorem ln_17 (c : Cfg) (e : Ldd) (h : LdNo c e) (he : e = nilE) {Q : Exit → St → Prop} : awp Tryz.prog (envN K [(5, F5), (7, F7), (6, F6), (8, F8), (9, F9), (10, F10), (13, F13)] [(11, M11), (12, M12)] []) (hdC (tlC (tlC (tlC (tlC (tlC (tlC (tlC (tlC (tlC (tlC (tlC (tlC (tlC (tlC (tlC (tlC (tlC (bodyOf Tryz.f3))))))))))))))))))) (thenP (fun s => ∃ s', Wk s s' ∧ s' = lnS18 c e) Q) (lnS17 c e) := by
  simp only [lnS17, lnS18, Tryz.f3, bodyOf, Option.getD_some, tlC, hdC, lpC]
  obtain ⟨hRi, hRs, hPi, hPs, hRt, hPt, hPq, hRq, hPe, hRe, hT, k2, hmu, hml⟩ := lnF c e h
  obtain ⟨ho, oe, hI, hS⟩ := h
  have hPe0 : F9.pre [.agg [.v (.string ⟨#[]⟩), .sl [], .sl [], .sl [], .sl [], .sl [], .sl [], .sl [], .v (.int .i64 0)], .agg [.v (.string ⟨#[]⟩), .sl [], .sl [], .sl [], .sl [], .sl [], .sl [], .sl [], .v (.int .i64 0)]] := ⟨nilE, rfl, okL_nil⟩
  have hRe0 : F9.res [.agg [.v (.string ⟨#[]⟩), .sl [], .sl [], .sl [], .sl [], .sl [], .sl [], .sl [], .v (.int .i64 0)], .agg [.v (.string ⟨#[]⟩), .sl [], .sl [], .sl [], .sl [], .sl [], .sl [], .sl [], .v (.int .i64 0)]] = (B true, []) := rfl
  subst he
  obtain ⟨X, hX⟩ : ∃ X, mkc c = X := ⟨_, rfl⟩
  rw [hX]
  obtain ⟨T, hTT⟩ : ∃ T, lTot 1 (lLen nilE) 7 = T := ⟨_, rfl⟩
  rw [hTT] at hT
  simp only [hTT]
  simp -implicitDefEqProofs [List.lookup_cons, and_assoc, pick_and, pick_or, if_and, if_or, pBx, dBx, gBx, lBx, obCls, obFil, iOb, lO, lOb, rO, rOb, cO, cOb, tOb, pl2osl, pnil2, nilE, nT1, nT2, nT3, hT, hRi, hRs, hPi, hPs, hRt, hPt, hPe, hRe, hPe0, hRe0, pur2_tup, pur2_b, pur2_i, pur2_sl, pur_sl, pur_b, pur_v, pur_oslE]
  exact Wk.tl (by simp [hold, upd, tl_cons])
theorem ln_18 (c : Cfg) (e : Ldd) (h : LdNo c e) (he : e = nilE) {Q : Exit → St → Prop} : awp Tryz.prog (envN K [(5, F5), (7, F7), (6, F6), (8, F8), (9, F9), (10, F10), (13, F13)] [(11, M11), (12, M12)] []).pu (hdC (tlC (tlC (tlC (tlC (tlC (tlC (tlC (tlC (tlC (tlC (tlC (tlC (tlC (tlC (tlC (tlC (tlC (tlC (bodyOf Tryz.f3)))))))))))))))))))) (thenP (fun s => ∃ s', Wk s s' ∧ s' = lnS19 c e) Q) (lnS18 c e) := by
  simp only [lnS18, lnS19, Tryz.f3, bodyOf, Option.getD_some, tlC, hdC, lpC]
  obtain ⟨hRi, hRs, hPi, hPs, hRt, hPt, hPq, hRq, hPe, hRe, hT, k2, hmu, hml⟩ := lnF c e h
  obtain ⟨ho, oe, hI, hS⟩ := h
  have hPe0 : F9.pre [.agg [.v (.string ⟨#[]⟩), .sl [], .sl [], .sl [], .sl [], .sl [], .sl [], .sl [], .v (.int .i64 0)], .agg [.v (.string ⟨#[]⟩), .sl [], .sl [], .sl [], .sl [], .sl [], .sl [], .sl [], .v (.int .i64 0)]] := ⟨nilE, rfl, okL_nil⟩
  have hRe0 : F9.res [.agg [.v (.string ⟨#[]⟩), .sl [], .sl [], .sl [], .sl [], .sl [], .sl [], .sl [], .v (.int .i64 0)], .agg [.v (.string ⟨#[]⟩), .sl [], .sl [], .sl [], .sl [], .sl [], .sl [], .sl [], .v (.int .i64 0)]] = (B true, []) := rfl
  subst he
  obtain ⟨X, hX⟩ : ∃ X, mkc c = X := ⟨_, rfl⟩
  rw [hX]
  obtain ⟨T, hTT⟩ : ∃ T, lTot 1 (lLen nilE) 7 = T := ⟨_, rfl⟩
  rw [hTT] at hT
  simp only [hTT]
  simp -implicitDefEqProofs [List.lookup_cons, and_assoc, pick_and, pick_or, if_and, if_or, pBx, dBx, gBx, lBx, obCls, obFil, iOb, lO, lOb, rO, rOb, cO, cOb, tOb, pl2osl, pnil2, nilE, nT1, nT2, nT3, hT, hRi, hRs, hPi, hPs, hRt, hPt, hPe, hRe, hPe0, hRe0, pur2_tup, pur2_b, pur2_i, pur2_sl, pur_sl, pur_b, pur_v, pur_oslE]
  exact Wk.tl (by simp [hold, upd, tl_cons])
end Go.Proofs

namespace Go.Proofs
open Go.Abs
set_option linter.unusedSimpArgs false
set_option linter.unnecessarySimpa false
set_option linter.unusedVariables false
set_option maxHeartbeats 16000000
set_option maxRecDepth 20000

theorem ln_19 (c : Cfg) (e : Ldd) (h : LdNo c e) (he : e = nilE) {Q : Exit → St → Prop} : awp Tryz.prog (envN K [(5, F5), (7, F7), (6, F6), (8, F8), (9, F9), (10, F10), (13, F13)] [(11, M11), (12, M12)] []) (hdC (tlC (tlC (tlC (tlC (tlC (tlC (tlC (tlC (tlC (tlC (tlC (tlC (tlC (tlC (tlC (tlC (tlC (tlC (tlC (bodyOf Tryz.f3))))))))))))))))))))) (thenP (fun s => ∃ s', Wk s s' ∧ s' = lnS20 c e) Q) (lnS19 c e) := by
  simp only [lnS19, lnS20, Tryz.f3, bodyOf, Option.getD_some, tlC, hdC, lpC]
  obtain ⟨hRi, hRs, hPi, hPs, hRt, hPt, hPq, hRq, hPe, hRe, hT, k2, hmu, hml⟩ := lnF c e h
  obtain ⟨ho, oe, hI, hS⟩ := h
  have hPe0 : F9.pre [.agg [.v (.string ⟨#[]⟩), .sl [], .sl [], .sl [], .sl [], .sl [], .sl [], .sl [], .v (.int .i64 0)], .agg [.v (.string ⟨#[]⟩), .sl [], .sl [], .sl [], .sl [], .sl [], .sl [], .sl [], .v (.int .i64 0)]] := ⟨nilE, rfl, okL_nil⟩
  have hRe0 : F9.res [.agg [.v (.string ⟨#[]⟩), .sl [], .sl [], .sl [], .sl [], .sl [], .sl [], .sl [], .v (.int .i64 0)], .agg [.v (.string ⟨#[]⟩), .sl [], .sl [], .sl [], .sl [], .sl [], .sl [], .sl [], .v (.int .i64 0)]] = (B true, []) := rfl
  subst he
  obtain ⟨X, hX⟩ : ∃ X, mkc c = X := ⟨_, rfl⟩
  rw [hX]
  obtain ⟨T, hTT⟩ : ∃ T, lTot 1 (lLen nilE) 7 = T := ⟨_, rfl⟩
  rw [hTT] at hT
  simp only [hTT]
  simp -implicitDefEqProofs [List.lookup_cons, and_assoc, pick_and, pick_or, if_and, if_or, pBx, dBx, gBx, lBx, obCls, obFil, iOb, lO, lOb, rO, rOb, cO, cOb, tOb, pl2osl, pnil2, nilE, nT1, nT2, nT3, hT, hRi, hRs, hPi, hPs, hRt, hPt, hPe, hRe, hPe0, hRe0, pur2_tup, pur2_b, pur2_i, pur2_sl, pur_sl, pur_b, pur_v, pur_oslE]
  refine Wk.tlPN [0, 1, 2, 3, 4, 5] (by simp [pickOkN]) (by simp) ?_
  simp [hold, upd, tl_cons]
theorem ln_20 (c : Cfg) (e : Ldd) (h : LdNo c e) (he : e = nilE) {Q : Exit → St → Prop} : awp Tryz.prog (envN K [(5, F5), (7, F7), (6, F6), (8, F8), (9, F9), (10, F10), (13, F13)] [(11, M11), (12, M12)] []) (hdC (tlC (tlC (tlC (tlC (tlC (tlC (tlC (tlC (tlC (tlC (tlC (tlC (tlC (tlC (tlC (tlC (tlC (tlC (tlC (tlC (bodyOf Tryz.f3)))))))))))))))))))))) (thenP (fun s => ∃ s', Wk s s' ∧ s' = lnS21 c e) Q) (lnS20 c e) := by
  simp only [lnS20, lnS21, Tryz.f3, bodyOf, Option.getD_some, tlC, hdC, lpC]
  obtain ⟨hRi, hRs, hPi, hPs, hRt, hPt, hPq, hRq, hPe, hRe, hT, k2, hmu, hml⟩ := lnF c e h
  obtain ⟨ho, oe, hI, hS⟩ := h
  have hPe0 : F9.pre [.agg [.v (.string ⟨#[]⟩), .sl [], .sl [], .sl [], .sl [], .sl [], .sl [], .sl [], .v (.int .i64 0)], .agg [.v (.string ⟨#[]⟩), .sl [], .sl [], .sl [], .sl [], .sl [], .sl [], .sl [], .v (.int .i64 0)]] := ⟨nilE, rfl, okL_nil⟩
  have hRe0 : F9.res [.agg [.v (.string ⟨#[]⟩), .sl [], .sl [], .sl [], .sl [], .sl [], .sl [], .sl [], .v (.int .i64 0)], .agg [.v (.string ⟨#[]⟩), .sl [], .sl [], .sl [], .sl [], .sl [], .sl [], .sl [], .v (.int .i64 0)]] = (B true, []) := rfl
  subst he
  obtain ⟨X, hX⟩ : ∃ X, mkc c = X := ⟨_, rfl⟩
  rw [hX]
  obtain ⟨T, hTT⟩ : ∃ T, lTot 1 (lLen nilE) 7 = T := ⟨_, rfl⟩
  rw [hTT] at hT
  simp only [hTT]
  simp -implicitDefEqProofs [List.lookup_cons, and_assoc, pick_and, pick_or, if_and, if_or, pBx, dBx, gBx, lBx, obCls, obFil, iOb, lO, lOb, rO, rOb, cO, cOb, tOb, pl2osl, pnil2, nilE, nT1, nT2, nT3, hT, hRi, hRs, hPi, hPs, hRt, hPt, hPe, hRe, hPe0, hRe0, pur2_tup, pur2_b, pur2_i, pur2_sl, pur_sl, pur_b, pur_v, pur_oslE]
  exact Wk.tl (by simp [hold, upd, tl_cons])
theorem ln_21 (c : Cfg) (e : Ldd) (h : LdNo c e) (he : e = nilE) {Q : Exit → St → Prop} : awp Tryz.prog (envN K [(5, F5), (7, F7), (6, F6), (8, F8), (9, F9), (10, F10), (13, F13)] [(11, M11), (12, M12)] []) (hdC (tlC (tlC (tlC (tlC (tlC (tlC (tlC (tlC (tlC (tlC (tlC (tlC (tlC (tlC (tlC (tlC (tlC (tlC (tlC (tlC (tlC (bodyOf Tryz.f3))))))))))))))))))))))) (thenP (fun s => ∃ s', Wk s s' ∧ s' = lnS22 c e) Q) (lnS21 c e) := by
  simp only [lnS21, lnS22, Tryz.f3, bodyOf, Option.getD_some, tlC, hdC, lpC]
  obtain ⟨hRi, hRs, hPi, hPs, hRt, hPt, hPq, hRq, hPe, hRe, hT, k2, hmu, hml⟩ := lnF c e h
  obtain ⟨ho, oe, hI, hS⟩ := h
  have hPe0 : F9.pre [.agg [.v (.string ⟨#[]⟩), .sl [], .sl [], .sl [], .sl [], .sl [], .sl [], .sl [], .v (.int .i64 0)], .agg [.v (.string ⟨#[]⟩), .sl [], .sl [], .sl [], .sl [], .sl [], .sl [], .sl [], .v (.int .i64 0)]] := ⟨nilE, rfl, okL_nil⟩
  have hRe0 : F9.res [.agg [.v (.string ⟨#[]⟩), .sl [], .sl [], .sl [], .sl [], .sl [], .sl [], .sl [], .v (.int .i64 0)], .agg [.v (.string ⟨#[]⟩), .sl [], .sl [], .sl [], .sl [], .sl [], .sl [], .sl [], .v (.int .i64 0)]] = (B true, []) := rfl
  subst he
  obtain ⟨X, hX⟩ : ∃ X, mkc c = X := ⟨_, rfl⟩
  rw [hX]
  have hp1 : F13.pre [.agg [.v (.string ⟨#[]⟩), .sl [], .sl [], .sl [], .sl [], .sl [], .sl [], .sl [], I 0], .v (.int .i64 1)] := ⟨⟨#[]⟩, 1, [], 0, rfl, fun i => by simp, by omega, by omega⟩
  have hr1 : F13.res [.agg [.v (.string ⟨#[]⟩), .sl [], .sl [], .sl [], .sl [], .sl [], .sl [], .sl [], I 0], .v (.int .i64 1)] = (I (lTot 1 (lLen nilE) 7), []) := rfl
  obtain ⟨T, hTT⟩ : ∃ T, lTot 1 (lLen nilE) 7 = T := ⟨_, rfl⟩
  rw [hTT] at hT
  rw [hTT] at hr1
  simp only [hTT]
  simp -implicitDefEqProofs [List.lookup_cons, and_assoc, pick_and, pick_or, if_and, if_or, pBx, dBx, gBx, lBx, obCls, obFil, iOb, lO, lOb, rO, rOb, cO, cOb, tOb, pl2osl, pnil2, nilE, nT1, nT2, nT3, hp1, hr1]
  exact Wk.tl (by simp [hold, upd, tl_cons])
theorem ln_22 (c : Cfg) (e : Ldd) (h : LdNo c e) (he : e = nilE) {Q : Exit → St → Prop} : awp Tryz.prog (envN K [(5, F5), (7, F7), (6, F6), (8, F8), (9, F9), (10, F10), (13, F13)] [(11, M11), (12, M12)] []) (hdC (tlC (tlC (tlC (tlC (tlC (tlC (tlC (tlC (tlC (tlC (tlC (tlC (tlC (tlC (tlC (tlC (tlC (tlC (tlC (tlC (tlC (tlC (bodyOf Tryz.f3)))))))))))))))))))))))) (thenP (fun s => ∃ s', Wk s s' ∧ s' = lnS23 c e) Q) (lnS22 c e) := by
  simp only [lnS22, lnS23, Tryz.f3, bodyOf, Option.getD_some, tlC, hdC, lpC]
  obtain ⟨hRi, hRs, hPi, hPs, hRt, hPt, hPq, hRq, hPe, hRe, hT, k2, hmu, hml⟩ := lnF c e h
  obtain ⟨ho, oe, hI, hS⟩ := h
  have hPe0 : F9.pre [.agg [.v (.string ⟨#[]⟩), .sl [], .sl [], .sl [], .sl [], .sl [], .sl [], .sl [], .v (.int .i64 0)], .agg [.v (.string ⟨#[]⟩), .sl [], .sl [], .sl [], .sl [], .sl [], .sl [], .sl [], .v (.int .i64 0)]] := ⟨nilE, rfl, okL_nil⟩
  have hRe0 : F9.res [.agg [.v (.string ⟨#[]⟩), .sl [], .sl [], .sl [], .sl [], .sl [], .sl [], .sl [], .v (.int .i64 0)], .agg [.v (.string ⟨#[]⟩), .sl [], .sl [], .sl [], .sl [], .sl [], .sl [], .sl [], .v (.int .i64 0)]] = (B true, []) := rfl
  subst he
  obtain ⟨X, hX⟩ : ∃ X, mkc c = X := ⟨_, rfl⟩
  rw [hX]
  obtain ⟨T, hTT⟩ : ∃ T, lTot 1 (lLen nilE) 7 = T := ⟨_, rfl⟩
  rw [hTT] at hT
  simp only [hTT]
  simp -implicitDefEqProofs [List.lookup_cons, and_assoc, pick_and, pick_or, if_and, if_or, pBx, dBx, gBx, lBx, obCls, obFil, iOb, lO, lOb, rO, rOb, cO, cOb, tOb, pl2osl, pnil2, nilE, nT1, nT2, nT3, hT, hRi, hRs, hPi, hPs, hRt, hPt, hPe, hRe, hPe0, hRe0, pur2_tup, pur2_b, pur2_i, pur2_sl, pur_sl, pur_b, pur_v, pur_oslE]
  exact Wk.tl (by simp [hold, upd, tl_cons])
theorem ln_23 (c : Cfg) (e : Ldd) (h : LdNo c e) (he : e = nilE) {Q : Exit → St → Prop} : awp Tryz.prog (envN K [(5, F5), (7, F7), (6, F6), (8, F8), (9, F9), (10, F10), (13, F13)] [(11, M11), (12, M12)] []) (hdC (tlC (tlC (tlC (tlC (tlC (tlC (tlC (tlC (tlC (tlC (tlC (tlC (tlC (tlC (tlC (tlC (tlC (tlC (tlC (tlC (tlC (tlC (tlC (bodyOf Tryz.f3))))))))))))))))))))))))) (thenP (fun s => ∃ s', Wk s s' ∧ s' = lnS24 c e) Q) (lnS23 c e) := by
  simp only [lnS23, lnS24, Tryz.f3, bodyOf, Option.getD_some, tlC, hdC, lpC]
  obtain ⟨hRi, hRs, hPi, hPs, hRt, hPt, hPq, hRq, hPe, hRe, hT, k2, hmu, hml⟩ := lnF c e h
  obtain ⟨ho, oe, hI, hS⟩ := h
  have hPe0 : F9.pre [.agg [.v (.string ⟨#[]⟩), .sl [], .sl [], .sl [], .sl [], .sl [], .sl [], .sl [], .v (.int .i64 0)], .agg [.v (.string ⟨#[]⟩), .sl [], .sl [], .sl [], .sl [], .sl [], .sl [], .sl [], .v (.int .i64 0)]] := ⟨nilE, rfl, okL_nil⟩
  have hRe0 : F9.res [.agg [.v (.string ⟨#[]⟩), .sl [], .sl [], .sl [], .sl [], .sl [], .sl [], .sl [], .v (.int .i64 0)], .agg [.v (.string ⟨#[]⟩), .sl [], .sl [], .sl [], .sl [], .sl [], .sl [], .sl [], .v (.int .i64 0)]] = (B true, []) := rfl
  subst he
  obtain ⟨X, hX⟩ : ∃ X, mkc c = X := ⟨_, rfl⟩
  rw [hX]
  obtain ⟨T, hTT⟩ : ∃ T, lTot 1 (lLen nilE) 7 = T := ⟨_, rfl⟩
  rw [hTT] at hT
  simp only [hTT]
  simp -implicitDefEqProofs [List.lookup_cons, and_assoc, pick_and, pick_or, if_and, if_or, pBx, dBx, gBx, lBx, obCls, obFil, iOb, lO, lOb, rO, rOb, cO, cOb, tOb, pl2osl, pnil2, nilE, nT1, nT2, nT3, hT, hRi, hRs, hPi, hPs, hRt, hPt, hPe, hRe, hPe0, hRe0, pur2_tup, pur2_b, pur2_i, pur2_sl, pur_sl, pur_b, pur_v, pur_oslE]
  refine Wk.tlPN [0] (by simp [pickOkN]) (by simp) ?_
  simp [hold, upd, tl_cons]
end Go.Proofs
