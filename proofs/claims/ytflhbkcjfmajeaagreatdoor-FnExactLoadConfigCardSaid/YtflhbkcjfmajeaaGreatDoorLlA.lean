/-
  What is proved here: a piece of the law of LoadConfig. Condition: none.
  What is proved here: a piece of the law of LoadConfig. Condition: none.
  What is proved here: a piece of the law of LoadConfig. Condition: none.
  What is proved here: a piece of the law of LoadConfig. Condition: none.
-/
import Derived.Test.YtflhbkcjfmajeaaGreatDoorLmA
namespace Go.Proofs
open Go.Abs
set_option linter.unusedSimpArgs false
set_option linter.unnecessarySimpa false
set_option linter.unusedVariables false
set_option maxHeartbeats 16000000
set_option maxRecDepth 20000

theorem ly_4 (c : Cfg) (e : Ldd) (h : LdOk c e) {Q : Exit → St → Prop} : awp Tryz.prog (envN K [(5, F5), (7, F7), (6, F6), (8, F8), (9, F9), (10, F10), (13, F13)] [(11, M11), (12, M12)] []).pu (hdC (tlC (tlC (tlC (tlC (bodyOf Tryz.f3)))))) (thenP (fun s => ∃ s', Wk s s' ∧ s' = lyS5 c e) Q) (lyS4 c e) := by
  simp only [lyS4, lyS5, Tryz.f3, bodyOf, Option.getD_some, tlC, hdC, lpC]
  obtain ⟨hRi, hRs, hPi, hPs, hRt, hPt, hPq, hRq, hPe, hRe, hT, k2, hmu, hml⟩ := lyF c e h
  obtain ⟨ho, oe, hI, hS⟩ := h
  simp -implicitDefEqProofs [List.lookup_cons, and_assoc, pick_and, pick_or, if_and, if_or, pBx, dBx, gBx, lBx, obCls, obFil, iOb, lO, lOb, rO, rOb, cO, cOb, tOb, pl2osl, pnil2, hRi, hRs, hPi, hPs, hRt, hPt, hPq, hRq, hPe, hRe, pur2_tup, pur2_b, pur2_i, pur2_sl, pur_sl, pur_b, pur_v, pur_oslE]
  exact Wk.tl (by simp [hold, upd, tl_cons])
theorem ly_5 (c : Cfg) (e : Ldd) (h : LdOk c e) {Q : Exit → St → Prop} : awp Tryz.prog (envN K [(5, F5), (7, F7), (6, F6), (8, F8), (9, F9), (10, F10), (13, F13)] [(11, M11), (12, M12)] []) (hdC (tlC (tlC (tlC (tlC (tlC (bodyOf Tryz.f3))))))) (thenP (fun s => ∃ s', Wk s s' ∧ s' = lyS6 c e) Q) (lyS5 c e) := by
  simp only [lyS5, lyS6, Tryz.f3, bodyOf, Option.getD_some, tlC, hdC, lpC]
  obtain ⟨hRi, hRs, hPi, hPs, hRt, hPt, hPq, hRq, hPe, hRe, hT, k2, hmu, hml⟩ := lyF c e h
  obtain ⟨ho, oe, hI, hS⟩ := h
  simp -implicitDefEqProofs [List.lookup_cons, and_assoc, pick_and, pick_or, if_and, if_or, pBx, dBx, gBx, lBx, obCls, obFil, iOb, lO, lOb, rO, rOb, cO, cOb, tOb, pl2osl, pnil2, hRi, hRs, hPi, hPs, hRt, hPt, hPq, hRq, hPe, hRe, pur2_tup, pur2_b, pur2_i, pur2_sl, pur_sl, pur_b, pur_v, pur_oslE]
  exact Wk.tl (by simp [hold, upd, tl_cons])
theorem ly_6 (c : Cfg) (e : Ldd) (h : LdOk c e) {Q : Exit → St → Prop} : awp Tryz.prog (envN K [(5, F5), (7, F7), (6, F6), (8, F8), (9, F9), (10, F10), (13, F13)] [(11, M11), (12, M12)] []) (hdC (tlC (tlC (tlC (tlC (tlC (tlC (bodyOf Tryz.f3)))))))) (thenP (fun s => ∃ s', Wk s s' ∧ s' = lyS7 c e) Q) (lyS6 c e) := by
  simp only [lyS6, lyS7, Tryz.f3, bodyOf, Option.getD_some, tlC, hdC, lpC]
  obtain ⟨hRi, hRs, hPi, hPs, hRt, hPt, hPq, hRq, hPe, hRe, hT, k2, hmu, hml⟩ := lyF c e h
  obtain ⟨ho, oe, hI, hS⟩ := h
  simp -implicitDefEqProofs [List.lookup_cons, and_assoc, pick_and, pick_or, if_and, if_or, pBx, dBx, gBx, lBx, obCls, obFil, iOb, lO, lOb, rO, rOb, cO, cOb, tOb, pl2osl, pnil2, hRi, hRs, hPi, hPs, hRt, hPt, hPq, hRq, hPe, hRe, pur2_tup, pur2_b, pur2_i, pur2_sl, pur_sl, pur_b, pur_v, pur_oslE]
  refine ⟨iR_mf _, iR_mf _, iR_mf _, iR_mf _, iR_mf _, ?_⟩
  exact Wk.tl (by simp [hold, upd, tl_cons])
theorem ly_7 (c : Cfg) (e : Ldd) (h : LdOk c e) {Q : Exit → St → Prop} : awp Tryz.prog (envN K [(5, F5), (7, F7), (6, F6), (8, F8), (9, F9), (10, F10), (13, F13)] [(11, M11), (12, M12)] []) (hdC (tlC (tlC (tlC (tlC (tlC (tlC (tlC (bodyOf Tryz.f3))))))))) (thenP (fun s => ∃ s', Wk s s' ∧ s' = lyS8 c e) Q) (lyS7 c e) := by
  simp only [lyS7, lyS8, Tryz.f3, bodyOf, Option.getD_some, tlC, hdC, lpC]
  obtain ⟨hRi, hRs, hPi, hPs, hRt, hPt, hPq, hRq, hPe, hRe, hT, k2, hmu, hml⟩ := lyF c e h
  obtain ⟨ho, oe, hI, hS⟩ := h
  simp -implicitDefEqProofs [List.lookup_cons, and_assoc, pick_and, pick_or, if_and, if_or, pBx, dBx, gBx, lBx, obCls, obFil, iOb, lO, lOb, rO, rOb, cO, cOb, tOb, pl2osl, pnil2, hRi, hRs, hPi, hPs, hRt, hPt, hPq, hRq, hPe, hRe, pur2_tup, pur2_b, pur2_i, pur2_sl, pur_sl, pur_b, pur_v, pur_oslE]
  exact Wk.tl (by simp [hold, upd, tl_cons])
theorem ly_8 (c : Cfg) (e : Ldd) (h : LdOk c e) {Q : Exit → St → Prop} : awp Tryz.prog (envN K [(5, F5), (7, F7), (6, F6), (8, F8), (9, F9), (10, F10), (13, F13)] [(11, M11), (12, M12)] []) (hdC (tlC (tlC (tlC (tlC (tlC (tlC (tlC (tlC (bodyOf Tryz.f3)))))))))) (thenP (fun s => ∃ s', Wk s s' ∧ s' = lyS9 c e) Q) (lyS8 c e) := by
  simp only [lyS8, lyS9, Tryz.f3, bodyOf, Option.getD_some, tlC, hdC, lpC]
  obtain ⟨hRi, hRs, hPi, hPs, hRt, hPt, hPq, hRq, hPe, hRe, hT, k2, hmu, hml⟩ := lyF c e h
  obtain ⟨ho, oe, hI, hS⟩ := h
  simp -implicitDefEqProofs [List.lookup_cons, and_assoc, pick_and, pick_or, if_and, if_or, pBx, dBx, gBx, lBx, obCls, obFil, iOb, lO, lOb, rO, rOb, cO, cOb, tOb, pl2osl, pnil2, hRi, hRs, hPi, hPs, hRt, hPt, hPq, hRq, hPe, hRe, pur2_tup, pur2_b, pur2_i, pur2_sl, pur_sl, pur_b, pur_v, pur_oslE]
  refine drawP_pu _ (by decide) ?_
  simp -implicitDefEqProofs [List.lookup_cons, and_assoc, pick_and, pick_or, if_and, if_or, pBx, dBx, gBx, lBx, obCls, obFil, iOb, lO, lOb, rO, rOb, cO, cOb, tOb, pl2osl, pnil2, hRi, hRs, hPi, hPs, hRt, hPt, hPq, hRq, hPe, hRe, pur2_tup, pur2_b, pur2_i, pur2_sl, pur_sl, pur_b, pur_v, pur_oslE]
  exact Wk.tl (by simp [hold, upd, tl_cons])
theorem ly_9 (c : Cfg) (e : Ldd) (h : LdOk c e) {Q : Exit → St → Prop} : awp Tryz.prog (envN K [(5, F5), (7, F7), (6, F6), (8, F8), (9, F9), (10, F10), (13, F13)] [(11, M11), (12, M12)] []) (hdC (tlC (tlC (tlC (tlC (tlC (tlC (tlC (tlC (tlC (bodyOf Tryz.f3))))))))))) (thenP (fun s => ∃ s', Wk s s' ∧ s' = lyS10 c e) Q) (lyS9 c e) := by
  simp only [lyS9, lyS10, Tryz.f3, bodyOf, Option.getD_some, tlC, hdC, lpC]
  obtain ⟨hRi, hRs, hPi, hPs, hRt, hPt, hPq, hRq, hPe, hRe, hT, k2, hmu, hml⟩ := lyF c e h
  obtain ⟨ho, oe, hI, hS⟩ := h
  simp -implicitDefEqProofs [List.lookup_cons, and_assoc, pick_and, pick_or, if_and, if_or, pBx, dBx, gBx, lBx, obCls, obFil, iOb, lO, lOb, rO, rOb, cO, cOb, tOb, pl2osl, pnil2, hRi, hRs, hPi, hPs, hRt, hPt, hPq, hRq, hPe, hRe, pur2_tup, pur2_b, pur2_i, pur2_sl, pur_sl, pur_b, pur_v, pur_oslE]
  exact Wk.tl (by simp [hold, upd, tl_cons])
end Go.Proofs

namespace Go.Proofs
open Go.Abs
set_option linter.unusedSimpArgs false
set_option linter.unnecessarySimpa false
set_option linter.unusedVariables false
set_option maxHeartbeats 16000000
set_option maxRecDepth 20000

theorem ly_10 (c : Cfg) (e : Ldd) (h : LdOk c e) {Q : Exit → St → Prop} : awp Tryz.prog (envN K [(5, F5), (7, F7), (6, F6), (8, F8), (9, F9), (10, F10), (13, F13)] [(11, M11), (12, M12)] []) (hdC (tlC (tlC (tlC (tlC (tlC (tlC (tlC (tlC (tlC (tlC (bodyOf Tryz.f3)))))))))))) (thenP (fun s => ∃ s', Wk s s' ∧ s' = lyS11 c e) Q) (lyS10 c e) := by
  simp only [lyS10, lyS11, Tryz.f3, bodyOf, Option.getD_some, tlC, hdC, lpC]
  obtain ⟨hRi, hRs, hPi, hPs, hRt, hPt, hPq, hRq, hPe, hRe, hT, k2, hmu, hml⟩ := lyF c e h
  obtain ⟨ho, oe, hI, hS⟩ := h
  have hp1 : M11.pre [.agg [.v (.string c.name), .osl 0 0, .osl 1 0, I c.dflt], .v (.int .i64 1)] [⟨63, 8, 0, tR c.cls, false, true, none⟩, ⟨70, 5, 0, tR c.fil, false, true, none⟩] := ⟨c, 1, rfl, rfl, ho, by omega, by omega⟩
  have hr1 : M11.res [.agg [.v (.string c.name), .osl 0 0, .osl 1 0, I c.dflt], .v (.int .i64 1)] [⟨63, 8, 0, tR c.cls, false, true, none⟩, ⟨70, 5, 0, tR c.fil, false, true, none⟩] = (I (1 + 8 * (c.cls.length : Int) + 5 * (c.fil.length : Int)), [⟨63, 8, 0, tR (mkc c).cls, false, true, none⟩, ⟨70, 5, 0, tR (mkc c).fil, false, true, none⟩]) := by
    simp [M11, cMk, obl, tOb, deI, mkc]
  obtain ⟨X, hX⟩ : ∃ X, mkc c = X := ⟨_, rfl⟩
  rw [hX] at hr1
  rw [hX]
  simp -implicitDefEqProofs [List.lookup_cons, and_assoc, pick_and, pick_or, if_and, if_or, pBx, dBx, gBx, lBx, obCls, obFil, iOb, lO, lOb, rO, rOb, cO, cOb, tOb, pl2osl, pnil2, hRi, hRs, hPi, hPs, hRt, hPt, hPq, hRq, hPe, hRe, pur2_tup, pur2_b, pur2_i, pur2_sl, pur_sl, pur_b, pur_v, pur_oslE, rbR_iR, rbR_nil, rbOb_mk, iR_mf, pickOk, -List.all_eq_true, iR_ok, ok0, iR_eq_nil, deIs_nil, hmu, hp1, hr1]
  exact Wk.tl (by simp [hold, upd, tl_cons])
theorem ly_11 (c : Cfg) (e : Ldd) (h : LdOk c e) {Q : Exit → St → Prop} : awp Tryz.prog (envN K [(5, F5), (7, F7), (6, F6), (8, F8), (9, F9), (10, F10), (13, F13)] [(11, M11), (12, M12)] []) (hdC (tlC (tlC (tlC (tlC (tlC (tlC (tlC (tlC (tlC (tlC (tlC (bodyOf Tryz.f3))))))))))))) (thenP (fun s => ∃ s', Wk s s' ∧ s' = lyS12 c e) Q) (lyS11 c e) := by
  simp only [lyS11, lyS12, Tryz.f3, bodyOf, Option.getD_some, tlC, hdC, lpC]
  obtain ⟨hRi, hRs, hPi, hPs, hRt, hPt, hPq, hRq, hPe, hRe, hT, k2, hmu, hml⟩ := lyF c e h
  obtain ⟨ho, oe, hI, hS⟩ := h
  obtain ⟨X, hX⟩ : ∃ X, mkc c = X := ⟨_, rfl⟩
  rw [hX]
  simp -implicitDefEqProofs [List.lookup_cons, and_assoc, pick_and, pick_or, if_and, if_or, pBx, dBx, gBx, lBx, obCls, obFil, iOb, lO, lOb, rO, rOb, cO, cOb, tOb, pl2osl, pnil2, hRi, hRs, hPi, hPs, hRt, hPt, hPq, hRq, hPe, hRe, pur2_tup, pur2_b, pur2_i, pur2_sl, pur_sl, pur_b, pur_v, pur_oslE, k2]
  exact Wk.tl (by simp [hold, upd, tl_cons])
theorem ly_12 (c : Cfg) (e : Ldd) (h : LdOk c e) {Q : Exit → St → Prop} : awp Tryz.prog (envN K [(5, F5), (7, F7), (6, F6), (8, F8), (9, F9), (10, F10), (13, F13)] [(11, M11), (12, M12)] []) (hdC (tlC (tlC (tlC (tlC (tlC (tlC (tlC (tlC (tlC (tlC (tlC (tlC (bodyOf Tryz.f3)))))))))))))) (thenP (fun s => ∃ s', Wk s s' ∧ s' = lyS13 c e) Q) (lyS12 c e) := by
  simp only [lyS12, lyS13, Tryz.f3, bodyOf, Option.getD_some, tlC, hdC, lpC]
  obtain ⟨hRi, hRs, hPi, hPs, hRt, hPt, hPq, hRq, hPe, hRe, hT, k2, hmu, hml⟩ := lyF c e h
  obtain ⟨ho, oe, hI, hS⟩ := h
  obtain ⟨X, hX⟩ : ∃ X, mkc c = X := ⟨_, rfl⟩
  rw [hX]
  simp -implicitDefEqProofs [List.lookup_cons, and_assoc, pick_and, pick_or, if_and, if_or, pBx, dBx, gBx, lBx, obCls, obFil, iOb, lO, lOb, rO, rOb, cO, cOb, tOb, pl2osl, pnil2]
  exact Wk.tl (by simp [hold, upd, tl_cons])
theorem ly_13 (c : Cfg) (e : Ldd) (h : LdOk c e) {Q : Exit → St → Prop} : awp Tryz.prog (envN K [(5, F5), (7, F7), (6, F6), (8, F8), (9, F9), (10, F10), (13, F13)] [(11, M11), (12, M12)] []) (hdC (tlC (tlC (tlC (tlC (tlC (tlC (tlC (tlC (tlC (tlC (tlC (tlC (tlC (bodyOf Tryz.f3))))))))))))))) (thenP (fun s => ∃ s', Wk s s' ∧ s' = lyS14 c e) Q) (lyS13 c e) := by
  simp only [lyS13, lyS14, Tryz.f3, bodyOf, Option.getD_some, tlC, hdC, lpC]
  obtain ⟨hRi, hRs, hPi, hPs, hRt, hPt, hPq, hRq, hPe, hRe, hT, k2, hmu, hml⟩ := lyF c e h
  obtain ⟨ho, oe, hI, hS⟩ := h
  obtain ⟨X, hX⟩ : ∃ X, mkc c = X := ⟨_, rfl⟩
  rw [hX]
  have hp1 : M12.pre [.agg [.v (.string e.name), .osl 0 0, .osl 1 0, .osl 2 0, .osl 3 0, .osl 4 0, .osl 5 0, .osl 6 0, I e.dflt], .v (.int .i64 1)] [⟨63, 8, 0, tR e.cls, false, true, none⟩, ⟨3, 1, 0, iR e.par, false, true, none⟩, ⟨3, 1, 0, iR e.fst, false, true, none⟩, ⟨3, 1, 0, iR e.nx, false, true, none⟩, ⟨3, 1, 0, iR e.en, false, true, none⟩, ⟨70, 5, 0, tR e.fil, false, true, none⟩, ⟨3, 1, 0, iR e.tgt, false, true, none⟩] := .inl ⟨e, 1, rfl, rfl, oe, by omega, by omega⟩
  have hr1 : M12.res [.agg [.v (.string e.name), .osl 0 0, .osl 1 0, .osl 2 0, .osl 3 0, .osl 4 0, .osl 5 0, .osl 6 0, I e.dflt], .v (.int .i64 1)] [⟨63, 8, 0, tR e.cls, false, true, none⟩, ⟨3, 1, 0, iR e.par, false, true, none⟩, ⟨3, 1, 0, iR e.fst, false, true, none⟩, ⟨3, 1, 0, iR e.nx, false, true, none⟩, ⟨3, 1, 0, iR e.en, false, true, none⟩, ⟨70, 5, 0, tR e.fil, false, true, none⟩, ⟨3, 1, 0, iR e.tgt, false, true, none⟩] = (I (lTot 1 (lLen e) 7), [⟨63, 8, 0, tR (mke e).cls, false, true, none⟩, ⟨3, 1, 0, iR (mke e).par, false, true, none⟩, ⟨3, 1, 0, iR (mke e).fst, false, true, none⟩, ⟨3, 1, 0, iR (mke e).nx, false, true, none⟩, ⟨3, 1, 0, iR (mke e).en, false, true, none⟩, ⟨70, 5, 0, tR (mke e).fil, false, true, none⟩, ⟨3, 1, 0, iR (mke e).tgt, false, true, none⟩]) := mkL_res e 1
  obtain ⟨Y, hY⟩ : ∃ Y, mke e = Y := ⟨_, rfl⟩
  obtain ⟨T, hTT⟩ : ∃ T, lTot 1 (lLen e) 7 = T := ⟨_, rfl⟩
  rw [hY, hTT] at hr1
  rw [hY, hTT]
  simp -implicitDefEqProofs [List.lookup_cons, and_assoc, pick_and, pick_or, if_and, if_or, rbR_iR, rbR_nil, rbOb_mk, iR_mf, pickOk, -List.all_eq_true, iR_ok, ok0, iR_eq_nil, deIs_nil, pBx, dBx, gBx, lBx, obCls, obFil, iOb, lO, lOb, rO, rOb, cO, cOb, tOb, pl2osl, pnil2, hml, hp1, hr1]
  exact Wk.tl (by simp [hold, upd, tl_cons])
end Go.Proofs

namespace Go.Proofs
open Go.Abs
set_option linter.unusedSimpArgs false
set_option linter.unnecessarySimpa false
set_option linter.unusedVariables false
set_option maxHeartbeats 16000000
set_option maxRecDepth 20000

theorem ly_14 (c : Cfg) (e : Ldd) (h : LdOk c e) {Q : Exit → St → Prop} : awp Tryz.prog (envN K [(5, F5), (7, F7), (6, F6), (8, F8), (9, F9), (10, F10), (13, F13)] [(11, M11), (12, M12)] []) (hdC (tlC (tlC (tlC (tlC (tlC (tlC (tlC (tlC (tlC (tlC (tlC (tlC (tlC (tlC (bodyOf Tryz.f3)))))))))))))))) (thenP (fun s => ∃ s', Wk s s' ∧ s' = lyS15 c e) Q) (lyS14 c e) := by
  simp only [lyS14, lyS15, Tryz.f3, bodyOf, Option.getD_some, tlC, hdC, lpC]
  obtain ⟨hRi, hRs, hPi, hPs, hRt, hPt, hPq, hRq, hPe, hRe, hT, k2, hmu, hml⟩ := lyF c e h
  obtain ⟨ho, oe, hI, hS⟩ := h
  obtain ⟨X, hX⟩ : ∃ X, mkc c = X := ⟨_, rfl⟩
  rw [hX]
  obtain ⟨T, hTT⟩ : ∃ T, lTot 1 (lLen e) 7 = T := ⟨_, rfl⟩
  rw [hTT] at hT
  obtain ⟨Y, hY⟩ : ∃ Y, mke e = Y := ⟨_, rfl⟩
  simp only [hTT, hY]
  simp -implicitDefEqProofs [List.lookup_cons, and_assoc, pick_and, pick_or, if_and, if_or, pBx, dBx, gBx, lBx, obCls, obFil, iOb, lO, lOb, rO, rOb, cO, cOb, tOb, pl2osl, pnil2, hT, hRi, hRs, hPi, hPs, hRt, hPt, hPe, hRe, pur2_tup, pur2_b, pur2_i, pur2_sl, pur_sl, pur_b, pur_v, pur_oslE]
  exact Wk.tl (by simp [hold, upd, tl_cons])
theorem ly_15 (c : Cfg) (e : Ldd) (h : LdOk c e) {Q : Exit → St → Prop} : awp Tryz.prog (envN K [(5, F5), (7, F7), (6, F6), (8, F8), (9, F9), (10, F10), (13, F13)] [(11, M11), (12, M12)] []) (hdC (tlC (tlC (tlC (tlC (tlC (tlC (tlC (tlC (tlC (tlC (tlC (tlC (tlC (tlC (tlC (bodyOf Tryz.f3))))))))))))))))) (thenP (fun s => ∃ s', Wk s s' ∧ s' = lyS16 c e) Q) (lyS15 c e) := by
  simp only [lyS15, lyS16, Tryz.f3, bodyOf, Option.getD_some, tlC, hdC, lpC]
  obtain ⟨hRi, hRs, hPi, hPs, hRt, hPt, hPq, hRq, hPe, hRe, hT, k2, hmu, hml⟩ := lyF c e h
  obtain ⟨ho, oe, hI, hS⟩ := h
  obtain ⟨X, hX⟩ : ∃ X, mkc c = X := ⟨_, rfl⟩
  rw [hX]
  have hp1 : F13.pre [.agg [.v (.string e.name), .sl (tR (mke e).cls), .sl (iR (mke e).par), .sl (iR (mke e).fst), .sl (iR (mke e).nx), .sl (iR (mke e).en), .sl (tR (mke e).fil), .sl (iR (mke e).tgt), I e.dflt], .v (.int .i64 1)] := ⟨e.name, 1, lLen e, e.dflt, rfl, fun i => by
    obtain ⟨h1, h2, h3, h4, h5, h6, h7⟩ := oe
    rcases i with _ | _ | _ | _ | _ | _ | _ | i <;> simp [lLen] <;> omega, by omega, by omega⟩
  have hr1 : F13.res [.agg [.v (.string e.name), .sl (tR (mke e).cls), .sl (iR (mke e).par), .sl (iR (mke e).fst), .sl (iR (mke e).nx), .sl (iR (mke e).en), .sl (tR (mke e).fil), .sl (iR (mke e).tgt), I e.dflt], .v (.int .i64 1)] = (I (lTot 1 (lLen e) 7), []) := held_res e.name 1 (lLen e) e.dflt
  obtain ⟨T, hTT⟩ : ∃ T, lTot 1 (lLen e) 7 = T := ⟨_, rfl⟩
  rw [hTT] at hT
  obtain ⟨Y, hY⟩ : ∃ Y, mke e = Y := ⟨_, rfl⟩
  rw [hTT, hY] at hr1
  rw [hY] at hp1
  simp only [hTT, hY]
  simp -implicitDefEqProofs [List.lookup_cons, and_assoc, pick_and, pick_or, if_and, if_or, pBx, dBx, gBx, lBx, obCls, obFil, iOb, lO, lOb, rO, rOb, cO, cOb, tOb, pl2osl, pnil2, hp1, hr1]
  exact Wk.tl (by simp [hold, upd, tl_cons])
theorem ly_16 (c : Cfg) (e : Ldd) (h : LdOk c e) {Q : Exit → St → Prop} : awp Tryz.prog (envN K [(5, F5), (7, F7), (6, F6), (8, F8), (9, F9), (10, F10), (13, F13)] [(11, M11), (12, M12)] []) (hdC (tlC (tlC (tlC (tlC (tlC (tlC (tlC (tlC (tlC (tlC (tlC (tlC (tlC (tlC (tlC (tlC (bodyOf Tryz.f3)))))))))))))))))) (thenP (fun s => ∃ s', Wk s s' ∧ s' = lyS17 c e) Q) (lyS16 c e) := by
  simp only [lyS16, lyS17, Tryz.f3, bodyOf, Option.getD_some, tlC, hdC, lpC]
  obtain ⟨hRi, hRs, hPi, hPs, hRt, hPt, hPq, hRq, hPe, hRe, hT, k2, hmu, hml⟩ := lyF c e h
  obtain ⟨ho, oe, hI, hS⟩ := h
  obtain ⟨X, hX⟩ : ∃ X, mkc c = X := ⟨_, rfl⟩
  rw [hX]
  obtain ⟨T, hTT⟩ : ∃ T, lTot 1 (lLen e) 7 = T := ⟨_, rfl⟩
  rw [hTT] at hT
  obtain ⟨Y, hY⟩ : ∃ Y, mke e = Y := ⟨_, rfl⟩
  simp only [hTT, hY]
  simp -implicitDefEqProofs [List.lookup_cons, and_assoc, pick_and, pick_or, if_and, if_or, pBx, dBx, gBx, lBx, obCls, obFil, iOb, lO, lOb, rO, rOb, cO, cOb, tOb, pl2osl, pnil2, hT, hRi, hRs, hPi, hPs, hRt, hPt, hPe, hRe, pur2_tup, pur2_b, pur2_i, pur2_sl, pur_sl, pur_b, pur_v, pur_oslE]
  exact Wk.tl (by simp [hold, upd, tl_cons])
theorem ly_17 (c : Cfg) (e : Ldd) (h : LdOk c e) {Q : Exit → St → Prop} : awp Tryz.prog (envN K [(5, F5), (7, F7), (6, F6), (8, F8), (9, F9), (10, F10), (13, F13)] [(11, M11), (12, M12)] []) (hdC (tlC (tlC (tlC (tlC (tlC (tlC (tlC (tlC (tlC (tlC (tlC (tlC (tlC (tlC (tlC (tlC (tlC (bodyOf Tryz.f3))))))))))))))))))) (thenP (fun s => ∃ s', Wk s s' ∧ s' = lyS18 c e) Q) (lyS17 c e) := by
  simp only [lyS17, lyS18, Tryz.f3, bodyOf, Option.getD_some, tlC, hdC, lpC]
  obtain ⟨hRi, hRs, hPi, hPs, hRt, hPt, hPq, hRq, hPe, hRe, hT, k2, hmu, hml⟩ := lyF c e h
  obtain ⟨ho, oe, hI, hS⟩ := h
  obtain ⟨X, hX⟩ : ∃ X, mkc c = X := ⟨_, rfl⟩
  rw [hX]
  obtain ⟨T, hTT⟩ : ∃ T, lTot 1 (lLen e) 7 = T := ⟨_, rfl⟩
  rw [hTT] at hT
  obtain ⟨Y, hY⟩ : ∃ Y, mke e = Y := ⟨_, rfl⟩
  simp only [hTT, hY]
  simp -implicitDefEqProofs [List.lookup_cons, and_assoc, pick_and, pick_or, if_and, if_or, pBx, dBx, gBx, lBx, obCls, obFil, iOb, lO, lOb, rO, rOb, cO, cOb, tOb, pl2osl, pnil2, hT, hRi, hRs, hPi, hPs, hRt, hPt, hPe, hRe, pur2_tup, pur2_b, pur2_i, pur2_sl, pur_sl, pur_b, pur_v, pur_oslE]
  exact Wk.tl (by simp [hold, upd, tl_cons])
theorem ly_18 (c : Cfg) (e : Ldd) (h : LdOk c e) {Q : Exit → St → Prop} : awp Tryz.prog (envN K [(5, F5), (7, F7), (6, F6), (8, F8), (9, F9), (10, F10), (13, F13)] [(11, M11), (12, M12)] []).pu (hdC (tlC (tlC (tlC (tlC (tlC (tlC (tlC (tlC (tlC (tlC (tlC (tlC (tlC (tlC (tlC (tlC (tlC (tlC (bodyOf Tryz.f3)))))))))))))))))))) (thenP (fun s => ∃ s', Wk s s' ∧ s' = lyS19 c e) Q) (lyS18 c e) := by
  simp only [lyS18, lyS19, Tryz.f3, bodyOf, Option.getD_some, tlC, hdC, lpC]
  obtain ⟨hRi, hRs, hPi, hPs, hRt, hPt, hPq, hRq, hPe, hRe, hT, k2, hmu, hml⟩ := lyF c e h
  obtain ⟨ho, oe, hI, hS⟩ := h
  obtain ⟨X, hX⟩ : ∃ X, mkc c = X := ⟨_, rfl⟩
  rw [hX]
  obtain ⟨T, hTT⟩ : ∃ T, lTot 1 (lLen e) 7 = T := ⟨_, rfl⟩
  rw [hTT] at hT
  obtain ⟨Y, hY⟩ : ∃ Y, mke e = Y := ⟨_, rfl⟩
  simp only [hTT, hY]
  simp -implicitDefEqProofs [List.lookup_cons, and_assoc, pick_and, pick_or, if_and, if_or, pBx, dBx, gBx, lBx, obCls, obFil, iOb, lO, lOb, rO, rOb, cO, cOb, tOb, pl2osl, pnil2, hT, hRi, hRs, hPi, hPs, hRt, hPt, hPe, hRe, pur2_tup, pur2_b, pur2_i, pur2_sl, pur_sl, pur_b, pur_v, pur_oslE]
  exact Wk.tl (by simp [hold, upd, tl_cons])
end Go.Proofs

namespace Go.Proofs
open Go.Abs
set_option linter.unusedSimpArgs false
set_option linter.unnecessarySimpa false
set_option linter.unusedVariables false
set_option maxHeartbeats 16000000
set_option maxRecDepth 20000

theorem ly_19 (c : Cfg) (e : Ldd) (h : LdOk c e) {Q : Exit → St → Prop} : awp Tryz.prog (envN K [(5, F5), (7, F7), (6, F6), (8, F8), (9, F9), (10, F10), (13, F13)] [(11, M11), (12, M12)] []) (hdC (tlC (tlC (tlC (tlC (tlC (tlC (tlC (tlC (tlC (tlC (tlC (tlC (tlC (tlC (tlC (tlC (tlC (tlC (tlC (bodyOf Tryz.f3))))))))))))))))))))) (thenP (fun s => ∃ s', Wk s s' ∧ s' = lyS20 c e) Q) (lyS19 c e) := by
  simp only [lyS19, lyS20, Tryz.f3, bodyOf, Option.getD_some, tlC, hdC, lpC]
  obtain ⟨hRi, hRs, hPi, hPs, hRt, hPt, hPq, hRq, hPe, hRe, hT, k2, hmu, hml⟩ := lyF c e h
  obtain ⟨ho, oe, hI, hS⟩ := h
  obtain ⟨X, hX⟩ : ∃ X, mkc c = X := ⟨_, rfl⟩
  rw [hX]
  obtain ⟨T, hTT⟩ : ∃ T, lTot 1 (lLen e) 7 = T := ⟨_, rfl⟩
  rw [hTT] at hT
  obtain ⟨Y, hY⟩ : ∃ Y, mke e = Y := ⟨_, rfl⟩
  simp only [hTT, hY]
  simp -implicitDefEqProofs [List.lookup_cons, and_assoc, pick_and, pick_or, if_and, if_or, pBx, dBx, gBx, lBx, obCls, obFil, iOb, lO, lOb, rO, rOb, cO, cOb, tOb, pl2osl, pnil2, hT, hRi, hRs, hPi, hPs, hRt, hPt, hPe, hRe, pur2_tup, pur2_b, pur2_i, pur2_sl, pur_sl, pur_b, pur_v, pur_oslE]
  refine Wk.tlPN [0, 1, 2, 3, 4, 5, 6, 7, 8, 9, 10, 11, 12] (by simp [pickOkN]) (by simp) ?_
  simp [hold, upd, tl_cons]
theorem ly_20 (c : Cfg) (e : Ldd) (h : LdOk c e) {Q : Exit → St → Prop} : awp Tryz.prog (envN K [(5, F5), (7, F7), (6, F6), (8, F8), (9, F9), (10, F10), (13, F13)] [(11, M11), (12, M12)] []) (hdC (tlC (tlC (tlC (tlC (tlC (tlC (tlC (tlC (tlC (tlC (tlC (tlC (tlC (tlC (tlC (tlC (tlC (tlC (tlC (tlC (bodyOf Tryz.f3)))))))))))))))))))))) (thenP (fun s => ∃ s', Wk s s' ∧ s' = lyS21 c e) Q) (lyS20 c e) := by
  simp only [lyS20, lyS21, Tryz.f3, bodyOf, Option.getD_some, tlC, hdC, lpC]
  obtain ⟨hRi, hRs, hPi, hPs, hRt, hPt, hPq, hRq, hPe, hRe, hT, k2, hmu, hml⟩ := lyF c e h
  obtain ⟨ho, oe, hI, hS⟩ := h
  obtain ⟨X, hX⟩ : ∃ X, mkc c = X := ⟨_, rfl⟩
  rw [hX]
  obtain ⟨T, hTT⟩ : ∃ T, lTot 1 (lLen e) 7 = T := ⟨_, rfl⟩
  rw [hTT] at hT
  obtain ⟨Y, hY⟩ : ∃ Y, mke e = Y := ⟨_, rfl⟩
  simp only [hTT, hY]
  simp -implicitDefEqProofs [List.lookup_cons, and_assoc, pick_and, pick_or, if_and, if_or, pBx, dBx, gBx, lBx, obCls, obFil, iOb, lO, lOb, rO, rOb, cO, cOb, tOb, pl2osl, pnil2, hT, hRi, hRs, hPi, hPs, hRt, hPt, hPe, hRe, pur2_tup, pur2_b, pur2_i, pur2_sl, pur_sl, pur_b, pur_v, pur_oslE]
  exact Wk.tl (by simp [hold, upd, tl_cons])
theorem ly_21 (c : Cfg) (e : Ldd) (h : LdOk c e) {Q : Exit → St → Prop} : awp Tryz.prog (envN K [(5, F5), (7, F7), (6, F6), (8, F8), (9, F9), (10, F10), (13, F13)] [(11, M11), (12, M12)] []) (hdC (tlC (tlC (tlC (tlC (tlC (tlC (tlC (tlC (tlC (tlC (tlC (tlC (tlC (tlC (tlC (tlC (tlC (tlC (tlC (tlC (tlC (bodyOf Tryz.f3))))))))))))))))))))))) (thenP (fun s => ∃ s', Wk s s' ∧ s' = lyS22 c e) Q) (lyS21 c e) := by
  simp only [lyS21, lyS22, Tryz.f3, bodyOf, Option.getD_some, tlC, hdC, lpC]
  obtain ⟨hRi, hRs, hPi, hPs, hRt, hPt, hPq, hRq, hPe, hRe, hT, k2, hmu, hml⟩ := lyF c e h
  obtain ⟨ho, oe, hI, hS⟩ := h
  obtain ⟨X, hX⟩ : ∃ X, mkc c = X := ⟨_, rfl⟩
  rw [hX]
  have hp1 : F13.pre [.agg [.v (.string e.name), .sl (tR (mke e).cls), .sl (iR (mke e).par), .sl (iR (mke e).fst), .sl (iR (mke e).nx), .sl (iR (mke e).en), .sl (tR (mke e).fil), .sl (iR (mke e).tgt), I e.dflt], .v (.int .i64 1)] := ⟨e.name, 1, lLen e, e.dflt, rfl, fun i => by
    obtain ⟨h1, h2, h3, h4, h5, h6, h7⟩ := oe
    rcases i with _ | _ | _ | _ | _ | _ | _ | i <;> simp [lLen] <;> omega, by omega, by omega⟩
  have hr1 : F13.res [.agg [.v (.string e.name), .sl (tR (mke e).cls), .sl (iR (mke e).par), .sl (iR (mke e).fst), .sl (iR (mke e).nx), .sl (iR (mke e).en), .sl (tR (mke e).fil), .sl (iR (mke e).tgt), I e.dflt], .v (.int .i64 1)] = (I (lTot 1 (lLen e) 7), []) := held_res e.name 1 (lLen e) e.dflt
  obtain ⟨T, hTT⟩ : ∃ T, lTot 1 (lLen e) 7 = T := ⟨_, rfl⟩
  rw [hTT] at hT
  obtain ⟨Y, hY⟩ : ∃ Y, mke e = Y := ⟨_, rfl⟩
  rw [hTT, hY] at hr1
  rw [hY] at hp1
  simp only [hTT, hY]
  simp -implicitDefEqProofs [List.lookup_cons, and_assoc, pick_and, pick_or, if_and, if_or, pBx, dBx, gBx, lBx, obCls, obFil, iOb, lO, lOb, rO, rOb, cO, cOb, tOb, pl2osl, pnil2, hp1, hr1]
  exact Wk.tl (by simp [hold, upd, tl_cons])
theorem ly_22 (c : Cfg) (e : Ldd) (h : LdOk c e) {Q : Exit → St → Prop} : awp Tryz.prog (envN K [(5, F5), (7, F7), (6, F6), (8, F8), (9, F9), (10, F10), (13, F13)] [(11, M11), (12, M12)] []) (hdC (tlC (tlC (tlC (tlC (tlC (tlC (tlC (tlC (tlC (tlC (tlC (tlC (tlC (tlC (tlC (tlC (tlC (tlC (tlC (tlC (tlC (tlC (bodyOf Tryz.f3)))))))))))))))))))))))) (thenP (fun s => ∃ s', Wk s s' ∧ s' = lyS23 c e) Q) (lyS22 c e) := by
  simp only [lyS22, lyS23, Tryz.f3, bodyOf, Option.getD_some, tlC, hdC, lpC]
  obtain ⟨hRi, hRs, hPi, hPs, hRt, hPt, hPq, hRq, hPe, hRe, hT, k2, hmu, hml⟩ := lyF c e h
  obtain ⟨ho, oe, hI, hS⟩ := h
  obtain ⟨X, hX⟩ : ∃ X, mkc c = X := ⟨_, rfl⟩
  rw [hX]
  obtain ⟨T, hTT⟩ : ∃ T, lTot 1 (lLen e) 7 = T := ⟨_, rfl⟩
  rw [hTT] at hT
  obtain ⟨Y, hY⟩ : ∃ Y, mke e = Y := ⟨_, rfl⟩
  simp only [hTT, hY]
  simp -implicitDefEqProofs [List.lookup_cons, and_assoc, pick_and, pick_or, if_and, if_or, pBx, dBx, gBx, lBx, obCls, obFil, iOb, lO, lOb, rO, rOb, cO, cOb, tOb, pl2osl, pnil2, hT, hRi, hRs, hPi, hPs, hRt, hPt, hPe, hRe, pur2_tup, pur2_b, pur2_i, pur2_sl, pur_sl, pur_b, pur_v, pur_oslE]
  exact Wk.tl (by simp [hold, upd, tl_cons])
theorem ly_23 (c : Cfg) (e : Ldd) (h : LdOk c e) {Q : Exit → St → Prop} : awp Tryz.prog (envN K [(5, F5), (7, F7), (6, F6), (8, F8), (9, F9), (10, F10), (13, F13)] [(11, M11), (12, M12)] []) (hdC (tlC (tlC (tlC (tlC (tlC (tlC (tlC (tlC (tlC (tlC (tlC (tlC (tlC (tlC (tlC (tlC (tlC (tlC (tlC (tlC (tlC (tlC (tlC (bodyOf Tryz.f3))))))))))))))))))))))))) (thenP (fun s => ∃ s', Wk s s' ∧ s' = lyS24 c e) Q) (lyS23 c e) := by
  simp only [lyS23, lyS24, Tryz.f3, bodyOf, Option.getD_some, tlC, hdC, lpC]
  obtain ⟨hRi, hRs, hPi, hPs, hRt, hPt, hPq, hRq, hPe, hRe, hT, k2, hmu, hml⟩ := lyF c e h
  obtain ⟨ho, oe, hI, hS⟩ := h
  obtain ⟨X, hX⟩ : ∃ X, mkc c = X := ⟨_, rfl⟩
  rw [hX]
  obtain ⟨T, hTT⟩ : ∃ T, lTot 1 (lLen e) 7 = T := ⟨_, rfl⟩
  rw [hTT] at hT
  obtain ⟨Y, hY⟩ : ∃ Y, mke e = Y := ⟨_, rfl⟩
  simp only [hTT, hY]
  simp -implicitDefEqProofs [List.lookup_cons, and_assoc, pick_and, pick_or, if_and, if_or, pBx, dBx, gBx, lBx, obCls, obFil, iOb, lO, lOb, rO, rOb, cO, cOb, tOb, pl2osl, pnil2, hT, hRi, hRs, hPi, hPs, hRt, hPt, hPe, hRe, pur2_tup, pur2_b, pur2_i, pur2_sl, pur_sl, pur_b, pur_v, pur_oslE]
  refine Wk.tlPN [0] (by simp [pickOkN]) (by simp) ?_
  simp [hold, upd, tl_cons]
end Go.Proofs
