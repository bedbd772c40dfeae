/-
  What is proved here: contracts of both FlatText and of the law. Condition: none.
-/
import Derived.Test.YtbiakbagcdghlaaDoorG2v
import Derived.Test.YtbiakbagcdghlaaDoorLCv
namespace Go.Proofs
open Go.Abs
set_option linter.unusedSimpArgs false
set_option linter.unnecessarySimpa false
set_option linter.unusedVariables false
set_option maxHeartbeats 8000000
set_option maxRecDepth 20000

theorem pur2_oslG (h : List Ob) (k ver : Nat) : purN h 2 (.osl k ver) = (match h[k]? with
    | some ob => if ob.ver = ver ∧ ob.bx = false then .sl (ob.rows.map fun r => r.map (purN h 1)) else .top
    | none => .top) := rfl
def F7 : Fun := ⟨fun xs => xs = [.agg (cX (deC (xs.getD 0 .top) : Cfg))] ∧ (fun (c : Cfg) => (okC c)) (deC (xs.getD 0 .top) : Cfg), fun xs => (fun (c : Cfg) => ((ftR c, []) : X × List Ob)) (deC (xs.getD 0 .top) : Cfg)⟩
theorem F7_in {xs : List X} (h : F7.pre xs) : ∃ (c : Cfg), xs = [.agg (cX c)] ∧ (okC c) := ⟨_, h.1, h.2⟩
theorem F7_res (c : Cfg) : F7.res [.agg (cX c)] = (ftR c, []) := by simp [F7]
theorem F7_mk (c : Cfg) (h : okC c) : F7.pre [.agg (cX c)] := by simpa [F7] using h
theorem c7 : GenCA K3 Tryd.prog 7 F7 := by
  refine contractA Tryd.mix K3 [(15, F15), (16, F16), (17, F17), (18, F18), (19, F19)] [] (by simp [c15, toK3 c16, toK3 c17, toK3 c18, toK3 c19]) (by simp) Tryd.func7 rfl (by decide) ?_
  intro xs hxs
  obtain ⟨c, rfl, hp⟩ := F7_in hxs
  rw [F7_res]
  refine ⟨by rw [Tryd.ntmps7]; simp, ?_⟩
  obtain ⟨hl1, hl2, hn⟩ := hp
  have okc : okC c := ⟨hl1, hl2, hn⟩
  cases hS : stOk c with
  | false =>
    simp -implicitDefEqProofs [Tryd.f7, F15, F16, F17, F18, F19, List.lookup_cons, and_assoc, pick_and, pick_or, if_and, if_or, okc, hS]
    refine fin_pure (by simp) ?_
    simp -implicitDefEqProofs [pur2_i, pur2_b, pur2_s, pur2_nil, pur2_sl, pur2_tup, rn2_tup, rn2_agg, rn2_osl, rn1_v, rn1_osl, rn1_agg, rn0_v, rn0_sl, rn0, pickObs, pur_v, pur_b, pur_s, pur_nil, pur_sl, deI, deIs_sl, ftR, ftOk, hS, emB]
  | true =>
  obtain ⟨g24, g16, hd, hcl⟩ := stOk_s hS
  simp -implicitDefEqProofs [Tryd.f7, List.lookup_cons, and_assoc, pick_and, pick_or, if_and, if_or, F15, okc, hS]
  refine drawP_all _ (by decide) ?_
  have hq := numB_size c.dflt.toNat (by omega)
  simp -implicitDefEqProofs [List.lookup_cons, and_assoc, pick_and, pick_or, if_and, if_or, cBx, F16, hd, ba_sz, show (ByteArray.mk #[99, 111, 110, 102, 105, 103, 32]).size = 7 from rfl, show (ByteArray.mk #[10, 100, 101, 102, 97, 117, 108, 116, 32]).size = 9 from rfl, show (ByteArray.mk #[10]).size = 1 from rfl]
  repeat refine ⟨by omega, ?_⟩
  have hz0 := hdT_size hn hd
  refine loopP_inv (fun k : Nat => ⟨51, tl [(1, .optr 0 0 0 0), (4, .v (.string (hdT c ++ cT (c.cls.take k)))), (22, .sl (tR c.cls)), (23, I c.cls.length), (24, I k)], [cBx c]⟩) (fun k => k ≤ c.cls.length) (fun k => c.cls.length - k) 0 (Nat.zero_le _) ?_ ?_
  · rw [show hdT c ++ cT (c.cls.take 0) = hdT c from em_r _]
    exact Wk.tl (by simp [hold, upd, tl_cons, hdT])
  intro k hk
  by_cases h : k < c.cls.length
  · have hw1 := w64n (show k < 4611686018427387904 by omega)
    have hok := hcl c.cls[k] (List.getElem_mem h)
    have z1 := lineC_size hok
    have z2 := cT_size (c.cls.take k) fun x hx => hcl x (List.mem_of_mem_take hx)
    have z3 : (c.cls.take k).length ≤ 24 := by simp; omega
    have hT : hdT c ++ cT (c.cls.take (k + 1)) = hdT c ++ cT (c.cls.take k) ++ (lineC c.cls[k] ++ nlB) := by rw [takeS c.cls k h, cT_snoc, ba_assoc]
    unfold nlB at hT
    simp -implicitDefEqProofs [List.lookup_cons, and_assoc, pick_and, pick_or, if_and, if_or, h, cBx, F15, F16, F17, F18, F19, hok, ba_sz, show (ByteArray.mk #[10]).size = 1 from rfl]
    refine ⟨by omega, by omega, k + 1, by omega, by omega, ?_⟩
    rw [hT]
    exact Wk.tlD (m := 1) rfl (by simp [hold, upd, tl_cons, hw1]) (by simp [okL_cons, okL_nil, ok1, ok0]) (okH_cBx _ _ _ (by simp [okH_nil]))
  · have e : k = c.cls.length := by omega
    subst e
    rw [List.take_length]
    have y1 := cT_size c.cls hcl
    simp -implicitDefEqProofs [List.lookup_cons, and_assoc, pick_and, pick_or, if_and, if_or, cBx]
    refine loopP_inv (fun k : Nat => ⟨51, tl [(1, .optr 0 0 0 0), (4, .v (.string (hdT c ++ cT c.cls ++ fT (c.fil.take k)))), (35, .sl (tR c.fil)), (36, I c.fil.length), (37, I k)], [cBx c]⟩) (fun k => k ≤ c.fil.length ∧ (c.fil.take k).all okF = true) (fun k => c.fil.length - k) 0 ⟨Nat.zero_le _, rfl⟩ ?_ ?_
    · rw [show hdT c ++ cT c.cls ++ fT (c.fil.take 0) = hdT c ++ cT c.cls from em_r _]
      exact Wk.tl (by simp [hold, upd, tl_cons])
    rintro k ⟨hk, ha⟩
    by_cases h : k < c.fil.length
    · have hw1 := w64n (show k < 4611686018427387904 by omega)
      cases hok : okF c.fil[k] with
      | false =>
        have hA := all_bF c.fil okF k h hok
        simp -implicitDefEqProofs [List.lookup_cons, and_assoc, pick_and, pick_or, if_and, if_or, h, cBx, F15, F16, F17, F18, F19, hok]
        refine fin_pure (by simp) ?_
        simp -implicitDefEqProofs [pur2_i, pur2_b, pur2_s, pur2_nil, pur2_sl, pur2_tup, rn2_tup, rn2_agg, rn2_osl, rn1_v, rn1_osl, rn1_agg, rn0_v, rn0_sl, rn0, pickObs, pur_v, pur_b, pur_s, pur_nil, pur_sl, deI, deIs_sl, ftR, ftOk, hA, emB, -List.all_eq_false, -List.all_eq_true]
      | true =>
        have hg := all_sF c.fil okF k h ha hok
        have z1 := lineF_size hok
        have z2 := fT_size (c.fil.take k) fun x hx => List.all_eq_true.1 ha x hx
        have z3 : (c.fil.take k).length ≤ 16 := by simp; omega
        have hT : hdT c ++ cT c.cls ++ fT (c.fil.take (k + 1)) = hdT c ++ cT c.cls ++ fT (c.fil.take k) ++ (lineF c.fil[k] ++ nlB) := by rw [takeS c.fil k h, fT_snoc, ba_assoc (hdT c ++ cT c.cls)]
        unfold nlB at hT
        simp -implicitDefEqProofs [List.lookup_cons, and_assoc, pick_and, pick_or, if_and, if_or, h, cBx, F15, F16, F17, F18, F19, hok, ba_sz, show (ByteArray.mk #[10]).size = 1 from rfl]
        refine ⟨by omega, by omega, k + 1, by omega, List.all_eq_true.1 hg, by omega, ?_⟩
        rw [hT]
        exact Wk.tlD (m := 1) rfl (by simp [hold, upd, tl_cons, hw1]) (by simp [okL_cons, okL_nil, ok1, ok0]) (okH_cBx _ _ _ (by simp [okH_nil]))
    · have e : k = c.fil.length := by omega
      subst e
      rw [List.take_length] at ha ⊢
      simp -implicitDefEqProofs [List.lookup_cons, and_assoc, pick_and, pick_or, if_and, if_or, cBx]
      refine fin_pure (by simp) ?_
      simp -implicitDefEqProofs [pur2_i, pur2_b, pur2_s, pur2_nil, pur2_sl, pur2_tup, rn2_tup, rn2_agg, rn2_osl, rn1_v, rn1_osl, rn1_agg, rn0_v, rn0_sl, rn0, pickObs, pur_v, pur_b, pur_s, pur_nil, pur_sl, deI, deIs_sl, ftR, ftOk, hS, ha, txT, -List.all_eq_true]
def F11 : Fun := ⟨fun xs => xs = [.agg (cX (deC (xs.getD 0 .top) : Cfg))] ∧ (fun (c : Cfg) => (okC c)) (deC (xs.getD 0 .top) : Cfg), fun xs => (fun (c : Cfg) => ((B (ftOk c), []) : X × List Ob)) (deC (xs.getD 0 .top) : Cfg)⟩
theorem F11_in {xs : List X} (h : F11.pre xs) : ∃ (c : Cfg), xs = [.agg (cX c)] ∧ (okC c) := ⟨_, h.1, h.2⟩
theorem F11_res (c : Cfg) : F11.res [.agg (cX c)] = (B (ftOk c), []) := by simp [F11]
theorem F11_mk (c : Cfg) (h : okC c) : F11.pre [.agg (cX c)] := by simpa [F11] using h
theorem c11 : GenCA K3 Tryd.prog 11 F11 := by
  refine contractA Tryd.mix K3 [(22, F18), (23, F15)] [] (by simp [toK3 c22, c23]) (by simp) Tryd.func11 rfl (by decide) ?_
  intro xs hxs
  obtain ⟨c, rfl, hp⟩ := F11_in hxs
  rw [F11_res]
  refine ⟨by rw [Tryd.ntmps11]; simp, ?_⟩
  obtain ⟨hl1, hl2, hn⟩ := hp
  have okc : okC c := ⟨hl1, hl2, hn⟩
  simp -implicitDefEqProofs [Tryd.f11, List.lookup_cons, and_assoc, pick_and, pick_or, if_and, if_or]
  refine loopP_inv (fun k : Nat => ⟨18, tl [(1, .optr 0 0 0 0), (6, .sl (tR c.fil)), (7, I c.fil.length), (8, I k)], [cBx c]⟩) (fun k => k ≤ c.fil.length ∧ (c.fil.take k).all okF = true) (fun k => c.fil.length - k) 0 ⟨Nat.zero_le _, rfl⟩ (Wk.tl (by simp [hold, upd, tl_cons])) ?_
  rintro k ⟨hk, ha⟩
  by_cases h : k < c.fil.length
  · have hw1 := w64n (show k < 4611686018427387904 by omega)
    cases hok : okF c.fil[k] with
    | false =>
      have hA := all_bF c.fil okF k h hok
      simp -implicitDefEqProofs [List.lookup_cons, and_assoc, pick_and, pick_or, if_and, if_or, h, cBx, F18, F15, hok]
      refine fin_pure (by simp) ?_
      simp -implicitDefEqProofs [pur2_i, pur2_b, pur2_s, pur2_nil, pur2_sl, pur2_tup, rn2_tup, rn2_agg, rn2_osl, rn1_v, rn1_osl, rn1_agg, rn0_v, rn0_sl, rn0, pickObs, pur_v, pur_b, pur_s, pur_nil, pur_sl, deI, deIs_sl, ftOk, hA, -List.all_eq_false, -List.all_eq_true]
    | true =>
      have hg := all_sF c.fil okF k h ha hok
      simp -implicitDefEqProofs [List.lookup_cons, and_assoc, pick_and, pick_or, if_and, if_or, h, cBx, F18, F15, hok]
      refine ⟨k + 1, by omega, List.all_eq_true.1 hg, by omega, ?_⟩
      exact Wk.tlD (m := 1) rfl (by simp [hold, upd, tl_cons, hw1]) (by simp [okL_cons, okL_nil, ok1, ok0]) (okH_cBx _ _ _ (by simp [okH_nil]))
  · have e : k = c.fil.length := by omega
    subst e
    rw [List.take_length] at ha
    simp -implicitDefEqProofs [List.lookup_cons, and_assoc, pick_and, pick_or, if_and, if_or, cBx, F18, F15, okc]
    refine fin_pure (by simp) ?_
    simp -implicitDefEqProofs [pur2_i, pur2_b, pur2_s, pur2_nil, pur2_sl, pur2_tup, rn2_tup, rn2_agg, rn2_osl, rn1_v, rn1_osl, rn1_agg, rn0_v, rn0_sl, rn0, pickObs, pur_v, pur_b, pur_s, pur_nil, pur_sl, deI, deIs_sl, ftOk, ha, -List.all_eq_true]
def F12 : Fun := ⟨fun xs => xs = [.agg (cX (deC (xs.getD 0 .top) : Cfg))] ∧ (fun (c : Cfg) => (okC c ∧ ftOk c = true)) (deC (xs.getD 0 .top) : Cfg), fun xs => (fun (c : Cfg) => ((.v (.string (txT c)), []) : X × List Ob)) (deC (xs.getD 0 .top) : Cfg)⟩
theorem F12_in {xs : List X} (h : F12.pre xs) : ∃ (c : Cfg), xs = [.agg (cX c)] ∧ (okC c ∧ ftOk c = true) := ⟨_, h.1, h.2⟩
theorem F12_res (c : Cfg) : F12.res [.agg (cX c)] = (.v (.string (txT c)), []) := by simp [F12]
theorem F12_mk (c : Cfg) (h : okC c ∧ ftOk c = true) : F12.pre [.agg (cX c)] := by simpa [F12] using h
theorem c12 : GenCA K3 Tryd.prog 12 F12 := by
  refine contractA Tryd.mix K3 [(24, F24), (25, F17), (26, F19)] [] (by simp [toK3 c24, toK3 c25, toK3 c26]) (by simp) Tryd.func12 rfl (by decide) ?_
  intro xs hxs
  obtain ⟨c, rfl, hp⟩ := F12_in hxs
  rw [F12_res]
  refine ⟨by rw [Tryd.ntmps12]; simp, ?_⟩
  obtain ⟨⟨hl1, hl2, hn⟩, ho⟩ := hp
  simp only [ftOk, Bool.and_eq_true] at ho
  obtain ⟨hS, hF⟩ := ho
  have hfl : ∀ x ∈ c.fil, okF x = true := List.all_eq_true.1 hF
  obtain ⟨g24, g16, hd, hcl⟩ := stOk_s hS
  simp -implicitDefEqProofs [Tryd.f12, List.lookup_cons, and_assoc, pick_and, pick_or, if_and, if_or]
  refine drawP_all _ (by decide) ?_
  have hq := numB_size c.dflt.toNat (by omega)
  simp -implicitDefEqProofs [List.lookup_cons, and_assoc, pick_and, pick_or, if_and, if_or, cBx, F24, hd, ba_sz, show (ByteArray.mk #[99, 111, 110, 102, 105, 103, 32]).size = 7 from rfl, show (ByteArray.mk #[10, 100, 101, 102, 97, 117, 108, 116, 32]).size = 9 from rfl, show (ByteArray.mk #[10]).size = 1 from rfl]
  repeat refine ⟨by omega, ?_⟩
  have hz0 := hdT_size hn hd
  refine loopP_inv (fun k : Nat => ⟨44, tl [(1, .optr 0 0 0 0), (3, .v (.string (hdT c ++ cT (c.cls.take k)))), (18, .sl (tR c.cls)), (19, I c.cls.length), (20, I k)], [cBx c]⟩) (fun k => k ≤ c.cls.length) (fun k => c.cls.length - k) 0 (Nat.zero_le _) ?_ ?_
  · rw [show hdT c ++ cT (c.cls.take 0) = hdT c from em_r _]
    exact Wk.tl (by simp [hold, upd, tl_cons, hdT])
  intro k hk
  by_cases h : k < c.cls.length
  · have hw1 := w64n (show k < 4611686018427387904 by omega)
    have hok := hcl c.cls[k] (List.getElem_mem h)
    have z1 := lineC_size hok
    have z2 := cT_size (c.cls.take k) fun x hx => hcl x (List.mem_of_mem_take hx)
    have z3 : (c.cls.take k).length ≤ 24 := by simp; omega
    have hT : hdT c ++ cT (c.cls.take (k + 1)) = hdT c ++ cT (c.cls.take k) ++ (lineC c.cls[k] ++ nlB) := by rw [takeS c.cls k h, cT_snoc, ba_assoc]
    unfold nlB at hT
    simp -implicitDefEqProofs [List.lookup_cons, and_assoc, pick_and, pick_or, if_and, if_or, h, cBx, F24, F17, F19, hok, ba_sz, show (ByteArray.mk #[10]).size = 1 from rfl]
    refine ⟨by omega, by omega, k + 1, by omega, by omega, ?_⟩
    rw [hT]
    exact Wk.tlD (m := 1) rfl (by simp [hold, upd, tl_cons, hw1]) (by simp [okL_cons, okL_nil, ok1, ok0]) (okH_cBx _ _ _ (by simp [okH_nil]))
  · have e : k = c.cls.length := by omega
    subst e
    rw [List.take_length]
    have y1 := cT_size c.cls hcl
    simp -implicitDefEqProofs [List.lookup_cons, and_assoc, pick_and, pick_or, if_and, if_or, cBx]
    refine loopP_inv (fun k : Nat => ⟨44, tl [(1, .optr 0 0 0 0), (3, .v (.string (hdT c ++ cT c.cls ++ fT (c.fil.take k)))), (31, .sl (tR c.fil)), (32, I c.fil.length), (33, I k)], [cBx c]⟩) (fun k => k ≤ c.fil.length) (fun k => c.fil.length - k) 0 (Nat.zero_le _) ?_ ?_
    · rw [show hdT c ++ cT c.cls ++ fT (c.fil.take 0) = hdT c ++ cT c.cls from em_r _]
      exact Wk.tl (by simp [hold, upd, tl_cons])
    intro k hk
    by_cases h : k < c.fil.length
    · have hw1 := w64n (show k < 4611686018427387904 by omega)
      have hok := hfl c.fil[k] (List.getElem_mem h)
      have z1 := lineF_size hok
      have z2 := fT_size (c.fil.take k) fun x hx => hfl x (List.mem_of_mem_take hx)
      have z3 : (c.fil.take k).length ≤ 16 := by simp; omega
      have hT : hdT c ++ cT c.cls ++ fT (c.fil.take (k + 1)) = hdT c ++ cT c.cls ++ fT (c.fil.take k) ++ (lineF c.fil[k] ++ nlB) := by rw [takeS c.fil k h, fT_snoc, ba_assoc (hdT c ++ cT c.cls)]
      unfold nlB at hT
      simp -implicitDefEqProofs [List.lookup_cons, and_assoc, pick_and, pick_or, if_and, if_or, h, cBx, F24, F17, F19, hok, ba_sz, show (ByteArray.mk #[10]).size = 1 from rfl]
      refine ⟨by omega, by omega, k + 1, by omega,  by omega, ?_⟩
      rw [hT]
      exact Wk.tlD (m := 1) rfl (by simp [hold, upd, tl_cons, hw1]) (by simp [okL_cons, okL_nil, ok1, ok0]) (okH_cBx _ _ _ (by simp [okH_nil]))
    · have e : k = c.fil.length := by omega
      subst e
      rw [List.take_length]
      simp -implicitDefEqProofs [List.lookup_cons, and_assoc, pick_and, pick_or, if_and, if_or, cBx]
      refine fin_pure (by simp) ?_
      simp -implicitDefEqProofs [pur2_i, pur2_b, pur2_s, pur2_nil, pur2_sl, pur2_tup, rn2_tup, rn2_agg, rn2_osl, rn1_v, rn1_osl, rn1_agg, rn0_v, rn0_sl, rn0, pickObs, pur_v, pur_b, pur_s, pur_nil, pur_sl, deI, deIs_sl, txT]
theorem c5 : GenCA K3 Tryd.prog 5 F7 := by
  refine contractA Tryd.mix K3 [(11, F11), (12, F12)] [] (by simp [c11, c12]) (by simp) Tryd.func5 rfl (by decide) ?_
  intro xs hxs
  obtain ⟨c, rfl, hp⟩ := F7_in hxs
  rw [F7_res]
  refine ⟨by rw [Tryd.ntmps5]; simp, ?_⟩
  cases ho : ftOk c with
  | false =>
    simp -implicitDefEqProofs [Tryd.f5, F11, F12, List.lookup_cons, and_assoc, pick_and, pick_or, if_and, if_or, hp, ho]
    refine fin_pure (by simp) ?_
    simp -implicitDefEqProofs [pur2_i, pur2_b, pur2_s, pur2_nil, pur2_sl, pur2_tup, rn2_tup, rn2_agg, rn2_osl, rn1_v, rn1_osl, rn1_agg, rn0_v, rn0_sl, rn0, pickObs, pur_v, pur_b, pur_s, pur_nil, pur_sl, deI, deIs_sl, ftR, ho, emB]
  | true =>
    simp -implicitDefEqProofs [Tryd.f5, F11, F12, List.lookup_cons, and_assoc, pick_and, pick_or, if_and, if_or, hp, ho]
    refine fin_pure (by simp) ?_
    simp -implicitDefEqProofs [pur2_i, pur2_b, pur2_s, pur2_nil, pur2_sl, pur2_tup, rn2_tup, rn2_agg, rn2_osl, rn1_v, rn1_osl, rn1_agg, rn0_v, rn0_sl, rn0, pickObs, pur_v, pur_b, pur_s, pur_nil, pur_sl, deI, deIs_sl, ftR, ho]
def F3 : Fun := ⟨fun xs => xs = [.agg (cX (deC (xs.getD 0 .top) : Cfg))] ∧ (fun (c : Cfg) => (bigC c)) (deC (xs.getD 0 .top) : Cfg), fun xs => (fun (c : Cfg) => ((B true, []) : X × List Ob)) (deC (xs.getD 0 .top) : Cfg)⟩
theorem F3_in {xs : List X} (h : F3.pre xs) : ∃ (c : Cfg), xs = [.agg (cX c)] ∧ (bigC c) := ⟨_, h.1, h.2⟩
theorem F3_res (c : Cfg) : F3.res [.agg (cX c)] = (B true, []) := by simp [F3]
theorem F3_mk (c : Cfg) (h : bigC c) : F3.pre [.agg (cX c)] := by simpa [F3] using h
theorem c3 : GenCA K3 Tryd.prog 3 F3 := by
  refine contractA Tryd.mix K3 [(4, F4), (6, F6), (5, F7), (7, F7), (8, F8)] [] (by simp [toK3 c4, toK3 c6, c5, c7, toK3 c8]) (by simp) Tryd.func3 rfl (by decide) ?_
  intro xs hxs
  obtain ⟨c, rfl, hp⟩ := F3_in hxs
  rw [F3_res]
  refine ⟨by rw [Tryd.ntmps3]; simp, ?_⟩
  by_cases h1 : (1048576 : Int) < cSz c
  · simp -implicitDefEqProofs [Tryd.f3, F4, F6, F7, F7, F8, List.lookup_cons, and_assoc, pick_and, pick_or, if_and, if_or, rbR_iR, rbR_nil, rbOb_mk, iR_mf, pickOk, -List.all_eq_true, iR_ok, ok0, iR_eq_nil, deIs_nil, hp, h1]
    refine fin_pure (by simp) ?_
    simp -implicitDefEqProofs [pur2_i, pur2_b, pur2_s, pur2_nil, pur2_sl, pur2_tup, rn2_tup, rn2_agg, rn2_osl, rn1_v, rn1_osl, rn1_agg, rn0_v, rn0_sl, rn0, pickObs, pur_v, pur_b, pur_s, pur_nil, pur_sl, deI, deIs_sl]
  have hz1 : 0 ≤ cSz c := by unfold cSz; omega
  have e1 : ¬ (1048576 : Int) - cSz c < 0 := by omega
  have e1' : cSz c ≤ 1048576 := by omega
  have hoc := okC_of h1 (Int.le_refl _)
  have g1 := hoc.1
  have g2 := hoc.2.1
  have hR : ∃ b d, ftR c = .tup [.v (.string b), B d] := by
    unfold ftR
    split
    · exact ⟨_, _, rfl⟩
    · exact ⟨_, _, rfl⟩
  obtain ⟨b, d, hR⟩ := hR
  simp -implicitDefEqProofs [Tryd.f3, F4, F6, F7, F7, F8, List.lookup_cons, and_assoc, pick_and, pick_or, if_and, if_or, rbR_iR, rbR_nil, rbOb_mk, iR_mf, pickOk, -List.all_eq_true, iR_ok, ok0, iR_eq_nil, deIs_nil, hp, h1, e1, e1', hz1, hoc, hR, cO, cOb, tOb, tR_rb, pur2_oslG, pur2_tup, pur2_b, pur2_i, pur2_sl, pur_sl, pur_b, pur_v, pur_oslE]
  refine drawP_pu _ (by decide) ?_
  simp -implicitDefEqProofs [Tryd.f3, F4, F6, F7, F7, F8, List.lookup_cons, and_assoc, pick_and, pick_or, if_and, if_or, rbR_iR, rbR_nil, rbOb_mk, iR_mf, pickOk, -List.all_eq_true, iR_ok, ok0, iR_eq_nil, deIs_nil, hp, h1, e1, e1', hz1, hoc, hR, cO, cOb, tOb, tR_rb, pur2_oslG, pur2_tup, pur2_b, pur2_i, pur2_sl, pur_sl, pur_b, pur_v, pur_oslE]
  refine fin_pure (by simp) ?_
  simp -implicitDefEqProofs [pur2_i, pur2_b, pur2_s, pur2_nil, pur2_sl, pur2_tup, rn2_tup, rn2_agg, rn2_osl, rn1_v, rn1_osl, rn1_agg, rn0_v, rn0_sl, rn0, pickObs, pur_v, pur_b, pur_s, pur_nil, pur_sl, deI, deIs_sl]
end Go.Proofs
