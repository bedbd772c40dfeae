/-
  What is proved here: contracts of both FlatText and of the law. Condition: none.
-/
import Derived.Test.YtecpfgnkiifnpaaGreatDoorGGa
import Derived.Test.YtecpfgnkiifnpaaGreatDoorLCo
namespace Go.Proofs
open Go.Abs
set_option linter.unusedSimpArgs false
set_option linter.unnecessarySimpa false
set_option linter.unusedVariables false
set_option maxHeartbeats 8000000
set_option maxRecDepth 20000
theorem pur2_oslG (h : List Ob) (k ver : Nat) : purN h 2 (.osl k ver) = (match h[k]? with
    | some ob => if ob.ver = ver ∧ ob.bx = false then .sl (ob.rows.map fun r => r.map (purN h 1)) else .top
    | none => .top) := rfl
def F24 : Fun := ⟨fun xs => xs = [.agg (cX (deC (xs.getD 0 .top) : Cfg))] ∧ (fun (c : Cfg) => (okC c)) (deC (xs.getD 0 .top) : Cfg), fun xs => (fun (c : Cfg) => ((ftR c, []) : X × List Ob)) (deC (xs.getD 0 .top) : Cfg)⟩
theorem F24_in {xs : List X} (h : F24.pre xs) : ∃ (c : Cfg), xs = [.agg (cX c)] ∧ (okC c) := ⟨_, h.1, h.2⟩
theorem F24_res (c : Cfg) : F24.res [.agg (cX c)] = (ftR c, []) := by simp [F24]
theorem F24_mk (c : Cfg) (h : okC c) : F24.pre [.agg (cX c)] := by simpa [F24] using h
theorem c24 : GenCA K3 Tryz.prog 24 F24 := by
  refine contractA Tryz.mix K3 [(42, F42), (43, F43), (44, F44), (45, F45), (46, F46)] [] (by simp [c42, toK3 c43, toK3 c44, toK3 c45, toK3 c46]) (by simp) Tryz.func24 rfl (by decide) ?_
  intro xs hxs
  obtain ⟨c, rfl, hp⟩ := F24_in hxs
  rw [F24_res]
  refine ⟨by rw [Tryz.ntmps24]; simp, ?_⟩
  obtain ⟨hl1, hl2, hn⟩ := hp
  have okc : okC c := ⟨hl1, hl2, hn⟩
  cases hS : stOk c with
  | false =>
    simp -implicitDefEqProofs [Tryz.f24, F42, F43, F44, F45, F46, List.lookup_cons, eS, okc, hS]
    refine fin_pure (by simp) ?_
    simp -implicitDefEqProofs [fS, rn0, pickObs, deI, ftR, ftOk, hS, emB]
  | true =>
  obtain ⟨g24, g16, hd, hcl⟩ := stOk_s hS
  simp -implicitDefEqProofs [Tryz.f24, List.lookup_cons, eS, F42, okc, hS]
  refine drawP_all _ (by decide) ?_
  have hq := numB_size c.dflt.toNat (by omega)
  simp -implicitDefEqProofs [List.lookup_cons, eS, cBx, F43, hd, ba_sz, show (ByteArray.mk #[99, 111, 110, 102, 105, 103, 32]).size = 7 from rfl, show (ByteArray.mk #[10, 100, 101, 102, 97, 117, 108, 116, 32]).size = 9 from rfl, show (ByteArray.mk #[10]).size = 1 from rfl]
  repeat refine ⟨by omega, ?_⟩
  have hz0 := hdT_size hn hd
  refine loopP_inv (fun k : Nat => ⟨51, tl [(1, .optr 0 0 0 0), (4, .v (.string (hdT c ++ cT (c.cls.take k)))), (22, .sl (tR c.cls)), (23, I c.cls.length), (24, I k)], [cBx c]⟩) (fun k => k ≤ c.cls.length) (fun k => c.cls.length - k) 0 (Nat.zero_le _) ?_ ?_
  · rw [show hdT c ++ cT (c.cls.take 0) = hdT c from em_r _]
    exact Wk.tl (by simp [hold, upd, tl_cons, hdT])
  intro k hk
  by_cases h : k < c.cls.length
  · have hw1 := w64n (show k < 4611686018427387904 by omega)
    have hok := hcl c.cls[k] (List.getElem_mem h)
    have z1 := lineC_size hok
    have z2 := cT_size (c.cls.take k) fun x hx => hcl x (List.mem_of_mem_take hx)
    have z3 : (c.cls.take k).length ≤ 24 := by simp; omega
    have hT : hdT c ++ cT (c.cls.take (k + 1)) = hdT c ++ cT (c.cls.take k) ++ (lineC c.cls[k] ++ nlB) := by rw [takeS c.cls k h, cT_snoc, ba_assoc]
    unfold nlB at hT
    simp -implicitDefEqProofs [List.lookup_cons, eS, h, cBx, F42, F43, F44, F45, F46, hok, ba_sz, show (ByteArray.mk #[10]).size = 1 from rfl]
    refine ⟨by omega, by omega, k + 1, by omega, by omega, ?_⟩
    rw [hT]
    exact Wk.tlD (m := 1) rfl (by simp [hold, upd, tl_cons, hw1]) (by simp [okL_cons, okL_nil, ok1, ok0]) (okH_cBx _ _ _ (by simp [okH_nil]))
  · have e : k = c.cls.length := by omega
    subst e
    rw [List.take_length]
    have y1 := cT_size c.cls hcl
    simp -implicitDefEqProofs [List.lookup_cons, eS, cBx]
    refine loopP_inv (fun k : Nat => ⟨51, tl [(1, .optr 0 0 0 0), (4, .v (.string (hdT c ++ cT c.cls ++ fT (c.fil.take k)))), (35, .sl (tR c.fil)), (36, I c.fil.length), (37, I k)], [cBx c]⟩) (fun k => k ≤ c.fil.length ∧ (c.fil.take k).all okF = true) (fun k => c.fil.length - k) 0 ⟨Nat.zero_le _, rfl⟩ ?_ ?_
    · rw [show hdT c ++ cT c.cls ++ fT (c.fil.take 0) = hdT c ++ cT c.cls from em_r _]
      exact Wk.tl (by simp [hold, upd, tl_cons])
    rintro k ⟨hk, ha⟩
    by_cases h : k < c.fil.length
    · have hw1 := w64n (show k < 4611686018427387904 by omega)
      cases hok : okF c.fil[k] with
      | false =>
        have hA := all_bF c.fil okF k h hok
        simp -implicitDefEqProofs [List.lookup_cons, eS, h, cBx, F42, F43, F44, F45, F46, hok]
        refine fin_pure (by simp) ?_
        simp -implicitDefEqProofs [fS, rn0, pickObs, deI, ftR, ftOk, hA, emB, -List.all_eq_false, -List.all_eq_true]
      | true =>
        have hg := all_sF c.fil okF k h ha hok
        have z1 := lineF_size hok
        have z2 := fT_size (c.fil.take k) fun x hx => List.all_eq_true.1 ha x hx
        have z3 : (c.fil.take k).length ≤ 16 := by simp; omega
        have hT : hdT c ++ cT c.cls ++ fT (c.fil.take (k + 1)) = hdT c ++ cT c.cls ++ fT (c.fil.take k) ++ (lineF c.fil[k] ++ nlB) := by rw [takeS c.fil k h, fT_snoc, ba_assoc (hdT c ++ cT c.cls)]
        unfold nlB at hT
        simp -implicitDefEqProofs [List.lookup_cons, eS, h, cBx, F42, F43, F44, F45, F46, hok, ba_sz, show (ByteArray.mk #[10]).size = 1 from rfl]
        refine ⟨by omega, by omega, k + 1, by omega, List.all_eq_true.1 hg, by omega, ?_⟩
        rw [hT]
        exact Wk.tlD (m := 1) rfl (by simp [hold, upd, tl_cons, hw1]) (by simp [okL_cons, okL_nil, ok1, ok0]) (okH_cBx _ _ _ (by simp [okH_nil]))
    · have e : k = c.fil.length := by omega
      subst e
      rw [List.take_length] at ha ⊢
      simp -implicitDefEqProofs [List.lookup_cons, eS, cBx]
      refine fin_pure (by simp) ?_
      simp -implicitDefEqProofs [fS, rn0, pickObs, deI, ftR, ftOk, hS, ha, txT, -List.all_eq_true]
def F22 : Fun := ⟨fun xs => xs = [.agg (cX (deC (xs.getD 0 .top) : Cfg))] ∧ (fun (c : Cfg) => (okC c)) (deC (xs.getD 0 .top) : Cfg), fun xs => (fun (c : Cfg) => ((B (ftOk c), []) : X × List Ob)) (deC (xs.getD 0 .top) : Cfg)⟩
theorem F22_in {xs : List X} (h : F22.pre xs) : ∃ (c : Cfg), xs = [.agg (cX c)] ∧ (okC c) := ⟨_, h.1, h.2⟩
theorem F22_res (c : Cfg) : F22.res [.agg (cX c)] = (B (ftOk c), []) := by simp [F22]
theorem F22_mk (c : Cfg) (h : okC c) : F22.pre [.agg (cX c)] := by simpa [F22] using h
theorem c22 : GenCA K3 Tryz.prog 22 F22 := by
  refine contractA Tryz.mix K3 [(37, F45), (38, F42)] [] (by simp [toK3 c37, c38]) (by simp) Tryz.func22 rfl (by decide) ?_
  intro xs hxs
  obtain ⟨c, rfl, hp⟩ := F22_in hxs
  rw [F22_res]
  refine ⟨by rw [Tryz.ntmps22]; simp, ?_⟩
  obtain ⟨hl1, hl2, hn⟩ := hp
  have okc : okC c := ⟨hl1, hl2, hn⟩
  simp -implicitDefEqProofs [Tryz.f22, List.lookup_cons, eS]
  refine loopP_inv (fun k : Nat => ⟨18, tl [(1, .optr 0 0 0 0), (6, .sl (tR c.fil)), (7, I c.fil.length), (8, I k)], [cBx c]⟩) (fun k => k ≤ c.fil.length ∧ (c.fil.take k).all okF = true) (fun k => c.fil.length - k) 0 ⟨Nat.zero_le _, rfl⟩ (Wk.tl (by simp [hold, upd, tl_cons])) ?_
  rintro k ⟨hk, ha⟩
  by_cases h : k < c.fil.length
  · have hw1 := w64n (show k < 4611686018427387904 by omega)
    cases hok : okF c.fil[k] with
    | false =>
      have hA := all_bF c.fil okF k h hok
      simp -implicitDefEqProofs [List.lookup_cons, eS, h, cBx, F45, F42, hok]
      refine fin_pure (by simp) ?_
      simp -implicitDefEqProofs [fS, rn0, pickObs, deI, ftOk, hA, -List.all_eq_false, -List.all_eq_true]
    | true =>
      have hg := all_sF c.fil okF k h ha hok
      simp -implicitDefEqProofs [List.lookup_cons, eS, h, cBx, F45, F42, hok]
      refine ⟨k + 1, by omega, List.all_eq_true.1 hg, by omega, ?_⟩
      exact Wk.tlD (m := 1) rfl (by simp [hold, upd, tl_cons, hw1]) (by simp [okL_cons, okL_nil, ok1, ok0]) (okH_cBx _ _ _ (by simp [okH_nil]))
  · have e : k = c.fil.length := by omega
    subst e
    rw [List.take_length] at ha
    simp -implicitDefEqProofs [List.lookup_cons, eS, cBx, F45, F42, okc]
    refine fin_pure (by simp) ?_
    simp -implicitDefEqProofs [fS, rn0, pickObs, deI, ftOk, ha, -List.all_eq_true]
def F23 : Fun := ⟨fun xs => xs = [.agg (cX (deC (xs.getD 0 .top) : Cfg))] ∧ (fun (c : Cfg) => (okC c ∧ ftOk c = true)) (deC (xs.getD 0 .top) : Cfg), fun xs => (fun (c : Cfg) => ((.v (.string (txT c)), []) : X × List Ob)) (deC (xs.getD 0 .top) : Cfg)⟩
theorem F23_in {xs : List X} (h : F23.pre xs) : ∃ (c : Cfg), xs = [.agg (cX c)] ∧ (okC c ∧ ftOk c = true) := ⟨_, h.1, h.2⟩
theorem F23_res (c : Cfg) : F23.res [.agg (cX c)] = (.v (.string (txT c)), []) := by simp [F23]
theorem F23_mk (c : Cfg) (h : okC c ∧ ftOk c = true) : F23.pre [.agg (cX c)] := by simpa [F23] using h
theorem c23 : GenCA K3 Tryz.prog 23 F23 := by
  refine contractA Tryz.mix K3 [(39, F39), (40, F44), (41, F46)] [] (by simp [toK3 c39, toK3 c40, toK3 c41]) (by simp) Tryz.func23 rfl (by decide) ?_
  intro xs hxs
  obtain ⟨c, rfl, hp⟩ := F23_in hxs
  rw [F23_res]
  refine ⟨by rw [Tryz.ntmps23]; simp, ?_⟩
  obtain ⟨⟨hl1, hl2, hn⟩, ho⟩ := hp
  simp only [ftOk, Bool.and_eq_true] at ho
  obtain ⟨hS, hF⟩ := ho
  have hfl : ∀ x ∈ c.fil, okF x = true := List.all_eq_true.1 hF
  obtain ⟨g24, g16, hd, hcl⟩ := stOk_s hS
  simp -implicitDefEqProofs [Tryz.f23, List.lookup_cons, eS]
  refine drawP_all _ (by decide) ?_
  have hq := numB_size c.dflt.toNat (by omega)
  simp -implicitDefEqProofs [List.lookup_cons, eS, cBx, F39, hd, ba_sz, show (ByteArray.mk #[99, 111, 110, 102, 105, 103, 32]).size = 7 from rfl, show (ByteArray.mk #[10, 100, 101, 102, 97, 117, 108, 116, 32]).size = 9 from rfl, show (ByteArray.mk #[10]).size = 1 from rfl]
  repeat refine ⟨by omega, ?_⟩
  have hz0 := hdT_size hn hd
  refine loopP_inv (fun k : Nat => ⟨44, tl [(1, .optr 0 0 0 0), (3, .v (.string (hdT c ++ cT (c.cls.take k)))), (18, .sl (tR c.cls)), (19, I c.cls.length), (20, I k)], [cBx c]⟩) (fun k => k ≤ c.cls.length) (fun k => c.cls.length - k) 0 (Nat.zero_le _) ?_ ?_
  · rw [show hdT c ++ cT (c.cls.take 0) = hdT c from em_r _]
    exact Wk.tl (by simp [hold, upd, tl_cons, hdT])
  intro k hk
  by_cases h : k < c.cls.length
  · have hw1 := w64n (show k < 4611686018427387904 by omega)
    have hok := hcl c.cls[k] (List.getElem_mem h)
    have z1 := lineC_size hok
    have z2 := cT_size (c.cls.take k) fun x hx => hcl x (List.mem_of_mem_take hx)
    have z3 : (c.cls.take k).length ≤ 24 := by simp; omega
    have hT : hdT c ++ cT (c.cls.take (k + 1)) = hdT c ++ cT (c.cls.take k) ++ (lineC c.cls[k] ++ nlB) := by rw [takeS c.cls k h, cT_snoc, ba_assoc]
    unfold nlB at hT
    simp -implicitDefEqProofs [List.lookup_cons, eS, h, cBx, F39, F44, F46, hok, ba_sz, show (ByteArray.mk #[10]).size = 1 from rfl]
    refine ⟨by omega, by omega, k + 1, by omega, by omega, ?_⟩
    rw [hT]
    exact Wk.tlD (m := 1) rfl (by simp [hold, upd, tl_cons, hw1]) (by simp [okL_cons, okL_nil, ok1, ok0]) (okH_cBx _ _ _ (by simp [okH_nil]))
  · have e : k = c.cls.length := by omega
    subst e
    rw [List.take_length]
    have y1 := cT_size c.cls hcl
    simp -implicitDefEqProofs [List.lookup_cons, eS, cBx]
    refine loopP_inv (fun k : Nat => ⟨44, tl [(1, .optr 0 0 0 0), (3, .v (.string (hdT c ++ cT c.cls ++ fT (c.fil.take k)))), (31, .sl (tR c.fil)), (32, I c.fil.length), (33, I k)], [cBx c]⟩) (fun k => k ≤ c.fil.length) (fun k => c.fil.length - k) 0 (Nat.zero_le _) ?_ ?_
    · rw [show hdT c ++ cT c.cls ++ fT (c.fil.take 0) = hdT c ++ cT c.cls from em_r _]
      exact Wk.tl (by simp [hold, upd, tl_cons])
    intro k hk
    by_cases h : k < c.fil.length
    · have hw1 := w64n (show k < 4611686018427387904 by omega)
      have hok := hfl c.fil[k] (List.getElem_mem h)
      have z1 := lineF_size hok
      have z2 := fT_size (c.fil.take k) fun x hx => hfl x (List.mem_of_mem_take hx)
      have z3 : (c.fil.take k).length ≤ 16 := by simp; omega
      have hT : hdT c ++ cT c.cls ++ fT (c.fil.take (k + 1)) = hdT c ++ cT c.cls ++ fT (c.fil.take k) ++ (lineF c.fil[k] ++ nlB) := by rw [takeS c.fil k h, fT_snoc, ba_assoc (hdT c ++ cT c.cls)]
      unfold nlB at hT
      simp -implicitDefEqProofs [List.lookup_cons, eS, h, cBx, F39, F44, F46, hok, ba_sz, show (ByteArray.mk #[10]).size = 1 from rfl]
      refine ⟨by omega, by omega, k + 1, by omega,  by omega, ?_⟩
      rw [hT]
      exact Wk.tlD (m := 1) rfl (by simp [hold, upd, tl_cons, hw1]) (by simp [okL_cons, okL_nil, ok1, ok0]) (okH_cBx _ _ _ (by simp [okH_nil]))
    · have e : k = c.fil.length := by omega
      subst e
      rw [List.take_length]
      simp -implicitDefEqProofs [List.lookup_cons, eS, cBx]
      refine fin_pure (by simp) ?_
      simp -implicitDefEqProofs [fS, rn0, pickObs, deI, txT]
end Go.Proofs
