/-
  What is proved here: the contract of the program's excessOf. Condition: none.
-/
import Derived.Test.YtglbimhhiikkpaaDoorX1r
namespace Go.Proofs
open Go.Abs
set_option linter.unusedSimpArgs false
set_option linter.unnecessarySimpa false
set_option linter.unusedVariables false
set_option maxHeartbeats 8000000
set_option maxRecDepth 20000

theorem exFound (l : List Evt) (cb ce : Int) (p : Evt → Bool) (k : Nat) (h : k < l.length) (i : Nat) (s : Int) : exL l cb ce i (outs l p k) s = if p l[k] = true then (if cb + ce * (l[k].tick - (atE l i).tick) < s + l[k].size then some k else exL l cb ce i (outs l p (k + 1)) (s + l[k].size)) else exL l cb ce i (outs l p (k + 1)) s := by
  rw [outs_step l p k h]
  cases p l[k] <;> simp [exL, atE_eq h]
theorem pur1_oslI (h : List Ob) (k ver : Nat) : purN h 1 (.osl k ver) = (match h[k]? with
    | some ob => if ob.ver = ver ∧ ob.bx = false then .sl (ob.rows.map fun r => r.map (purN h 0)) else .top
    | none => .top) := rfl
def F90 : Fun := ⟨fun xs => xs = [.agg (cX (deC (xs.getD 0 .top) : Cfg)), .sl (tR (deT (xs.getD 1 .top) : List Evt)), I (deI (xs.getD 2 .top) : Int)] ∧ (fun (c : Cfg) (l : List Evt) (k : Int) => (okI c k ∧ isCfg c = true ∧ evsOk l = true)) (deC (xs.getD 0 .top) : Cfg) (deT (xs.getD 1 .top) : List Evt) (deI (xs.getD 2 .top) : Int), fun xs => (fun (c : Cfg) (l : List Evt) (k : Int) => ((exX (exOf c l k.toNat), []) : X × List Ob)) (deC (xs.getD 0 .top) : Cfg) (deT (xs.getD 1 .top) : List Evt) (deI (xs.getD 2 .top) : Int)⟩
theorem F90_in {xs : List X} (h : F90.pre xs) : ∃ (c : Cfg) (l : List Evt) (k : Int), xs = [.agg (cX c), .sl (tR l), I k] ∧ (okI c k ∧ isCfg c = true ∧ evsOk l = true) := ⟨_, _, _, h.1, h.2⟩
theorem F90_res (c : Cfg) (l : List Evt) (k : Int) : F90.res [.agg (cX c), .sl (tR l), I k] = (exX (exOf c l k.toNat), []) := by simp [F90]
theorem F90_mk (c : Cfg) (l : List Evt) (k : Int) (h : okI c k ∧ isCfg c = true ∧ evsOk l = true) : F90.pre [.agg (cX c), .sl (tR l), I k] := by simpa [F90] using h
theorem c90 : GenCA K Tryd.prog 90 F90 := by
  refine contractA Tryd.mix K [(73, F73), (136, FCn)] [] (by simp [c73, c136]) (by simp) Tryd.func90 rfl (by decide) ?_
  intro xs hxs
  obtain ⟨c, l, k0, rfl, hI, hg, he⟩ := F90_in hxs
  rw [F90_res]
  refine ⟨by rw [Tryd.ntmps90]; simp, ?_⟩
  obtain ⟨he1, he2⟩ := evsOk_all he
  obtain ⟨k0, rfl⟩ := Int.eq_ofNat_of_zero_le hI.2.1
  have hk0 : k0 < c.cls.length := by have := hI.2.2; omega
  obtain ⟨z1, z2, z3, z4⟩ := cfg_cls hg k0 hk0
  have hsm := cfg_lim hg
  have hbl : (belI c.cls k0 (leafL c.cls c.cls.length)).length ≤ 24 := by
    unfold belI
    rw [List.length_map]
    have h1 := List.length_filter_le (fun j : Nat => (chain c.cls 9 (j : Int)).contains ((k0 : Nat) : Int)) (leafL c.cls c.cls.length)
    have h2 := leafL_len c.cls c.cls.length
    omega
  rw [Int.toNat_natCast]
  unfold exOf
  rw [atC_eq hk0]
  simp -implicitDefEqProofs [Tryd.f90, List.lookup_cons, and_assoc, pick_and, pick_or, if_and, if_or, F73, hI, hg, hk0, iOb]
  generalize belI c.cls k0 (leafL c.cls c.cls.length) = ids at hbl
  generalize hcb : c.cls[k0].cburst = cb at z3 z4
  generalize hce : c.cls[k0].ceil = ce at z1 z2
  refine loopP_inv (fun i : Nat => ⟨76, tl [(1, .sl (tR l)), (10, .optr 3 0 0 0), (11, .fn 136 [.optr 2 0 0 0]), (25, .sl (tR l)), (26, I l.length), (27, I i)], [cBx c, iOb ids, ⟨27, 1, 0, [[.osl 1 0]], true, true, none⟩, ⟨64, 8, 0, [[I c.cls[k0].id, I c.cls[k0].par, I c.cls[k0].rate, I ce, I c.cls[k0].burst, I cb, I c.cls[k0].prio, I c.cls[k0].lim]], true, true, none⟩]⟩) (fun i => i ≤ l.length ∧ exO l cb ce (outs l (cntP ids) i) = exO l cb ce (outs l (cntP ids) 0)) (fun i => l.length - i) 0 ⟨Nat.zero_le _, rfl⟩ (Wk.tl (by simp [hold, upd, tl_cons])) ?_
  rintro i ⟨hi, hinv⟩
  by_cases h : i < l.length
  · have hw1 := w64n (show i < 4611686018427387904 by omega)
    have hiL : ids.length ≤ 1048576 := by omega
    have hst := outs_step l (cntP ids) i h
    have hoi := he2 l[i] (List.getElem_mem h)
    rw [Evt.ok_iff] at hoi
    cases hq : cntP ids l[i] with
    | false =>
      rw [hq, if_neg (by simp)] at hst
      simp -implicitDefEqProofs [List.lookup_cons, and_assoc, pick_and, pick_or, if_and, if_or, h, cBx, iOb, FCn, hiL, hq, pur2_optr, pur1_oslI, rowOf]
      refine ⟨i + 1, by omega, by rw [← hst]; exact hinv, by omega, ?_⟩
      exact Wk.tlD (m := 4) rfl (by simp [hold, upd, tl_cons, hw1]) (by simp [okL_cons, okL_nil, ok1, ok0]) (okH_cBx _ _ _ (okH_iR _ _ _ _ _ _ _ _ _ (by simp [okH_cons, okH_nil, ok0])))
    | true =>
      rw [hq, if_pos rfl] at hst
      have hO : exO l cb ce (outs l (cntP ids) i) = (match exL l cb ce i (outs l (cntP ids) i) 0 with | some n => some (i, n) | none => exO l cb ce (outs l (cntP ids) (i + 1))) := by rw [hst]; rfl
      simp -implicitDefEqProofs [List.lookup_cons, and_assoc, pick_and, pick_or, if_and, if_or, h, cBx, iOb, FCn, hiL, hq, pur2_optr, pur1_oslI, rowOf]
      refine loopP_inv (fun a : Nat × Int => ⟨76, tl [(1, .sl (tR l)), (10, .optr 3 0 0 0), (11, .fn 136 [.optr 2 0 0 0]), (25, .sl (tR l)), (26, I l.length), (27, I i), (12, I i), (13, .optr 4 0 0 0), (14, I a.2), (15, I a.1)], [cBx c, iOb ids, ⟨27, 1, 0, [[.osl 1 0]], true, true, none⟩, ⟨64, 8, 0, [[I c.cls[k0].id, I c.cls[k0].par, I c.cls[k0].rate, I ce, I c.cls[k0].burst, I cb, I c.cls[k0].prio, I c.cls[k0].lim]], true, true, none⟩, ⟨87, 5, 0, [rX l[i]], true, true, none⟩]⟩) (fun a => i ≤ a.1 ∧ a.1 ≤ l.length ∧ 0 ≤ a.2 ∧ a.2 ≤ 1500 * a.1 ∧ exL l cb ce i (outs l (cntP ids) a.1) a.2 = exL l cb ce i (outs l (cntP ids) i) 0) (fun a => l.length - a.1) (i, 0) ⟨Nat.le_refl _, by omega, by simp, by simp; omega, rfl⟩ (Wk.tl (by simp [hold, upd, tl_cons])) ?_
      rintro ⟨n, s⟩ ⟨n0, n1, s0, s1, hL⟩
      simp only at n0 n1 s0 s1 hL
      by_cases hn : n < l.length
      · have hw2 := w64n (show n < 4611686018427387904 by omega)
        have hF := exFound l cb ce (cntP ids) n hn i s
        rw [atE_eq h] at hF
        have hon := he2 l[n] (List.getElem_mem hn)
        rw [Evt.ok_iff] at hon
        have hmb := mul_bd (d := l[n].tick - l[i].tick) z1 z2 (show -1000000 ≤ _ by omega) (show _ ≤ 1000000 by omega) (by omega)
        have w1 : IntKind.i64.wrap (s + l[n].size) = s + l[n].size := w64 (by omega) (by omega)
        have w2 : IntKind.i64.wrap (l[n].tick - l[i].tick) = l[n].tick - l[i].tick := w64 (by omega) (by omega)
        have w3 : IntKind.i64.wrap (ce * (l[n].tick - l[i].tick)) = ce * (l[n].tick - l[i].tick) := w64 (by omega) (by omega)
        have w4 : IntKind.i64.wrap (cb + ce * (l[n].tick - l[i].tick)) = cb + ce * (l[n].tick - l[i].tick) := w64 (by omega) (by omega)
        cases hqn : cntP ids l[n] with
        | false =>
          rw [hqn, if_neg (by simp)] at hF
          simp -implicitDefEqProofs [List.lookup_cons, and_assoc, pick_and, pick_or, if_and, if_or, hn, h, cBx, iOb, FCn, hiL, hqn, pur2_optr, pur1_oslI, rowOf]
          refine ⟨n + 1, by omega, by omega, s, s0, by omega, by rw [← hF]; exact hL, by omega, ?_⟩
          exact Wk.tl (by simp [hold, upd, tl_cons, hw2])
        | true =>
          rw [hqn, if_pos rfl] at hF
          simp -implicitDefEqProofs [List.lookup_cons, and_assoc, pick_and, pick_or, if_and, if_or, hn, h, cBx, iOb, FCn, hiL, hqn, pur2_optr, pur1_oslI, rowOf, w1]
          refine drawP_all _ (by decide) ?_
          by_cases hgt : cb + ce * (l[n].tick - l[i].tick) < s + l[n].size
          · rw [if_pos hgt] at hF
            have hR : exO l cb ce (outs l (cntP ids) 0) = some (i, n) := by rw [← hinv, hO, ← hL, hF]
            simp -implicitDefEqProofs [List.lookup_cons, and_assoc, pick_and, pick_or, if_and, if_or, hn, h, cBx, iOb, w1, w2, w3, w4, hgt]
            refine fin_pure (by simp) ?_
            simp -implicitDefEqProofs [pur2_i, pur2_b, pur2_s, pur2_nil, pur2_sl, pur2_tup, rn2_tup, rn2_agg, rn2_osl, rn1_v, rn1_osl, rn1_agg, rn0_v, rn0_sl, rn0, pickObs, pur_v, pur_b, pur_s, pur_nil, pur_sl, deI, deIs_sl, hR, exX]
          · rw [if_neg hgt] at hF
            simp -implicitDefEqProofs [List.lookup_cons, and_assoc, pick_and, pick_or, if_and, if_or, hn, h, cBx, iOb, w1, w2, w3, w4, hgt]
            refine ⟨n + 1, by omega, by omega, s + l[n].size, by omega, by omega, by rw [← hF]; exact hL, by omega, ?_⟩
            exact Wk.tl (by simp [hold, upd, tl_cons, hw2])
      · have e : n = l.length := by omega
        subst e
        rw [outs_end] at hL
        have hO2 : exO l cb ce (outs l (cntP ids) (i + 1)) = exO l cb ce (outs l (cntP ids) 0) := by rw [← hinv, hO, ← hL]; rfl
        simp -implicitDefEqProofs [List.lookup_cons, and_assoc, pick_and, pick_or, if_and, if_or, cBx, iOb]
        refine ⟨i + 1, by omega, hO2, by omega, ?_⟩
        exact Wk.tlD (m := 4) rfl (by simp [hold, upd, tl_cons, hw1]) (by simp [okL_cons, okL_nil, ok1, ok0]) (okH_cBx _ _ _ (okH_iR _ _ _ _ _ _ _ _ _ (by simp [okH_cons, okH_nil, ok0])))
  · have e : i = l.length := by omega
    subst e
    rw [outs_end] at hinv
    have hR : exO l cb ce (outs l (cntP ids) 0) = none := hinv.symm
    simp -implicitDefEqProofs [List.lookup_cons, and_assoc, pick_and, pick_or, if_and, if_or, cBx, iOb]
    refine fin_pure (by simp) ?_
    simp -implicitDefEqProofs [pur2_i, pur2_b, pur2_s, pur2_nil, pur2_sl, pur2_tup, rn2_tup, rn2_agg, rn2_osl, rn1_v, rn1_osl, rn1_agg, rn0_v, rn0_sl, rn0, pickObs, pur_v, pur_b, pur_s, pur_nil, pur_sl, deI, deIs_sl, hR, exX]
end Go.Proofs
