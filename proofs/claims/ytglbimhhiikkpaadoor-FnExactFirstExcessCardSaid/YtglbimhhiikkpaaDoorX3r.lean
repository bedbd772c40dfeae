/-
  What is proved here: contracts of both sides' search for the first excess, of CeilsHold and of FirstExcess. Condition: none.
-/
import Derived.Test.YtglbimhhiikkpaaDoorX2r
namespace Go.Proofs
open Go.Abs
set_option linter.unusedSimpArgs false
set_option linter.unnecessarySimpa false
set_option linter.unusedVariables false
set_option maxHeartbeats 8000000
set_option maxRecDepth 20000

/-- the first class, from one on, for which there is an excess -/
def exC (c : Cfg) (l : List Evt) (k : Nat) : Option (Nat × Nat × Nat) := ((List.range c.cls.length).drop k).findSome? fun j => (exOf c l j).map fun p => (j, p.1, p.2)
theorem exC_step (c : Cfg) (l : List Evt) (k : Nat) (h : k < c.cls.length) : exC c l k = (match exOf c l k with | some p => some (k, p.1, p.2) | none => exC c l (k + 1)) := by
  unfold exC
  rw [List.drop_eq_getElem_cons (by simpa using h), List.findSome?_cons]
  simp only [List.getElem_range]
  cases exOf c l k <;> rfl
theorem exC_end (c : Cfg) (l : List Evt) : exC c l c.cls.length = none := by
  unfold exC
  rw [List.drop_eq_nil_of_le (by simp)]
  rfl
def exR (c : Cfg) : Option (Nat × Nat × Nat) → X
  | some p => .tup [I (atC c.cls p.1).id, I (p.2.1 : Int), I (p.2.2 : Int), B true]
  | none => .tup [I 0, I 0, I 0, B false]
def exRs : Option (Nat × Nat × Nat) → X
  | some p => .tup [I (p.1 : Int), I (p.2.1 : Int), I (p.2.2 : Int)]
  | none => .tup [I (-1), I 0, I 0]
def F54 : Fun := ⟨fun xs => xs = [.agg (cX (deC (xs.getD 0 .top) : Cfg)), .sl (tR (deT (xs.getD 1 .top) : List Evt))] ∧ (fun (c : Cfg) (l : List Evt) => (okC c ∧ isCfg c = true ∧ evsOk l = true)) (deC (xs.getD 0 .top) : Cfg) (deT (xs.getD 1 .top) : List Evt), fun xs => (fun (c : Cfg) (l : List Evt) => ((exR c (exC c l 0), []) : X × List Ob)) (deC (xs.getD 0 .top) : Cfg) (deT (xs.getD 1 .top) : List Evt)⟩
theorem F54_in {xs : List X} (h : F54.pre xs) : ∃ (c : Cfg) (l : List Evt), xs = [.agg (cX c), .sl (tR l)] ∧ (okC c ∧ isCfg c = true ∧ evsOk l = true) := ⟨_, _, h.1, h.2⟩
theorem F54_res (c : Cfg) (l : List Evt) : F54.res [.agg (cX c), .sl (tR l)] = (exR c (exC c l 0), []) := by simp [F54]
theorem F54_mk (c : Cfg) (l : List Evt) (h : okC c ∧ isCfg c = true ∧ evsOk l = true) : F54.pre [.agg (cX c), .sl (tR l)] := by simpa [F54] using h
theorem c54 : GenCA K Tryd.prog 54 F54 := by
  refine contractA Tryd.mix K [(90, F90)] [] (by simp [c90]) (by simp) Tryd.func54 rfl (by decide) ?_
  intro xs hxs
  obtain ⟨c, l, rfl, hp⟩ := F54_in hxs
  rw [F54_res]
  refine ⟨by rw [Tryd.ntmps54]; simp, ?_⟩
  obtain ⟨hok, hg, he⟩ := hp
  have hsm := cfg_lim hg
  simp -implicitDefEqProofs [Tryd.f54, List.lookup_cons, and_assoc, pick_and, pick_or, if_and, if_or]
  refine loopP_inv (fun k : Nat => ⟨35, tl [(1, .sl (tR l)), (2, .optr 0 0 0 0), (14, .sl (tR c.cls)), (15, I c.cls.length), (16, I k)], [cBx c]⟩) (fun k => k ≤ c.cls.length ∧ exC c l k = exC c l 0) (fun k => c.cls.length - k) 0 ⟨Nat.zero_le _, rfl⟩ (Wk.tl (by simp [hold, upd, tl_cons])) ?_
  rintro k ⟨hk, hinv⟩
  by_cases h : k < c.cls.length
  · have hw1 := w64n (show k < 4611686018427387904 by omega)
    have hI : okI c (k : Int) := ⟨hok, by omega, by omega⟩
    have hst := exC_step c l k h
    cases hq : exOf c l k with
    | some p =>
      rw [hq] at hst
      simp only at hst
      simp -implicitDefEqProofs [List.lookup_cons, and_assoc, pick_and, pick_or, if_and, if_or, h, cBx, F90, hI, hg, he, hq, exX]
      refine fin_pure (by simp) ?_
      simp -implicitDefEqProofs [pur2_i, pur2_b, pur2_s, pur2_nil, pur2_sl, pur2_tup, rn2_tup, rn2_agg, rn2_osl, rn1_v, rn1_osl, rn1_agg, rn0_v, rn0_sl, rn0, pickObs, pur_v, pur_b, pur_s, pur_nil, pur_sl, deI, deIs_sl, ← hinv, hst, exR, atC_eq h]
    | none =>
      rw [hq] at hst
      simp only at hst
      simp -implicitDefEqProofs [List.lookup_cons, and_assoc, pick_and, pick_or, if_and, if_or, h, cBx, F90, hI, hg, he, hq, exX]
      refine ⟨k + 1, by omega, by rw [← hst]; exact hinv, by omega, ?_⟩
      exact Wk.tlD (m := 1) rfl (by simp [hold, upd, tl_cons, hw1]) (by simp [okL_cons, okL_nil, ok1, ok0]) (okH_cBx _ _ _ (by simp [okH_nil]))
  · have e : k = c.cls.length := by omega
    subst e
    rw [exC_end] at hinv
    simp -implicitDefEqProofs [List.lookup_cons, and_assoc, pick_and, pick_or, if_and, if_or, cBx]
    refine fin_pure (by simp) ?_
    simp -implicitDefEqProofs [pur2_i, pur2_b, pur2_s, pur2_nil, pur2_sl, pur2_tup, rn2_tup, rn2_agg, rn2_osl, rn1_v, rn1_osl, rn1_agg, rn0_v, rn0_sl, rn0, pickObs, pur_v, pur_b, pur_s, pur_nil, pur_sl, deI, deIs_sl, ← hinv, exR]
theorem cntP_perm {a b : List Int} (h : a.Perm b) : cntP a = cntP b := by
  funext e
  unfold cntP
  congr 1
  rw [Bool.eq_iff_iff]
  simp [h.mem_iff]
theorem outs_lt (l : List Evt) (p : Evt → Bool) : ∀ n ∈ outs l p 0, n < l.length := by
  intro n hn
  unfold outs at hn
  simpa using (List.mem_filter.1 hn).1
def F51 : Fun := ⟨fun xs => xs = [.agg (cX (deC (xs.getD 0 .top) : Cfg)), .sl (tR (deT (xs.getD 1 .top) : List Evt))] ∧ (fun (c : Cfg) (l : List Evt) => (okC c ∧ isCfg c = true ∧ evsOk l = true)) (deC (xs.getD 0 .top) : Cfg) (deT (xs.getD 1 .top) : List Evt), fun xs => (fun (c : Cfg) (l : List Evt) => ((exRs (exC c l 0), []) : X × List Ob)) (deC (xs.getD 0 .top) : Cfg) (deT (xs.getD 1 .top) : List Evt)⟩
theorem F51_in {xs : List X} (h : F51.pre xs) : ∃ (c : Cfg) (l : List Evt), xs = [.agg (cX c), .sl (tR l)] ∧ (okC c ∧ isCfg c = true ∧ evsOk l = true) := ⟨_, _, h.1, h.2⟩
theorem F51_res (c : Cfg) (l : List Evt) : F51.res [.agg (cX c), .sl (tR l)] = (exRs (exC c l 0), []) := by simp [F51]
theorem F51_mk (c : Cfg) (l : List Evt) (h : okC c ∧ isCfg c = true ∧ evsOk l = true) : F51.pre [.agg (cX c), .sl (tR l)] := by simpa [F51] using h
theorem c51 : GenCA K Tryd.prog 51 F51 := by
  refine contractA Tryd.mix K [(70, F70), (85, F85)] [] (by simp [c70, c85]) (by simp) Tryd.func51 rfl (by decide) ?_
  intro xs hxs
  obtain ⟨c, l, rfl, hp⟩ := F51_in hxs
  rw [F51_res]
  refine ⟨by rw [Tryd.ntmps51]; simp, ?_⟩
  obtain ⟨hok, hg, he⟩ := hp
  obtain ⟨he1, he2⟩ := evsOk_all he
  have hsm := cfg_lim hg
  have T := tree_of (c := c) (by rw [← isCfg_eq]; exact hg)
  simp -implicitDefEqProofs [Tryd.f51, List.lookup_cons, and_assoc, pick_and, pick_or, if_and, if_or]
  refine loopP_inv (fun k : Nat => ⟨75, tl [(1, .sl (tR l)), (2, .optr 0 0 0 0), (16, .sl (tR c.cls)), (17, I c.cls.length), (18, I k)], [cBx c]⟩) (fun k => k ≤ c.cls.length ∧ exC c l k = exC c l 0) (fun k => c.cls.length - k) 0 ⟨Nat.zero_le _, rfl⟩ (Wk.tl (by simp [hold, upd, tl_cons])) ?_
  rintro k ⟨hk, hinv⟩
  by_cases h : k < c.cls.length
  · have hw1 := w64n (show k < 4611686018427387904 by omega)
    have hI : okI c (k : Int) := ⟨hok, by omega, by omega⟩
    have hst := exC_step c l k h
    have hq : exOf c l k = exO l c.cls[k].cburst c.cls[k].ceil (outs l (cntP (belS c.cls (walk c.cls k))) 0) := by
      unfold exOf
      rw [atC_eq h, cntP_perm (below_perm T h)]
    obtain ⟨z1, z2, z3, z4⟩ := cfg_cls hg k h
    have hbl : (belS c.cls (walk c.cls k)).length ≤ 24 := by
      unfold belS
      rw [List.length_map]
      have h1 := List.length_filter_le (leafB c.cls) (walk c.cls k)
      have h2 := walk_len T h
      omega
    simp -implicitDefEqProofs [List.lookup_cons, and_assoc, pick_and, pick_or, if_and, if_or, h, cBx, F70, F85, hI, hg, iOb, show l.length ≤ 1048576 by omega, show (belS c.cls (walk c.cls k)).length ≤ 1048576 by omega]
    generalize belS c.cls (walk c.cls k) = ids at hbl hq
    generalize hcb : c.cls[k].cburst = cb at z3 z4 hq
    generalize hce : c.cls[k].ceil = ce at z1 z2 hq
    have hlt := outs_lt l (cntP ids)
    have hll := outs_ln l (cntP ids) l.length
    have hll2 : (outs l (cntP ids) 0).length ≤ l.length := by simpa [outs] using hll
    generalize outs l (cntP ids) 0 = os at hlt hll2 hq
    have hnl := nI_len os
    refine ⟨fun r hr x hx => by simp [iR] at hr; obtain ⟨y, _, rfl⟩ := hr; simp at hx; subst hx; rfl, ?_⟩
    refine loopP_inv (fun n : Nat => ⟨75, tl [(1, .sl (tR l)), (2, .optr 0 0 0 0), (16, .sl (tR c.cls)), (17, I c.cls.length), (18, I k), (7, I k), (8, .optr 1 0 0 0), (9, .osl 3 0), (28, .osl 3 0), (29, I os.length), (30, I n)], [cBx c, ⟨64, 8, 0, [[I c.cls[k].id, I c.cls[k].par, I c.cls[k].rate, I ce, I c.cls[k].burst, I cb, I c.cls[k].prio, I c.cls[k].lim]], true, true, none⟩, iOb ids, iOb (nI os)]⟩) (fun n => n ≤ os.length ∧ exO l cb ce (os.drop n) = exO l cb ce os) (fun n => os.length - n) 0 ⟨Nat.zero_le _, rfl⟩ (Wk.tl (by simp [hold, upd, tl_cons, hnl])) ?_
    rintro n ⟨hn, hO⟩
    by_cases h2 : n < os.length
    · have hw2 := w64n (show n < 4611686018427387904 by omega)
      have hdr : os.drop n = os[n] :: os.drop (n + 1) := List.drop_eq_getElem_cons h2
      have hO1 : exO l cb ce (os.drop n) = (match exL l cb ce os[n] (os.drop n) 0 with | some m => some (os[n], m) | none => exO l cb ce (os.drop (n + 1))) := by rw [hdr]; rfl
      have hfl := hlt _ (List.getElem_mem h2)
      have hof := he2 l[os[n]] (List.getElem_mem hfl)
      rw [Evt.ok_iff] at hof
      simp -implicitDefEqProofs [List.lookup_cons, and_assoc, pick_and, pick_or, if_and, if_or, h2, cBx, iOb, nI_len, nI_get, eSlice, bnd, show n ≤ os.length by omega]
      refine loopP_inv (fun a : Nat × Int => ⟨75, tl [(1, .sl (tR l)), (2, .optr 0 0 0 0), (16, .sl (tR c.cls)), (17, I c.cls.length), (18, I k), (7, I k), (8, .optr 1 0 0 0), (9, .osl 3 0), (28, .osl 3 0), (29, I os.length), (30, I n), (11, I os[n]), (12, I a.2), (37, .osub 3 0 n (os.length - n)), (38, I ((os.length - n : Nat) : Int)), (39, I a.1)], [cBx c, ⟨64, 8, 0, [[I c.cls[k].id, I c.cls[k].par, I c.cls[k].rate, I ce, I c.cls[k].burst, I cb, I c.cls[k].prio, I c.cls[k].lim]], true, true, none⟩, iOb ids, iOb (nI os)]⟩) (fun a => a.1 ≤ os.length - n ∧ 0 ≤ a.2 ∧ a.2 ≤ 1500 * a.1 ∧ exL l cb ce os[n] (os.drop (n + a.1)) a.2 = exL l cb ce os[n] (os.drop n) 0) (fun a => os.length - n - a.1) (0, 0) ⟨Nat.zero_le _, by simp, by simp, rfl⟩ (Wk.tl (by simp [hold, upd, tl_cons, hnl])) ?_
      rintro ⟨m, s⟩ ⟨m0, s0, s1, hL⟩
      simp only at m0 s0 s1 hL
      by_cases hm : m < os.length - n
      · have hw3 := w64n (show m < 4611686018427387904 by omega)
        have hnm : n + m < os.length := by omega
        have hdm : os.drop (n + m) = os[n + m] :: os.drop (n + m + 1) := List.drop_eq_getElem_cons hnm
        have htl := hlt _ (List.getElem_mem hnm)
        have hot := he2 l[os[n + m]] (List.getElem_mem htl)
        rw [Evt.ok_iff] at hot
        have hF : exL l cb ce os[n] (os.drop (n + m)) s = if cb + ce * (l[os[n + m]].tick - l[os[n]].tick) < s + l[os[n + m]].size then some os[n + m] else exL l cb ce os[n] (os.drop (n + m + 1)) (s + l[os[n + m]].size) := by
          rw [hdm]
          simp only [exL, atE_eq htl, atE_eq hfl]
        have hmb := mul_bd (d := l[os[n + m]].tick - l[os[n]].tick) z1 z2 (show -1000000 ≤ _ by omega) (show _ ≤ 1000000 by omega) (by omega)
        have w1 : IntKind.i64.wrap (s + l[os[n + m]].size) = s + l[os[n + m]].size := w64 (by omega) (by omega)
        have w2 : IntKind.i64.wrap (l[os[n + m]].tick - l[os[n]].tick) = l[os[n + m]].tick - l[os[n]].tick := w64 (by omega) (by omega)
        have w3 : IntKind.i64.wrap (ce * (l[os[n + m]].tick - l[os[n]].tick)) = ce * (l[os[n + m]].tick - l[os[n]].tick) := w64 (by omega) (by omega)
        have w4 : IntKind.i64.wrap (cb + ce * (l[os[n + m]].tick - l[os[n]].tick)) = cb + ce * (l[os[n + m]].tick - l[os[n]].tick) := w64 (by omega) (by omega)
        simp -implicitDefEqProofs [List.lookup_cons, and_assoc, pick_and, pick_or, if_and, if_or, hm, h2, hnm, htl, hfl, cBx, iOb, nI_len, nI_get, w1]
        refine drawP_all _ (by decide) ?_
        by_cases hgt : cb + ce * (l[os[n + m]].tick - l[os[n]].tick) < s + l[os[n + m]].size
        · rw [if_pos hgt] at hF
          have hR : exC c l 0 = some (k, os[n], os[n + m]) := by
            rw [← hinv, hst, hq, ← hO, hO1, ← hL, hF]
          simp -implicitDefEqProofs [List.lookup_cons, and_assoc, pick_and, pick_or, if_and, if_or, hm, h2, hnm, htl, hfl, cBx, iOb, nI_len, nI_get, w1, w2, w3, w4, hgt]
          refine fin_pure (by simp) ?_
          simp -implicitDefEqProofs [pur2_i, pur2_b, pur2_s, pur2_nil, pur2_sl, pur2_tup, rn2_tup, rn2_agg, rn2_osl, rn1_v, rn1_osl, rn1_agg, rn0_v, rn0_sl, rn0, pickObs, pur_v, pur_b, pur_s, pur_nil, pur_sl, deI, deIs_sl, hR, exRs]
        · rw [if_neg hgt] at hF
          simp -implicitDefEqProofs [List.lookup_cons, and_assoc, pick_and, pick_or, if_and, if_or, hm, h2, hnm, htl, hfl, cBx, iOb, nI_len, nI_get, w1, w2, w3, w4, hgt]
          refine ⟨m + 1, by omega, s + l[os[n + m]].size, by omega, by omega, by rw [← Nat.add_assoc, ← hF]; exact hL, by omega, ?_⟩
          exact Wk.tl (by simp [hold, upd, tl_cons, hw3])
      · have e : m = os.length - n := by omega
        subst e
        rw [show n + (os.length - n) = os.length by omega, List.drop_length] at hL
        have hO2 : exO l cb ce (os.drop (n + 1)) = exO l cb ce os := by rw [← hO, hO1, ← hL]; rfl
        simp -implicitDefEqProofs [List.lookup_cons, and_assoc, pick_and, pick_or, if_and, if_or, cBx, iOb]
        refine ⟨n + 1, by omega, hO2, by omega, ?_⟩
        exact Wk.tl (by simp [hold, upd, tl_cons, hw2])
    · have e : n = os.length := by omega
      subst e
      rw [List.drop_length] at hO
      have hR : exC c l (k + 1) = exC c l 0 := by rw [← hinv, hst, hq, ← hO]; rfl
      simp -implicitDefEqProofs [List.lookup_cons, and_assoc, pick_and, pick_or, if_and, if_or, cBx, iOb]
      refine ⟨k + 1, by omega, hR, by omega, ?_⟩
      exact Wk.tlD (m := 1) rfl (by simp [hold, upd, tl_cons, hw1]) (by simp [okL_cons, okL_nil, ok1, ok0]) (okH_cBx _ _ _ (by simp [okH_nil]))
  · have e : k = c.cls.length := by omega
    subst e
    rw [exC_end] at hinv
    simp -implicitDefEqProofs [List.lookup_cons, and_assoc, pick_and, pick_or, if_and, if_or, cBx]
    refine fin_pure (by simp) ?_
    simp -implicitDefEqProofs [pur2_i, pur2_b, pur2_s, pur2_nil, pur2_sl, pur2_tup, rn2_tup, rn2_agg, rn2_osl, rn1_v, rn1_osl, rn1_agg, rn0_v, rn0_sl, rn0, pickObs, pur_v, pur_b, pur_s, pur_nil, pur_sl, deI, deIs_sl, ← hinv, exRs]
end Go.Proofs
