/-
  What is proved here: contracts of the two checks that events fit a configuration, and of both AccountBelow. Condition: none.
-/
import Derived.Test.YtglbimhhiikkpaaDoorAB1r
namespace Go.Proofs
open Go.Abs
set_option linter.unusedSimpArgs false
set_option linter.unnecessarySimpa false
set_option linter.unusedVariables false
set_option maxHeartbeats 8000000
set_option maxRecDepth 20000

theorem cIxEvt (g : Nat) (cp : List X → Prop) (p : List X → Evt → Bool) (hpu : ∀ c, cp c → c.all isP0 = true ∧ ∀ n, c.map (purN [] n) = c) (hg : GenCA K Tryd.prog g (FPr cp p)) : GenCA K Tryd.prog 134 (FIx g cp p) := by
  refine contractA Tryd.mix K [(g, FPr cp p)] [] (by simp [hg]) (by simp) Tryd.func134 rfl (by decide) ?_
  intro xs hxs
  obtain ⟨l, cs, rfl, hcp, hl⟩ : ∃ (l : List Evt) (cs : List X), xs = [.sl (tR l), .fn g cs] ∧ cp cs ∧ l.length ≤ 1048576 := ⟨_, _, hxs.1, hxs.2.1, hxs.2.2⟩
  have hres : (FIx g cp p).res [.sl (tR l), .fn g cs] = (I (idxB (p cs) l), []) := by simp [FIx]
  rw [hres]
  refine ⟨by rw [Tryd.ntmps134]; simp, ?_⟩
  obtain ⟨hpc, hpm⟩ := hpu cs hcp
  have hpf : ∀ x ∈ cs, isP0 x = true := List.all_eq_true.1 hpc
  simp -implicitDefEqProofs [Tryd.f134, List.lookup_cons, and_assoc, pick_and, pick_or, if_and, if_or]
  refine loopP_inv (fun k : Nat => ⟨19, tl [(0, .sl (tR l)), (1, .fn g cs), (7, I l.length), (8, I k)], []⟩) (fun k => k ≤ l.length ∧ (l.take k).all (fun x => !p cs x) = true) (fun k => l.length - k) 0 (by simp) (Wk.tl (by simp [hold, upd, tl_cons])) ?_
  rintro k ⟨hk, ha⟩
  by_cases h : k < l.length
  · have hw1 := w64n (show k < 4611686018427387904 by omega)
    cases hr : p cs l[k] with
    | true =>
      have hf := idxB_found (p cs) l k h ha hr
      simp -implicitDefEqProofs [List.lookup_cons, and_assoc, pick_and, pick_or, if_and, if_or, h, FPr, hcp, hr, hpc, hpf, hpm]
      refine fin_pure (by simp) ?_
      simp -implicitDefEqProofs [pur2_i, pur2_b, pur2_s, pur2_nil, pur2_sl, pur2_tup, rn2_tup, rn2_agg, rn2_osl, rn1_v, rn1_osl, rn1_agg, rn0_v, rn0_sl, rn0, pickObs, pur_v, pur_b, pur_s, pur_nil, pur_sl, deI, deIs_sl, hf]
    | false =>
      simp -implicitDefEqProofs [List.lookup_cons, and_assoc, pick_and, pick_or, if_and, if_or, h, FPr, hcp, hr, hpc, hpf, hpm]
      exact ⟨k + 1, by omega, by simpa using all_stepG l _ k h ha (by simp [hr]), by omega, Wk.tl (by simp [hold, upd, tl_cons, hw1])⟩
  · have e : k = l.length := by omega
    subst e
    rw [List.take_length] at ha
    have hf := idxB_none (p cs) l ha
    simp -implicitDefEqProofs [List.lookup_cons, and_assoc, pick_and, pick_or, if_and, if_or]
    refine fin_pure (by simp) ?_
    simp -implicitDefEqProofs [pur2_i, pur2_b, pur2_s, pur2_nil, pur2_sl, pur2_tup, rn2_tup, rn2_agg, rn2_osl, rn1_v, rn1_osl, rn1_agg, rn0_v, rn0_sl, rn0, pickObs, pur_v, pur_b, pur_s, pur_nil, pur_sl, deI, deIs_sl, hf]
theorem cCtEvt (g : Nat) (cp : List X → Prop) (p : List X → Evt → Bool) (hpu : ∀ c, cp c → c.all isP0 = true ∧ ∀ n, c.map (purN [] n) = c) (hg : GenCA K Tryd.prog g (FPr cp p)) : GenCA K Tryd.prog 87 (FCt g cp p) := by
  refine contractA Tryd.mix K [(134, FIx g cp p)] [] (by simp [cIxEvt g cp p hpu hg]) (by simp) Tryd.func87 rfl (by decide) ?_
  intro xs hxs
  obtain ⟨l, cs, rfl, hcp, hl⟩ : ∃ (l : List Evt) (cs : List X), xs = [.sl (tR l), .fn g cs] ∧ cp cs ∧ l.length ≤ 1048576 := ⟨_, _, hxs.1, hxs.2.1, hxs.2.2⟩
  have hres : (FCt g cp p).res [.sl (tR l), .fn g cs] = (B (l.any (p cs)), []) := by simp [FCt]
  rw [hres]
  refine ⟨by rw [Tryd.ntmps87]; simp, ?_⟩
  obtain ⟨hpc, hpm⟩ := hpu cs hcp
  have hpf : ∀ x ∈ cs, isP0 x = true := List.all_eq_true.1 hpc
  have hh := idxB_any (p cs) l
  simp -implicitDefEqProofs [Tryd.f87, List.lookup_cons, and_assoc, pick_and, pick_or, if_and, if_or, FIx, hcp, hl, hpc, hpf, hpm, hh]
  refine fin_pure (by simp) ?_
  simp -implicitDefEqProofs [pur2_i, pur2_b, pur2_s, pur2_nil, pur2_sl, pur2_tup, rn2_tup, rn2_agg, rn2_osl, rn1_v, rn1_osl, rn1_agg, rn0_v, rn0_sl, rn0, pickObs, pur_v, pur_b, pur_s, pur_nil, pur_sl, deI, deIs_sl]
def cpCf (c : List X) : Prop := c = [.pt (cX (pC (c.getD 0 .top)))] ∧ okC (pC (c.getD 0 .top))
def prEv (c : List X) (e : Evt) : Bool := !decide (e.cls = 0) && !targetOk (pC (c.getD 0 .top)).cls e.cls
@[simp] theorem prEv_mk (c : Cfg) (e : Evt) : prEv [.pt (cX c)] e = (!decide (e.cls = 0) && !targetOk c.cls e.cls) := by simp [prEv]
theorem cpCf_mk (c : Cfg) (h : okC c) : cpCf [.pt (cX c)] := by simpa [cpCf] using h
theorem cpCf_pu (c : List X) (h : cpCf c) : c.all isP0 = true ∧ ∀ n, c.map (purN [] n) = c := by
  rw [h.1]; exact ⟨rfl, fun n => by cases n <;> rfl⟩
theorem c88 : GenCA K Tryd.prog 88 (FPr cpCf prEv) := by
  refine contractA Tryd.mix K [(89, F89)] [] (by simp [c89]) (by simp) Tryd.func88 rfl (by decide) ?_
  intro xs hxs
  obtain ⟨x, c, rfl, hok⟩ : ∃ (x : Evt) (c : Cfg), xs = [.agg (rX x), .pt (cX c)] ∧ okC c := by
    obtain ⟨h1, h2, h3⟩ := hxs
    exact ⟨_, _, h1.trans (congrArg (List.cons _) h2), h3⟩
  have hres : (FPr cpCf prEv).res [.agg (rX x), .pt (cX c)] = (B (!decide (x.cls = 0) && !targetOk c.cls x.cls), []) := by simp only [FPr, List.getD_cons_zero, List.tail_cons, prEv_mk, deA_agg, dec_rX]
  rw [hres]
  refine ⟨by rw [Tryd.ntmps88]; simp, ?_⟩
  by_cases h0 : x.cls = 0
  · simp -implicitDefEqProofs [Tryd.f88, List.lookup_cons, and_assoc, pick_and, pick_or, if_and, if_or, F89, hok, h0]
    refine fin_pure (by simp) ?_
    simp -implicitDefEqProofs [pur2_i, pur2_b, pur2_s, pur2_nil, pur2_sl, pur2_tup, rn2_tup, rn2_agg, rn2_osl, rn1_v, rn1_osl, rn1_agg, rn0_v, rn0_sl, rn0, pickObs, pur_v, pur_b, pur_s, pur_nil, pur_sl, deI, deIs_sl]
  · simp -implicitDefEqProofs [Tryd.f88, List.lookup_cons, and_assoc, pick_and, pick_or, if_and, if_or, F89, hok, h0]
    refine fin_pure (by simp) ?_
    simp -implicitDefEqProofs [pur2_i, pur2_b, pur2_s, pur2_nil, pur2_sl, pur2_tup, rn2_tup, rn2_agg, rn2_osl, rn1_v, rn1_osl, rn1_agg, rn0_v, rn0_sl, rn0, pickObs, pur_v, pur_b, pur_s, pur_nil, pur_sl, deI, deIs_sl]
def F53 : Fun := ⟨fun xs => xs = [.agg (cX (deC (xs.getD 0 .top) : Cfg)), .sl (tR (deT (xs.getD 1 .top) : List Evt))] ∧ (fun (c : Cfg) (l : List Evt) => (okC c ∧ l.length ≤ 1048576)) (deC (xs.getD 0 .top) : Cfg) (deT (xs.getD 1 .top) : List Evt), fun xs => (fun (c : Cfg) (l : List Evt) => ((B (fitB c l), []) : X × List Ob)) (deC (xs.getD 0 .top) : Cfg) (deT (xs.getD 1 .top) : List Evt)⟩
theorem F53_in {xs : List X} (h : F53.pre xs) : ∃ (c : Cfg) (l : List Evt), xs = [.agg (cX c), .sl (tR l)] ∧ (okC c ∧ l.length ≤ 1048576) := ⟨_, _, h.1, h.2⟩
theorem F53_res (c : Cfg) (l : List Evt) : F53.res [.agg (cX c), .sl (tR l)] = (B (fitB c l), []) := by simp [F53]
theorem F53_mk (c : Cfg) (l : List Evt) (h : okC c ∧ l.length ≤ 1048576) : F53.pre [.agg (cX c), .sl (tR l)] := by simpa [F53] using h
theorem c53 : GenCA K Tryd.prog 53 F53 := by
  refine contractA Tryd.mix K [(44, F44), (86, F86), (87, FCt 88 cpCf prEv)] [] (by simp [c44, c86, cCtEvt 88 cpCf prEv cpCf_pu c88]) (by simp) Tryd.func53 rfl (by decide) ?_
  intro xs hxs
  obtain ⟨c, l, rfl, hok, hl⟩ := F53_in hxs
  rw [F53_res]
  refine ⟨by rw [Tryd.ntmps53]; simp, ?_⟩
  have hk := cpCf_mk c hok
  simp at hk
  have hl2 : (!l.any (prEv [.pt (cX c)])) = l.all fun e => decide (e.cls = 0) || targetOk c.cls e.cls := by
    have : (prEv [.pt (cX c)]) = fun e : Evt => (!decide (e.cls = 0) && !targetOk c.cls e.cls) := by funext x; exact prEv_mk c x
    rw [this, List.not_any_eq_all_not]
    congr 1
    funext e
    rw [Bool.not_and, Bool.not_not, Bool.not_not]
  simp only [cX] at hl2
  cases gc : isCfg c with
  | false =>
    simp -implicitDefEqProofs [Tryd.f53, List.lookup_cons, and_assoc, pick_and, pick_or, if_and, if_or, F44, F86, FCt, hok, gc]
    refine fin_pure (by simp) ?_
    simp -implicitDefEqProofs [pur2_i, pur2_b, pur2_s, pur2_nil, pur2_sl, pur2_tup, rn2_tup, rn2_agg, rn2_osl, rn1_v, rn1_osl, rn1_agg, rn0_v, rn0_sl, rn0, pickObs, pur_v, pur_b, pur_s, pur_nil, pur_sl, deI, deIs_sl, fitB, gc]
  | true =>
  cases ge : evsOk l with
  | false =>
    simp -implicitDefEqProofs [Tryd.f53, List.lookup_cons, and_assoc, pick_and, pick_or, if_and, if_or, F44, F86, FCt, hok, hl, gc, ge]
    refine fin_pure (by simp) ?_
    simp -implicitDefEqProofs [pur2_i, pur2_b, pur2_s, pur2_nil, pur2_sl, pur2_tup, rn2_tup, rn2_agg, rn2_osl, rn1_v, rn1_osl, rn1_agg, rn0_v, rn0_sl, rn0, pickObs, pur_v, pur_b, pur_s, pur_nil, pur_sl, deI, deIs_sl, fitB, gc, ge]
  | true =>
  simp -implicitDefEqProofs [Tryd.f53, List.lookup_cons, and_assoc, pick_and, pick_or, if_and, if_or, F44, F86, FCt, FIx, hok, hl, gc, ge, hk, pur2_optr, pur1_int, pur1_Sx, pur1_sl, rowOf, hl2, -List.all_eq_true, -List.any_eq_true]
  refine fin_pure (by simp) ?_
  simp -implicitDefEqProofs [pur2_i, pur2_b, pur2_s, pur2_nil, pur2_sl, pur2_tup, rn2_tup, rn2_agg, rn2_osl, rn1_v, rn1_osl, rn1_agg, rn0_v, rn0_sl, rn0, pickObs, pur_v, pur_b, pur_s, pur_nil, pur_sl, deI, deIs_sl, fitB, gc, ge]
theorem c50 : GenCA K Tryd.prog 50 F53 := by
  refine contractA Tryd.mix K [(40, F44), (84, F84), (79, F89)] [] (by simp [c40, c84, c79]) (by simp) Tryd.func50 rfl (by decide) ?_
  intro xs hxs
  obtain ⟨c, l, rfl, hp⟩ := F53_in hxs
  rw [F53_res]
  refine ⟨by rw [Tryd.ntmps50]; simp, ?_⟩
  obtain ⟨hok, hl⟩ := hp
  cases gc : isCfg c with
  | false =>
    simp -implicitDefEqProofs [Tryd.f50, F44, F84, F89, List.lookup_cons, and_assoc, pick_and, pick_or, if_and, if_or, hok, gc]
    refine fin_pure (by simp) ?_
    simp -implicitDefEqProofs [pur2_i, pur2_b, pur2_s, pur2_nil, pur2_sl, pur2_tup, rn2_tup, rn2_agg, rn2_osl, rn1_v, rn1_osl, rn1_agg, rn0_v, rn0_sl, rn0, pickObs, pur_v, pur_b, pur_s, pur_nil, pur_sl, deI, deIs_sl, fitB, gc]
  | true =>
  cases ge : evsOk l with
  | false =>
    simp -implicitDefEqProofs [Tryd.f50, F44, F84, F89, List.lookup_cons, and_assoc, pick_and, pick_or, if_and, if_or, hok, hl, gc, ge]
    refine fin_pure (by simp) ?_
    simp -implicitDefEqProofs [pur2_i, pur2_b, pur2_s, pur2_nil, pur2_sl, pur2_tup, rn2_tup, rn2_agg, rn2_osl, rn1_v, rn1_osl, rn1_agg, rn0_v, rn0_sl, rn0, pickObs, pur_v, pur_b, pur_s, pur_nil, pur_sl, deI, deIs_sl, fitB, gc, ge]
  | true =>
  simp -implicitDefEqProofs [Tryd.f50, List.lookup_cons, and_assoc, pick_and, pick_or, if_and, if_or, F44, F84, hok, hl, gc, ge]
  refine loopP_inv (fun k : Nat => ⟨32, tl [(2, .optr 0 0 0 0), (15, .sl (tR l)), (16, I l.length), (17, I k)], [cBx c]⟩) (fun k => k ≤ l.length ∧ (l.take k).all (fun e => decide (e.cls = 0) || targetOk c.cls e.cls) = true) (fun k => l.length - k) 0 (by simp) (Wk.tl (by simp [hold, upd, tl_cons])) ?_
  rintro k ⟨hk, ha⟩
  by_cases h : k < l.length
  · have hw1 := w64n (show k < 4611686018427387904 by omega)
    cases hq : (decide (l[k].cls = 0) || targetOk c.cls l[k].cls) with
    | true =>
      have hg := all_stepG l (fun e => decide (e.cls = 0) || targetOk c.cls e.cls) k h ha hq
      by_cases h0 : l[k].cls = 0
      · simp -implicitDefEqProofs [List.lookup_cons, and_assoc, pick_and, pick_or, if_and, if_or, h, cBx, h0]
        refine ⟨k + 1, by omega, by simpa using hg, by omega, ?_⟩
        exact Wk.tlD (m := 1) rfl (by simp [hold, upd, tl_cons, hw1]) (by simp [okL_cons, okL_nil, ok1, ok0]) (okH_cBx _ _ _ (by simp [okH_nil]))
      · have ht : targetOk c.cls l[k].cls = true := by simpa [h0] using hq
        simp -implicitDefEqProofs [List.lookup_cons, and_assoc, pick_and, pick_or, if_and, if_or, h, cBx, h0, hok, F89, ht]
        refine ⟨k + 1, by omega, by simpa using hg, by omega, ?_⟩
        exact Wk.tlD (m := 1) rfl (by simp [hold, upd, tl_cons, hw1]) (by simp [okL_cons, okL_nil, ok1, ok0]) (okH_cBx _ _ _ (by simp [okH_nil]))
    | false =>
      simp only [Bool.or_eq_false_iff, decide_eq_false_iff_not] at hq
      have hA : (l.all fun e => decide (e.cls = 0) || targetOk c.cls e.cls) = false := not_true fun hx => by
        have := List.all_eq_true.1 hx _ (List.getElem_mem h)
        simp [hq] at this
      simp -implicitDefEqProofs [List.lookup_cons, and_assoc, pick_and, pick_or, if_and, if_or, h, cBx, hq, hok, F89]
      refine fin_pure (by simp) ?_
      simp -implicitDefEqProofs [pur2_i, pur2_b, pur2_s, pur2_nil, pur2_sl, pur2_tup, rn2_tup, rn2_agg, rn2_osl, rn1_v, rn1_osl, rn1_agg, rn0_v, rn0_sl, rn0, pickObs, pur_v, pur_b, pur_s, pur_nil, pur_sl, deI, deIs_sl, fitB, gc, ge, hA, -List.all_eq_false]
  · have e : k = l.length := by omega
    subst e
    rw [List.take_length] at ha
    simp -implicitDefEqProofs [List.lookup_cons, and_assoc, pick_and, pick_or, if_and, if_or, cBx]
    refine fin_pure (by simp) ?_
    simp -implicitDefEqProofs [pur2_i, pur2_b, pur2_s, pur2_nil, pur2_sl, pur2_tup, rn2_tup, rn2_agg, rn2_osl, rn1_v, rn1_osl, rn1_agg, rn0_v, rn0_sl, rn0, pickObs, pur_v, pur_b, pur_s, pur_nil, pur_sl, deI, deIs_sl, fitB, gc, ge, ha, -List.all_eq_true]

/-! ### sums over classes -/
def sumK (l : List Evt) (cs : List Int) (q : Int) : Int := (cs.map fun c => sk l c q).sum
theorem perm_sum {l m : List Int} (h : l.Perm m) : l.sum = m.sum := by
  induction h with
  | nil => rfl
  | cons x _ ih => simp [ih]
  | swap x y l => simp; omega
  | trans _ _ h1 h2 => exact h1.trans h2
theorem sumK_perm (l : List Evt) {a b : List Int} (h : a.Perm b) (q : Int) : sumK l a q = sumK l b q := perm_sum (h.map _)
theorem sumK_snoc (l : List Evt) (cs : List Int) (c q : Int) : sumK l (cs ++ [c]) q = sumK l cs q + sk l c q := by simp [sumK]
def acc4S (l : List Evt) (cs : List Int) : List Int := [sumK l cs 1, sumK l cs 2, sumK l cs 4, sumK l cs 1 - sumK l cs 4]
theorem acc4S_perm (l : List Evt) {a b : List Int} (h : a.Perm b) : acc4S l a = acc4S l b := by simp only [acc4S, sumK_perm l h]
theorem acc4S_snoc (l : List Evt) (cs : List Int) (c : Int) : acc4S l (cs ++ [c]) = addL (acc4S l cs) (acc4 l c) := by
  simp [acc4S, acc4, addL, sumK_snoc]
  omega
theorem sumK_bd (l : List Evt) (cs : List Int) (q : Int) (hl : l.length ≤ 80) (hok : ∀ e ∈ l, e.ok = true) : 0 ≤ sumK l cs q ∧ sumK l cs q ≤ 120000 * cs.length := by
  induction cs with
  | nil => simp [sumK]
  | cons c cs ih =>
    have := sk_nn l c q hok
    have e : sumK l (c :: cs) q = sk l c q + sumK l cs q := by simp [sumK]
    rw [e]
    simp only [List.length_cons]
    omega
theorem acc4S_small (l : List Evt) (cs : List Int) (hl : l.length ≤ 80) (hok : ∀ e ∈ l, e.ok = true) (h : cs.length ≤ 24) : smallL (acc4S l cs) := by
  have h1 := sumK_bd l cs 1 hl hok
  have h2 := sumK_bd l cs 2 hl hok
  have h4 := sumK_bd l cs 4 hl hok
  simp [smallL, acc4S]
  omega
def belR (c : Cfg) (l : List Evt) (id : Int) : X × List Ob := if (fitB c l && decide (0 ≤ fidx c.cls id)) = true then (.tup [.osl 0 0, B true], [iOb (acc4S l (belI c.cls (fidx c.cls id).toNat (leafL c.cls c.cls.length)))]) else (.tup [.sl [], B false], [])
def F36 : Fun := ⟨fun xs => xs = [.agg (cX (deC (xs.getD 0 .top) : Cfg)), .sl (tR (deT (xs.getD 1 .top) : List Evt)), I (deI (xs.getD 2 .top) : Int)] ∧ (fun (c : Cfg) (l : List Evt) (id : Int) => (okC c ∧ l.length ≤ 1048576)) (deC (xs.getD 0 .top) : Cfg) (deT (xs.getD 1 .top) : List Evt) (deI (xs.getD 2 .top) : Int), fun xs => (fun (c : Cfg) (l : List Evt) (id : Int) => ((belR c l id) : X × List Ob)) (deC (xs.getD 0 .top) : Cfg) (deT (xs.getD 1 .top) : List Evt) (deI (xs.getD 2 .top) : Int)⟩
theorem F36_in {xs : List X} (h : F36.pre xs) : ∃ (c : Cfg) (l : List Evt) (id : Int), xs = [.agg (cX c), .sl (tR l), I id] ∧ (okC c ∧ l.length ≤ 1048576) := ⟨_, _, _, h.1, h.2⟩
theorem F36_res (c : Cfg) (l : List Evt) (id : Int) : F36.res [.agg (cX c), .sl (tR l), I id] = (belR c l id) := by simp [F36]
theorem F36_mk (c : Cfg) (l : List Evt) (id : Int) (h : okC c ∧ l.length ≤ 1048576) : F36.pre [.agg (cX c), .sl (tR l), I id] := by simpa [F36] using h
theorem c36 : GenCA K Tryd.prog 36 F36 := by
  refine contractA Tryd.mix K [(53, F53), (72, F72), (73, F73)] [(74, M74)] (by simp [c53, c72, c73]) (by simp [m74]) Tryd.func36 rfl (by decide) ?_
  intro xs hxs
  obtain ⟨c, l, id, rfl, hp⟩ := F36_in hxs
  rw [F36_res]
  refine ⟨by rw [Tryd.ntmps36]; simp, ?_⟩
  obtain ⟨hok, hl⟩ := hp
  cases gf : fitB c l with
  | false =>
    simp -implicitDefEqProofs [Tryd.f36, F53, F72, F73, M74, List.lookup_cons, and_assoc, pick_and, pick_or, if_and, if_or, hok, hl, gf]
    refine fin_pure (by simp) ?_
    simp -implicitDefEqProofs [pur2_i, pur2_b, pur2_s, pur2_nil, pur2_sl, pur2_tup, rn2_tup, rn2_agg, rn2_osl, rn1_v, rn1_osl, rn1_agg, rn0_v, rn0_sl, rn0, pickObs, pur_v, pur_b, pur_s, pur_nil, pur_sl, deI, deIs_sl, belR, gf]
  | true =>
  have hfr := fidx_rng c.cls id
  by_cases h0 : fidx c.cls id < 0
  · have h0' : ¬ 0 ≤ fidx c.cls id := by omega
    simp -implicitDefEqProofs [Tryd.f36, F53, F72, F73, M74, List.lookup_cons, and_assoc, pick_and, pick_or, if_and, if_or, hok, hl, gf, h0]
    refine fin_pure (by simp) ?_
    simp -implicitDefEqProofs [pur2_i, pur2_b, pur2_s, pur2_nil, pur2_sl, pur2_tup, rn2_tup, rn2_agg, rn2_osl, rn1_v, rn1_osl, rn1_agg, rn0_v, rn0_sl, rn0, pickObs, pur_v, pur_b, pur_s, pur_nil, pur_sl, deI, deIs_sl, belR, gf, h0']
  have h0' : 0 ≤ fidx c.cls id := by omega
  have hI : okI c (fidx c.cls id) := ⟨hok, h0', hfr.2⟩
  have hfit := gf
  simp only [fitB, Bool.and_eq_true] at hfit
  obtain ⟨⟨hg, he⟩, hfa⟩ := hfit
  obtain ⟨he1, he2⟩ := evsOk_all he
  have hsm := cfg_lim hg
  have hR : belR c l id = (.tup [.osl 0 0, B true], [iOb (acc4S l (belI c.cls (fidx c.cls id).toNat (leafL c.cls c.cls.length)))]) := by rw [belR, gf]; simp [h0']
  rw [hR]
  have hbl : (belI c.cls (fidx c.cls id).toNat (leafL c.cls c.cls.length)).length ≤ 24 := by
    unfold belI
    rw [List.length_map]
    have h1 := List.length_filter_le (fun j : Nat => (chain c.cls 9 (j : Int)).contains (((fidx c.cls id).toNat : Nat) : Int)) (leafL c.cls c.cls.length)
    have h2 := leafL_len c.cls c.cls.length
    omega
  simp -implicitDefEqProofs [Tryd.f36, List.lookup_cons, and_assoc, pick_and, pick_or, if_and, if_or, F53, F72, F73, hok, hl, gf, h0, hI, hg, iOb, eMake]
  generalize belI c.cls (fidx c.cls id).toNat (leafL c.cls c.cls.length) = ks at hbl
  refine loopP_inv (fun k : Nat => ⟨36, tl [(1, .sl (tR l)), (9, .osl 1 0), (24, .osl 2 0), (25, I ks.length), (26, I k)], [cBx c, iOb (acc4S l (ks.take k)), iOb ks]⟩) (fun k => k ≤ ks.length) (fun k => ks.length - k) 0 (Nat.zero_le _) (Wk.tl (by simp [hold, upd, tl_cons])) ?_
  intro k hk
  by_cases h : k < ks.length
  · have hw1 := w64n (show k < 4611686018427387904 by omega)
    have hS : acc4S l (ks.take (k + 1)) = addL (acc4S l (ks.take k)) (acc4 l ks[k]) := by rw [takeS ks k h, acc4S_snoc]
    have hsl : smallL (acc4S l (ks.take k)) := acc4S_small l _ he1 he2 (by simp; omega)
    have hmu : M74.mu = [true] := rfl
    have hpa : M74.pre [.osl 0 0, .sl (tR l), I ks[k]] [⟨3, 1, 0, iR (acc4S l (ks.take k)), false, true, none⟩] := ⟨l, ks[k], _, _, _, _, rfl, rfl, hsl, he1, he2⟩
    have hra : M74.res [.osl 0 0, .sl (tR l), I ks[k]] [⟨3, 1, 0, iR (acc4S l (ks.take k)), false, true, none⟩] = (.tup [], [iOb (acc4S l (ks.take (k + 1)))]) := by
      rw [hS]
      simp [M74, obI, deI]
    simp -implicitDefEqProofs [List.lookup_cons, and_assoc, pick_and, pick_or, if_and, if_or, rbR_iR, rbR_nil, rbOb_mk, iR_mf, pickOk, -List.all_eq_true, iR_ok, ok0, iR_eq_nil, deIs_nil, h, cBx, iOb, hmu, hpa, hra]
    refine ⟨k + 1, by omega, by omega, ?_⟩
    exact Wk.tl (by simp [hold, upd, tl_cons, hw1])
  · have e : k = ks.length := by omega
    subst e
    rw [List.take_length]
    simp -implicitDefEqProofs [List.lookup_cons, and_assoc, pick_and, pick_or, if_and, if_or, iOb, cBx]
    refine fin_own [1] (by simp [pickOk, -List.all_eq_true, iR_ok]) ?_
    simp -implicitDefEqProofs [pur2_i, pur2_b, pur2_s, pur2_nil, pur2_sl, pur2_tup, rn2_tup, rn2_agg, rn2_osl, rn1_v, rn1_osl, rn1_agg, rn0_v, rn0_sl, rn0, pickObs, pur_v, pur_b, pur_s, pur_nil, pur_sl, deI, deIs_sl, iOb]
end Go.Proofs
