/-
  What is proved here: the differences of two configurations; plain laws. Condition: none.
  What is proved here: contracts of both functions that list the differences of two configurations. Condition: none.
-/
import Derived.Test.YteleljfnjdlnkaaGreatDoorD1x
import Derived.Test.YteleljfnjdlnkaaGreatDoorD0x
namespace Go.Proofs
open Go.Abs
set_option linter.unusedSimpArgs false
set_option linter.unnecessarySimpa false
set_option linter.unusedVariables false
set_option maxHeartbeats 8000000
set_option maxRecDepth 20000

def chOb (l : List Chg) : Ob := tOb 61 16 l
def chDropF (p : Int) : Chg := ⟨3, ⟨#[]⟩, p, 0, 0, 0, 0, 0, 0, 0, 0, 0, 0, 0, 0, 0⟩
def chDropC (p : Int) : Chg := ⟨4, ⟨#[]⟩, p, 0, 0, 0, 0, 0, 0, 0, 0, 0, 0, 0, 0, 0⟩
def chName (s : ByteArray) : Chg := ⟨1, s, 0, 0, 0, 0, 0, 0, 0, 0, 0, 0, 0, 0, 0, 0⟩
def chDef (p : Int) : Chg := ⟨2, ⟨#[]⟩, p, 0, 0, 0, 0, 0, 0, 0, 0, 0, 0, 0, 0, 0⟩
def chPutC (x : Cls) : Chg := ⟨5, ⟨#[]⟩, 0, x.id, x.par, x.rate, x.ceil, x.burst, x.cburst, x.prio, x.lim, 0, 0, 0, 0, 0⟩
def chPutF (x : Fil) : Chg := ⟨6, ⟨#[]⟩, 0, 0, 0, 0, 0, 0, 0, 0, 0, x.prio, x.field, x.mask, x.value, x.target⟩
def fmL {α : Type} (p : α → Bool) (g : α → Chg) (l : List α) (k : Nat) : List Chg := ((l.take k).filter p).map g
theorem fmL_succ {α : Type} (p : α → Bool) (g : α → Chg) (l : List α) (k : Nat) (h : k < l.length) : fmL p g l (k + 1) = fmL p g l k ++ (if p l[k] = true then [g l[k]] else []) := by
  unfold fmL
  rw [takeS l k h, List.filter_append, List.map_append]
  cases hq : p l[k] <;> simp [hq, List.filter_cons]
@[simp] theorem fmL_zero {α : Type} (p : α → Bool) (g : α → Chg) (l : List α) : fmL p g l 0 = [] := rfl
theorem fmL_len {α : Type} (p : α → Bool) (g : α → Chg) (l : List α) (k : Nat) : (fmL p g l k).length ≤ k := by
  unfold fmL
  rw [List.length_map]
  exact Nat.le_trans (List.length_filter_le _ _) (by simp; omega)
def dA (c d : Cfg) (k : Nat) : List Chg := fmL (fun x : Fil => decide (pidx d.fil x.prio < 0)) (fun x => chDropF x.prio) c.fil k
def dB (c d : Cfg) (k : Nat) : List Chg := fmL (fun x : Cls => decide (fidx d.cls x.id < 0)) (fun x => chDropC x.id) c.cls k
def dC (c d : Cfg) : List Chg := if (c.name.toList == d.name.toList) = true then [] else [chName d.name]
def dD (c d : Cfg) (k : Nat) : List Chg := fmL (fun x : Cls => !c.cls.any (Cls.eqB x)) chPutC d.cls k
def dE (c d : Cfg) (k : Nat) : List Chg := fmL (fun x : Fil => !c.fil.any (Fil.eqB x)) chPutF d.fil k
def dF (c d : Cfg) : List Chg := if c.dflt = d.dflt then [] else [chDef d.dflt]
def p1 (c d : Cfg) : List Chg := dA c d c.fil.length
def p2 (c d : Cfg) : List Chg := p1 c d ++ dB c d c.cls.length
def p3 (c d : Cfg) : List Chg := p2 c d ++ dC c d
def p4 (c d : Cfg) : List Chg := p3 c d ++ dD c d d.cls.length
def p5 (c d : Cfg) : List Chg := p4 c d ++ dE c d d.fil.length
def diffL (c d : Cfg) : List Chg := p5 c d ++ dF c d
theorem dC_len (c d : Cfg) : (dC c d).length ≤ 1 := by unfold dC; split <;> simp
theorem dF_len (c d : Cfg) : (dF c d).length ≤ 1 := by unfold dF; split <;> simp
theorem p1_len (c d : Cfg) : (p1 c d).length ≤ c.fil.length := fmL_len _ _ _ _
theorem p2_len (c d : Cfg) : (p2 c d).length ≤ c.fil.length + c.cls.length := by
  have := p1_len c d
  have := fmL_len (fun x : Cls => decide (fidx d.cls x.id < 0)) (fun x => chDropC x.id) c.cls c.cls.length
  simp only [p2, dB, List.length_append]; omega
theorem p3_len (c d : Cfg) : (p3 c d).length ≤ c.fil.length + c.cls.length + 1 := by
  have := p2_len c d
  have := dC_len c d
  simp only [p3, List.length_append]; omega
theorem p4_len (c d : Cfg) : (p4 c d).length ≤ c.fil.length + c.cls.length + 1 + d.cls.length := by
  have := p3_len c d
  have := fmL_len (fun x : Cls => !c.cls.any (Cls.eqB x)) chPutC d.cls d.cls.length
  simp only [p4, dD, List.length_append]; omega
theorem p5_len (c d : Cfg) : (p5 c d).length ≤ c.fil.length + c.cls.length + 1 + d.cls.length + d.fil.length := by
  have := p4_len c d
  have := fmL_len (fun x : Fil => !c.fil.any (Fil.eqB x)) chPutF d.fil d.fil.length
  simp only [p5, dE, List.length_append]; omega
theorem diffL_len (c d : Cfg) : (diffL c d).length ≤ c.fil.length + c.cls.length + d.cls.length + d.fil.length + 2 := by
  have := p5_len c d
  have := dF_len c d
  simp only [diffL, List.length_append]; omega
/-- one of the rows goes on, or not -/
theorem fm_yes {α : Type} (P : List Chg) (p : α → Bool) (g : α → Chg) (l : List α) (k : Nat) (h : k < l.length) (hq : p l[k] = true) : tR (P ++ fmL p g l k) ++ [rX (g l[k])] = tR (P ++ fmL p g l (k + 1)) := by
  rw [fmL_succ p g l k h, if_pos hq, tR_one, tR_append, List.append_assoc]
theorem fm_yes0 {α : Type} (p : α → Bool) (g : α → Chg) (l : List α) (k : Nat) (h : k < l.length) (hq : p l[k] = true) : tR (fmL p g l k) ++ [rX (g l[k])] = tR (fmL p g l (k + 1)) := by
  rw [fmL_succ p g l k h, if_pos hq, tR_one, tR_append]
theorem fm_no {α : Type} (p : α → Bool) (g : α → Chg) (l : List α) (k : Nat) (h : k < l.length) (hq : p l[k] = false) : fmL p g l (k + 1) = fmL p g l k := by
  rw [fmL_succ p g l k h, hq, if_neg (by simp), List.append_nil]
end Go.Proofs

namespace Go.Proofs
open Go.Abs
set_option linter.unusedSimpArgs false
set_option linter.unnecessarySimpa false
set_option linter.unusedVariables false
set_option maxHeartbeats 16000000
set_option maxRecDepth 20000
theorem chOb_ok (l : List Chg) (m : Nat) : (tR l).all (fun r => r.all (ok0 m)) = true := tR_ok l m
def F46 : Fun := ⟨fun xs => xs = [.agg (cX (deC (xs.getD 0 .top) : Cfg)), .agg (cX (deC (xs.getD 1 .top) : Cfg))] ∧ (fun (c : Cfg) (d : Cfg) => (okC c ∧ okC d ∧ isCfg c = true)) (deC (xs.getD 0 .top) : Cfg) (deC (xs.getD 1 .top) : Cfg), fun xs => (fun (c : Cfg) (d : Cfg) => ((.osl 0 0, [chOb (diffL c d)]) : X × List Ob)) (deC (xs.getD 0 .top) : Cfg) (deC (xs.getD 1 .top) : Cfg)⟩
theorem F46_in {xs : List X} (h : F46.pre xs) : ∃ (c : Cfg) (d : Cfg), xs = [.agg (cX c), .agg (cX d)] ∧ (okC c ∧ okC d ∧ isCfg c = true) := ⟨_, _, h.1, h.2⟩
theorem F46_res (c : Cfg) (d : Cfg) : F46.res [.agg (cX c), .agg (cX d)] = (.osl 0 0, [chOb (diffL c d)]) := by simp [F46]
theorem F46_mk (c : Cfg) (d : Cfg) (h : okC c ∧ okC d ∧ isCfg c = true) : F46.pre [.agg (cX c), .agg (cX d)] := by simpa [F46] using h

theorem c46 : GenCA K Tryz.prog 46 F46 := by
  refine contractA Tryz.mix K [(65, F65), (67, F67), (73, F73), (74, F74)] [] (by simp [c65, c67, c73, c74]) (by simp) Tryz.func46 rfl (by decide) ?_
  intro xs hxs
  obtain ⟨c, d, rfl, hp⟩ := F46_in hxs
  rw [F46_res]
  refine ⟨by rw [Tryz.ntmps46]; simp, ?_⟩
  obtain ⟨⟨hc1, hc2, hc3⟩, ⟨hd1, hd2, hd3⟩, hgc⟩ := hp
  have okc : okC c := ⟨hc1, hc2, hc3⟩
  have okd : okC d := ⟨hd1, hd2, hd3⟩
  have b1 := p1_len c d
  have b2 := p2_len c d
  have b3 := p3_len c d
  have b4 := p4_len c d
  have b5 := p5_len c d
  simp -implicitDefEqProofs [Tryz.f46, List.lookup_cons, and_assoc, pick_and, pick_or, if_and, if_or, hc1, hc2, hd1, hd2, eBuildSlice, srcRows, srcOk, chunk]
  refine loopP_inv (fun k : Nat => ⟨112, tl [(2, .optr 0 0 0 0), (3, .optr 1 0 0 0), (5, .osl 2 0), (16, .sl (tR c.fil)), (17, I c.fil.length), (18, I k)], [cBx c, cBx d, chOb (dA c d k)]⟩) (fun k => k ≤ c.fil.length) (fun k => c.fil.length - k) 0 (Nat.zero_le _) ?_ ?_
  · exact Wk.tl (by simp [hold, upd, tl_cons])
  intro k hk
  by_cases h : k < c.fil.length
  · have hw1 := w64n (show k < 4611686018427387904 by omega)
    have hln : (dA c d k).length ≤ k := fmL_len _ _ _ _
    by_cases hq : pidx d.fil c.fil[k].prio < 0
    · have hN : tR (dA c d k) ++ [rX ((fun x : Fil => chDropF x.prio) c.fil[k])] = tR (dA c d (k + 1)) := fm_yes0 (fun x : Fil => decide (pidx d.fil x.prio < 0)) (fun x : Fil => chDropF x.prio) c.fil k h (by simpa using hq)
      simp only [chDropF, Chg.rXe] at hN
      simp -implicitDefEqProofs [List.lookup_cons, and_assoc, pick_and, pick_or, if_and, if_or, h, cBx, chOb, tOb, hc1, hc2, hd1, hd2, okc, okd, F65, hq, eAppend, eBuildSlice, srcRows, srcOk, chunk]
      refine ⟨by omega, by omega, k + 1, by omega, by omega, ?_⟩
      rw [hN]
      refine Wk.tlP [0, 1, 2] (by simp [pickOk, -List.all_eq_true, tR_ok, ok0]) ?_ ?_
      · simp [pickObs]
      · simp [hold, upd, tl_cons, rn1, rn0, hw1]
        exact ⟨rfl, rfl, rfl⟩
    · have hN : dA c d (k + 1) = dA c d k := fm_no (fun x : Fil => decide (pidx d.fil x.prio < 0)) (fun x : Fil => chDropF x.prio) c.fil k h (by simpa using hq)
      simp -implicitDefEqProofs [List.lookup_cons, and_assoc, pick_and, pick_or, if_and, if_or, h, cBx, chOb, tOb, hc1, hc2, hd1, hd2, okc, okd, F65, hq, eAppend, eBuildSlice, srcRows, srcOk, chunk]
      refine ⟨k + 1, by omega, by omega, ?_⟩
      rw [hN]
      exact Wk.tlD (m := 3) rfl (by simp [hold, upd, tl_cons, hw1]) (by simp [okL_cons, okL_nil, ok1, ok0]) (okH_cBx _ _ _ (okH_cBx _ _ _ (okH_tR _ _ _ _ _ _ _ _ _ (by simp [okH_nil]))))
  · have e : k = c.fil.length := by omega
    subst e
    rw [show dA c d c.fil.length = p1 c d from rfl]
    simp -implicitDefEqProofs [List.lookup_cons, and_assoc, pick_and, pick_or, if_and, if_or, cBx, chOb, tOb, hc1, hc2, hd1, hd2, eAppend, eBuildSlice, srcRows, srcOk, chunk]
    refine loopP_inv (fun k : Nat => ⟨112, tl [(2, .optr 0 0 0 0), (3, .optr 1 0 0 0), (5, .osl 2 0), (35, .sl (tR c.cls)), (36, I c.cls.length), (37, I k)], [cBx c, cBx d, chOb (p1 c d ++ dB c d k)]⟩) (fun k => k ≤ c.cls.length) (fun k => c.cls.length - k) 0 (Nat.zero_le _) ?_ ?_
    · rw [show p1 c d ++ dB c d 0 = p1 c d from List.append_nil _]
      exact Wk.tl (by simp [hold, upd, tl_cons])
    intro k hk
    by_cases h : k < c.cls.length
    · have hw1 := w64n (show k < 4611686018427387904 by omega)
      have hln : (dB c d k).length ≤ k := fmL_len _ _ _ _
      generalize hP : p1 c d = P
      have hPl : P.length ≤ 4194308 := by rw [← hP]; omega
      by_cases hq : fidx d.cls c.cls[k].id < 0
      · have hN : tR (P ++ dB c d k) ++ [rX ((fun x : Cls => chDropC x.id) c.cls[k])] = tR (P ++ dB c d (k + 1)) := fm_yes P (fun x : Cls => decide (fidx d.cls x.id < 0)) (fun x : Cls => chDropC x.id) c.cls k h (by simpa using hq)
        simp only [chDropC, Chg.rXe] at hN
        simp -implicitDefEqProofs [List.lookup_cons, and_assoc, pick_and, pick_or, if_and, if_or, h, cBx, chOb, tOb, hc1, hc2, hd1, hd2, okc, okd, F67, hq, eAppend, eBuildSlice, srcRows, srcOk, chunk]
        refine ⟨by omega, by omega, k + 1, by omega, by omega, ?_⟩
        rw [hN]
        refine Wk.tlP [0, 1, 2] (by simp [pickOk, -List.all_eq_true, tR_ok, ok0]) ?_ ?_
        · simp [pickObs]
        · simp [hold, upd, tl_cons, rn1, rn0, hw1]
          exact ⟨rfl, rfl, rfl⟩
      · have hN : dB c d (k + 1) = dB c d k := fm_no (fun x : Cls => decide (fidx d.cls x.id < 0)) (fun x : Cls => chDropC x.id) c.cls k h (by simpa using hq)
        simp -implicitDefEqProofs [List.lookup_cons, and_assoc, pick_and, pick_or, if_and, if_or, h, cBx, chOb, tOb, hc1, hc2, hd1, hd2, okc, okd, F67, hq, eAppend, eBuildSlice, srcRows, srcOk, chunk]
        refine ⟨k + 1, by omega, by omega, ?_⟩
        rw [hN]
        exact Wk.tlD (m := 3) rfl (by simp [hold, upd, tl_cons, hw1]) (by simp [okL_cons, okL_nil, ok1, ok0]) (okH_cBx _ _ _ (okH_cBx _ _ _ (okH_tR _ _ _ _ _ _ _ _ _ (by simp [okH_nil]))))
    · have e : k = c.cls.length := by omega
      subst e
      rw [show p1 c d ++ dB c d c.cls.length = p2 c d from rfl]
      by_cases hnm : (c.name.toList == d.name.toList) = true
      · have hN : p3 c d = p2 c d := by simp only [p3, dC, if_pos hnm, List.append_nil]
        simp -implicitDefEqProofs [List.lookup_cons, and_assoc, pick_and, pick_or, if_and, if_or, cBx, chOb, tOb, hc1, hc2, hd1, hd2, hnm, eAppend, eBuildSlice, srcRows, srcOk, chunk]
        refine loopP_inv (fun k : Nat => ⟨112, tl [(2, .optr 0 0 0 0), (3, .optr 1 0 0 0), (5, .osl 2 0), (65, .sl (tR d.cls)), (66, I d.cls.length), (67, I k)], [cBx c, cBx d, chOb (p3 c d ++ dD c d k)]⟩) (fun k => k ≤ d.cls.length) (fun k => d.cls.length - k) 0 (Nat.zero_le _) ?_ ?_
        · rw [show p3 c d ++ dD c d 0 = p3 c d from List.append_nil _]
          first
            | (rw [hN]; exact Wk.tl (by simp [hold, upd, tl_cons]))
            | (refine Wk.tlP [0, 1, 2] (by simp [pickOk, -List.all_eq_true, tR_ok, ok0]) ?_ ?_
               · first | (simp [pickObs]; done) | (simp [pickObs]; exact ⟨rfl, rfl, rfl⟩)
               · first | (simp [hold, upd, tl_cons, rn1, rn0]; done) | (simp [hold, upd, tl_cons, rn1, rn0]; exact ⟨rfl, rfl, rfl⟩))
        intro k hk
        by_cases h : k < d.cls.length
        · have hw1 := w64n (show k < 4611686018427387904 by omega)
          have hln : (dD c d k).length ≤ k := fmL_len _ _ _ _
          generalize hP : p3 c d = P
          have hPl : P.length ≤ 4194308 := by rw [← hP]; omega
          cases hq : c.cls.any (Cls.eqB d.cls[k]) with
          | false =>
            have hN : tR (P ++ dD c d k) ++ [rX (chPutC d.cls[k])] = tR (P ++ dD c d (k + 1)) := fm_yes P (fun x : Cls => !c.cls.any (Cls.eqB x)) chPutC d.cls k h (by simp only [hq]; rfl)
            simp only [chPutC, Chg.rXe] at hN
            simp -implicitDefEqProofs [List.lookup_cons, and_assoc, pick_and, pick_or, if_and, if_or, h, cBx, chOb, tOb, hc1, hc2, hd1, hd2, okc, okd, F73, hq, -List.any_eq_false, eAppend, eBuildSlice, srcRows, srcOk, chunk]
            refine ⟨by omega, by omega, k + 1, by omega, by omega, ?_⟩
            rw [hN]
            refine Wk.tlP [0, 1, 2] (by simp [pickOk, -List.all_eq_true, tR_ok, ok0]) ?_ ?_
            · simp [pickObs]
            · simp [hold, upd, tl_cons, rn1, rn0, hw1]
              exact ⟨rfl, rfl, rfl⟩
          | true =>
            have hN : dD c d (k + 1) = dD c d k := fm_no (fun x : Cls => !c.cls.any (Cls.eqB x)) chPutC d.cls k h (by simp only [hq]; rfl)
            simp -implicitDefEqProofs [List.lookup_cons, and_assoc, pick_and, pick_or, if_and, if_or, h, cBx, chOb, tOb, hc1, hc2, hd1, hd2, okc, okd, F73, hq, -List.any_eq_true, eAppend, eBuildSlice, srcRows, srcOk, chunk]
            refine ⟨k + 1, by omega, by omega, ?_⟩
            rw [hN]
            exact Wk.tlD (m := 3) rfl (by simp [hold, upd, tl_cons, hw1]) (by simp [okL_cons, okL_nil, ok1, ok0]) (okH_cBx _ _ _ (okH_cBx _ _ _ (okH_tR _ _ _ _ _ _ _ _ _ (by simp [okH_nil]))))
        · have e : k = d.cls.length := by omega
          subst e
          rw [show p3 c d ++ dD c d d.cls.length = p4 c d from rfl]
          simp -implicitDefEqProofs [List.lookup_cons, and_assoc, pick_and, pick_or, if_and, if_or, cBx, chOb, tOb, hc1, hc2, hd1, hd2, eAppend, eBuildSlice, srcRows, srcOk, chunk]
          refine loopP_inv (fun k : Nat => ⟨112, tl [(2, .optr 0 0 0 0), (3, .optr 1 0 0 0), (5, .osl 2 0), (83, .sl (tR d.fil)), (84, I d.fil.length), (85, I k)], [cBx c, cBx d, chOb (p4 c d ++ dE c d k)]⟩) (fun k => k ≤ d.fil.length) (fun k => d.fil.length - k) 0 (Nat.zero_le _) ?_ ?_
          · rw [show p4 c d ++ dE c d 0 = p4 c d from List.append_nil _]
            exact Wk.tl (by simp [hold, upd, tl_cons])
          intro k hk
          by_cases h : k < d.fil.length
          · have hw1 := w64n (show k < 4611686018427387904 by omega)
            have hln : (dE c d k).length ≤ k := fmL_len _ _ _ _
            generalize hP : p4 c d = P
            have hPl : P.length ≤ 4194308 := by rw [← hP]; omega
            cases hq : c.fil.any (Fil.eqB d.fil[k]) with
            | false =>
              have hN : tR (P ++ dE c d k) ++ [rX (chPutF d.fil[k])] = tR (P ++ dE c d (k + 1)) := fm_yes P (fun x : Fil => !c.fil.any (Fil.eqB x)) chPutF d.fil k h (by simp only [hq]; rfl)
              simp only [chPutF, Chg.rXe] at hN
              simp -implicitDefEqProofs [List.lookup_cons, and_assoc, pick_and, pick_or, if_and, if_or, h, cBx, chOb, tOb, hc1, hc2, hd1, hd2, okc, okd, F74, hq, -List.any_eq_false, eAppend, eBuildSlice, srcRows, srcOk, chunk]
              refine ⟨by omega, by omega, k + 1, by omega, by omega, ?_⟩
              rw [hN]
              refine Wk.tlP [0, 1, 2] (by simp [pickOk, -List.all_eq_true, tR_ok, ok0]) ?_ ?_
              · simp [pickObs]
              · simp [hold, upd, tl_cons, rn1, rn0, hw1]
                exact ⟨rfl, rfl, rfl⟩
            | true =>
              have hN : dE c d (k + 1) = dE c d k := fm_no (fun x : Fil => !c.fil.any (Fil.eqB x)) chPutF d.fil k h (by simp only [hq]; rfl)
              simp -implicitDefEqProofs [List.lookup_cons, and_assoc, pick_and, pick_or, if_and, if_or, h, cBx, chOb, tOb, hc1, hc2, hd1, hd2, okc, okd, F74, hq, -List.any_eq_true, eAppend, eBuildSlice, srcRows, srcOk, chunk]
              refine ⟨k + 1, by omega, by omega, ?_⟩
              rw [hN]
              exact Wk.tlD (m := 3) rfl (by simp [hold, upd, tl_cons, hw1]) (by simp [okL_cons, okL_nil, ok1, ok0]) (okH_cBx _ _ _ (okH_cBx _ _ _ (okH_tR _ _ _ _ _ _ _ _ _ (by simp [okH_nil]))))
          · have e : k = d.fil.length := by omega
            subst e
            rw [show p4 c d ++ dE c d d.fil.length = p5 c d from rfl]
            by_cases hdf : c.dflt = d.dflt
            · have hN : diffL c d = p5 c d := by simp only [diffL, dF, if_pos hdf, List.append_nil]
              simp -implicitDefEqProofs [List.lookup_cons, and_assoc, pick_and, pick_or, if_and, if_or, cBx, chOb, tOb, hdf, eAppend, eBuildSlice, srcRows, srcOk, chunk]
              refine fin_own [2] (by simp [pickOk, -List.all_eq_true, tR_ok]) ?_
              simp -implicitDefEqProofs [pur2_i, pur2_b, pur2_s, pur2_nil, pur2_sl, pur2_tup, rn2_tup, rn2_agg, rn2_osl, rn1_v, rn1_osl, rn1_agg, rn0_v, rn0_sl, rn0, pickObs, pur_v, pur_b, pur_s, pur_nil, pur_sl, deI, deIs_sl, chOb, tOb, hN]
            · have hN : tR (p5 c d) ++ [rX (chDef d.dflt)] = tR (diffL c d) := by simp only [diffL, dF, if_neg hdf, tR_one, tR_append]
              simp only [chDef, Chg.rXe] at hN
              simp -implicitDefEqProofs [List.lookup_cons, and_assoc, pick_and, pick_or, if_and, if_or, cBx, chOb, tOb, hdf, eAppend, eBuildSlice, srcRows, srcOk, chunk]
              refine ⟨by omega, by omega, ?_⟩
              rw [hN]
              refine fin_own [2] (by simp [pickOk, -List.all_eq_true, tR_ok]) ?_
              simp -implicitDefEqProofs [pur2_i, pur2_b, pur2_s, pur2_nil, pur2_sl, pur2_tup, rn2_tup, rn2_agg, rn2_osl, rn1_v, rn1_osl, rn1_agg, rn0_v, rn0_sl, rn0, pickObs, pur_v, pur_b, pur_s, pur_nil, pur_sl, deI, deIs_sl, chOb, tOb]
      · have hnm0 : (c.name.toList == d.name.toList) = false := not_true hnm
        have hN : tR (p2 c d) ++ [rX (chName d.name)] = tR (p3 c d) := by simp only [p3, dC, hnm0, Bool.false_eq_true, if_false, tR_one, tR_append]
        simp only [chName, Chg.rXe] at hN
        simp -implicitDefEqProofs [List.lookup_cons, and_assoc, pick_and, pick_or, if_and, if_or, cBx, chOb, tOb, hc1, hc2, hd1, hd2, hnm0, eAppend, eBuildSlice, srcRows, srcOk, chunk]
        refine ⟨by omega, by omega, ?_⟩
        rw [hN]
        refine loopP_inv (fun k : Nat => ⟨112, tl [(2, .optr 0 0 0 0), (3, .optr 1 0 0 0), (5, .osl 2 0), (65, .sl (tR d.cls)), (66, I d.cls.length), (67, I k)], [cBx c, cBx d, chOb (p3 c d ++ dD c d k)]⟩) (fun k => k ≤ d.cls.length) (fun k => d.cls.length - k) 0 (Nat.zero_le _) ?_ ?_
        · rw [show p3 c d ++ dD c d 0 = p3 c d from List.append_nil _]
          first
            | (rw [hN]; exact Wk.tl (by simp [hold, upd, tl_cons]))
            | (refine Wk.tlP [0, 1, 2] (by simp [pickOk, -List.all_eq_true, tR_ok, ok0]) ?_ ?_
               · first | (simp [pickObs]; done) | (simp [pickObs]; exact ⟨rfl, rfl, rfl⟩)
               · first | (simp [hold, upd, tl_cons, rn1, rn0]; done) | (simp [hold, upd, tl_cons, rn1, rn0]; exact ⟨rfl, rfl, rfl⟩))
        intro k hk
        by_cases h : k < d.cls.length
        · have hw1 := w64n (show k < 4611686018427387904 by omega)
          have hln : (dD c d k).length ≤ k := fmL_len _ _ _ _
          generalize hP : p3 c d = P
          have hPl : P.length ≤ 4194308 := by rw [← hP]; omega
          cases hq : c.cls.any (Cls.eqB d.cls[k]) with
          | false =>
            have hN : tR (P ++ dD c d k) ++ [rX (chPutC d.cls[k])] = tR (P ++ dD c d (k + 1)) := fm_yes P (fun x : Cls => !c.cls.any (Cls.eqB x)) chPutC d.cls k h (by simp only [hq]; rfl)
            simp only [chPutC, Chg.rXe] at hN
            simp -implicitDefEqProofs [List.lookup_cons, and_assoc, pick_and, pick_or, if_and, if_or, h, cBx, chOb, tOb, hc1, hc2, hd1, hd2, okc, okd, F73, hq, -List.any_eq_false, eAppend, eBuildSlice, srcRows, srcOk, chunk]
            refine ⟨by omega, by omega, k + 1, by omega, by omega, ?_⟩
            rw [hN]
            refine Wk.tlP [0, 1, 2] (by simp [pickOk, -List.all_eq_true, tR_ok, ok0]) ?_ ?_
            · simp [pickObs]
            · simp [hold, upd, tl_cons, rn1, rn0, hw1]
              exact ⟨rfl, rfl, rfl⟩
          | true =>
            have hN : dD c d (k + 1) = dD c d k := fm_no (fun x : Cls => !c.cls.any (Cls.eqB x)) chPutC d.cls k h (by simp only [hq]; rfl)
            simp -implicitDefEqProofs [List.lookup_cons, and_assoc, pick_and, pick_or, if_and, if_or, h, cBx, chOb, tOb, hc1, hc2, hd1, hd2, okc, okd, F73, hq, -List.any_eq_true, eAppend, eBuildSlice, srcRows, srcOk, chunk]
            refine ⟨k + 1, by omega, by omega, ?_⟩
            rw [hN]
            exact Wk.tlD (m := 3) rfl (by simp [hold, upd, tl_cons, hw1]) (by simp [okL_cons, okL_nil, ok1, ok0]) (okH_cBx _ _ _ (okH_cBx _ _ _ (okH_tR _ _ _ _ _ _ _ _ _ (by simp [okH_nil]))))
        · have e : k = d.cls.length := by omega
          subst e
          rw [show p3 c d ++ dD c d d.cls.length = p4 c d from rfl]
          simp -implicitDefEqProofs [List.lookup_cons, and_assoc, pick_and, pick_or, if_and, if_or, cBx, chOb, tOb, hc1, hc2, hd1, hd2, eAppend, eBuildSlice, srcRows, srcOk, chunk]
          refine loopP_inv (fun k : Nat => ⟨112, tl [(2, .optr 0 0 0 0), (3, .optr 1 0 0 0), (5, .osl 2 0), (83, .sl (tR d.fil)), (84, I d.fil.length), (85, I k)], [cBx c, cBx d, chOb (p4 c d ++ dE c d k)]⟩) (fun k => k ≤ d.fil.length) (fun k => d.fil.length - k) 0 (Nat.zero_le _) ?_ ?_
          · rw [show p4 c d ++ dE c d 0 = p4 c d from List.append_nil _]
            exact Wk.tl (by simp [hold, upd, tl_cons])
          intro k hk
          by_cases h : k < d.fil.length
          · have hw1 := w64n (show k < 4611686018427387904 by omega)
            have hln : (dE c d k).length ≤ k := fmL_len _ _ _ _
            generalize hP : p4 c d = P
            have hPl : P.length ≤ 4194308 := by rw [← hP]; omega
            cases hq : c.fil.any (Fil.eqB d.fil[k]) with
            | false =>
              have hN : tR (P ++ dE c d k) ++ [rX (chPutF d.fil[k])] = tR (P ++ dE c d (k + 1)) := fm_yes P (fun x : Fil => !c.fil.any (Fil.eqB x)) chPutF d.fil k h (by simp only [hq]; rfl)
              simp only [chPutF, Chg.rXe] at hN
              simp -implicitDefEqProofs [List.lookup_cons, and_assoc, pick_and, pick_or, if_and, if_or, h, cBx, chOb, tOb, hc1, hc2, hd1, hd2, okc, okd, F74, hq, -List.any_eq_false, eAppend, eBuildSlice, srcRows, srcOk, chunk]
              refine ⟨by omega, by omega, k + 1, by omega, by omega, ?_⟩
              rw [hN]
              refine Wk.tlP [0, 1, 2] (by simp [pickOk, -List.all_eq_true, tR_ok, ok0]) ?_ ?_
              · simp [pickObs]
              · simp [hold, upd, tl_cons, rn1, rn0, hw1]
                exact ⟨rfl, rfl, rfl⟩
            | true =>
              have hN : dE c d (k + 1) = dE c d k := fm_no (fun x : Fil => !c.fil.any (Fil.eqB x)) chPutF d.fil k h (by simp only [hq]; rfl)
              simp -implicitDefEqProofs [List.lookup_cons, and_assoc, pick_and, pick_or, if_and, if_or, h, cBx, chOb, tOb, hc1, hc2, hd1, hd2, okc, okd, F74, hq, -List.any_eq_true, eAppend, eBuildSlice, srcRows, srcOk, chunk]
              refine ⟨k + 1, by omega, by omega, ?_⟩
              rw [hN]
              exact Wk.tlD (m := 3) rfl (by simp [hold, upd, tl_cons, hw1]) (by simp [okL_cons, okL_nil, ok1, ok0]) (okH_cBx _ _ _ (okH_cBx _ _ _ (okH_tR _ _ _ _ _ _ _ _ _ (by simp [okH_nil]))))
          · have e : k = d.fil.length := by omega
            subst e
            rw [show p4 c d ++ dE c d d.fil.length = p5 c d from rfl]
            by_cases hdf : c.dflt = d.dflt
            · have hN : diffL c d = p5 c d := by simp only [diffL, dF, if_pos hdf, List.append_nil]
              simp -implicitDefEqProofs [List.lookup_cons, and_assoc, pick_and, pick_or, if_and, if_or, cBx, chOb, tOb, hdf, eAppend, eBuildSlice, srcRows, srcOk, chunk]
              refine fin_own [2] (by simp [pickOk, -List.all_eq_true, tR_ok]) ?_
              simp -implicitDefEqProofs [pur2_i, pur2_b, pur2_s, pur2_nil, pur2_sl, pur2_tup, rn2_tup, rn2_agg, rn2_osl, rn1_v, rn1_osl, rn1_agg, rn0_v, rn0_sl, rn0, pickObs, pur_v, pur_b, pur_s, pur_nil, pur_sl, deI, deIs_sl, chOb, tOb, hN]
            · have hN : tR (p5 c d) ++ [rX (chDef d.dflt)] = tR (diffL c d) := by simp only [diffL, dF, if_neg hdf, tR_one, tR_append]
              simp only [chDef, Chg.rXe] at hN
              simp -implicitDefEqProofs [List.lookup_cons, and_assoc, pick_and, pick_or, if_and, if_or, cBx, chOb, tOb, hdf, eAppend, eBuildSlice, srcRows, srcOk, chunk]
              refine ⟨by omega, by omega, ?_⟩
              rw [hN]
              refine fin_own [2] (by simp [pickOk, -List.all_eq_true, tR_ok]) ?_
              simp -implicitDefEqProofs [pur2_i, pur2_b, pur2_s, pur2_nil, pur2_sl, pur2_tup, rn2_tup, rn2_agg, rn2_osl, rn1_v, rn1_osl, rn1_agg, rn0_v, rn0_sl, rn0, pickObs, pur_v, pur_b, pur_s, pur_nil, pur_sl, deI, deIs_sl, chOb, tOb]
theorem c45 : GenCA K Tryz.prog 45 F46 := by
  refine contractA Tryz.mix K [(54, F65), (56, F67)] [] (by simp [c54, c56]) (by simp) Tryz.func45 rfl (by decide) ?_
  intro xs hxs
  obtain ⟨c, d, rfl, hp⟩ := F46_in hxs
  rw [F46_res]
  refine ⟨by rw [Tryz.ntmps45]; simp, ?_⟩
  obtain ⟨⟨hc1, hc2, hc3⟩, ⟨hd1, hd2, hd3⟩, hgc⟩ := hp
  have okc : okC c := ⟨hc1, hc2, hc3⟩
  have okd : okC d := ⟨hd1, hd2, hd3⟩
  have hcg := hgc
  rw [isCfg_eq] at hcg
  have huc := cfg_up hcg
  have hup := cfg_upF hcg
  have b1 := p1_len c d
  have b2 := p2_len c d
  have b3 := p3_len c d
  have b4 := p4_len c d
  have b5 := p5_len c d
  simp -implicitDefEqProofs [Tryz.f45, List.lookup_cons, and_assoc, pick_and, pick_or, if_and, if_or, hc1, hc2, hd1, hd2, eBuildSlice, srcRows, srcOk, chunk]
  refine loopP_inv (fun k : Nat => ⟨133, tl [(2, .optr 0 0 0 0), (3, .optr 1 0 0 0), (5, .osl 2 0), (17, .sl (tR c.fil)), (18, I c.fil.length), (19, I k)], [cBx c, cBx d, chOb (dA c d k)]⟩) (fun k => k ≤ c.fil.length) (fun k => c.fil.length - k) 0 (Nat.zero_le _) ?_ ?_
  · exact Wk.tlN (h := [cBx c, cBx d]) 61 16 5 (by simp [upd]) (by simp [hold, upd, tl_cons])
  intro k hk
  by_cases h : k < c.fil.length
  · have hw1 := w64n (show k < 4611686018427387904 by omega)
    have hln : (dA c d k).length ≤ k := fmL_len _ _ _ _
    by_cases hq : pidx d.fil c.fil[k].prio < 0
    · have hN : tR (dA c d k) ++ [rX ((fun x : Fil => chDropF x.prio) c.fil[k])] = tR (dA c d (k + 1)) := fm_yes0 (fun x : Fil => decide (pidx d.fil x.prio < 0)) (fun x : Fil => chDropF x.prio) c.fil k h (by simpa using hq)
      simp only [chDropF, Chg.rXe] at hN
      simp -implicitDefEqProofs [List.lookup_cons, and_assoc, pick_and, pick_or, if_and, if_or, h, cBx, chOb, tOb, hc1, hc2, hd1, hd2, okc, okd, F65, hq, eAppend, eBuildSlice, srcRows, srcOk, chunk]
      refine ⟨by omega, by omega, k + 1, by omega, by omega, ?_⟩
      rw [hN]
      refine Wk.tlP [0, 1, 2] (by simp [pickOk, -List.all_eq_true, tR_ok, ok0]) ?_ ?_
      · simp [pickObs]
      · simp [hold, upd, tl_cons, rn1, rn0, hw1]
        exact ⟨rfl, rfl, rfl⟩
    · have hN : dA c d (k + 1) = dA c d k := fm_no (fun x : Fil => decide (pidx d.fil x.prio < 0)) (fun x : Fil => chDropF x.prio) c.fil k h (by simpa using hq)
      simp -implicitDefEqProofs [List.lookup_cons, and_assoc, pick_and, pick_or, if_and, if_or, h, cBx, chOb, tOb, hc1, hc2, hd1, hd2, okc, okd, F65, hq, eAppend, eBuildSlice, srcRows, srcOk, chunk]
      refine ⟨k + 1, by omega, by omega, ?_⟩
      rw [hN]
      exact Wk.tlD (m := 3) rfl (by simp [hold, upd, tl_cons, hw1]) (by simp [okL_cons, okL_nil, ok1, ok0]) (okH_cBx _ _ _ (okH_cBx _ _ _ (okH_tR _ _ _ _ _ _ _ _ _ (by simp [okH_nil]))))
  · have e : k = c.fil.length := by omega
    subst e
    rw [show dA c d c.fil.length = p1 c d from rfl]
    simp -implicitDefEqProofs [List.lookup_cons, and_assoc, pick_and, pick_or, if_and, if_or, cBx, chOb, tOb, hc1, hc2, hd1, hd2, eAppend, eBuildSlice, srcRows, srcOk, chunk]
    refine loopP_inv (fun k : Nat => ⟨133, tl [(2, .optr 0 0 0 0), (3, .optr 1 0 0 0), (5, .osl 2 0), (36, .sl (tR c.cls)), (37, I c.cls.length), (38, I k)], [cBx c, cBx d, chOb (p1 c d ++ dB c d k)]⟩) (fun k => k ≤ c.cls.length) (fun k => c.cls.length - k) 0 (Nat.zero_le _) ?_ ?_
    · rw [show p1 c d ++ dB c d 0 = p1 c d from List.append_nil _]
      exact Wk.tl (by simp [hold, upd, tl_cons])
    intro k hk
    by_cases h : k < c.cls.length
    · have hw1 := w64n (show k < 4611686018427387904 by omega)
      have hln : (dB c d k).length ≤ k := fmL_len _ _ _ _
      generalize hP : p1 c d = P
      have hPl : P.length ≤ 4194308 := by rw [← hP]; omega
      by_cases hq : fidx d.cls c.cls[k].id < 0
      · have hN : tR (P ++ dB c d k) ++ [rX ((fun x : Cls => chDropC x.id) c.cls[k])] = tR (P ++ dB c d (k + 1)) := fm_yes P (fun x : Cls => decide (fidx d.cls x.id < 0)) (fun x : Cls => chDropC x.id) c.cls k h (by simpa using hq)
        simp only [chDropC, Chg.rXe] at hN
        simp -implicitDefEqProofs [List.lookup_cons, and_assoc, pick_and, pick_or, if_and, if_or, h, cBx, chOb, tOb, hc1, hc2, hd1, hd2, okc, okd, F67, hq, eAppend, eBuildSlice, srcRows, srcOk, chunk]
        refine ⟨by omega, by omega, k + 1, by omega, by omega, ?_⟩
        rw [hN]
        refine Wk.tlP [0, 1, 2] (by simp [pickOk, -List.all_eq_true, tR_ok, ok0]) ?_ ?_
        · simp [pickObs]
        · simp [hold, upd, tl_cons, rn1, rn0, hw1]
          exact ⟨rfl, rfl, rfl⟩
      · have hN : dB c d (k + 1) = dB c d k := fm_no (fun x : Cls => decide (fidx d.cls x.id < 0)) (fun x : Cls => chDropC x.id) c.cls k h (by simpa using hq)
        simp -implicitDefEqProofs [List.lookup_cons, and_assoc, pick_and, pick_or, if_and, if_or, h, cBx, chOb, tOb, hc1, hc2, hd1, hd2, okc, okd, F67, hq, eAppend, eBuildSlice, srcRows, srcOk, chunk]
        refine ⟨k + 1, by omega, by omega, ?_⟩
        rw [hN]
        exact Wk.tlD (m := 3) rfl (by simp [hold, upd, tl_cons, hw1]) (by simp [okL_cons, okL_nil, ok1, ok0]) (okH_cBx _ _ _ (okH_cBx _ _ _ (okH_tR _ _ _ _ _ _ _ _ _ (by simp [okH_nil]))))
    · have e : k = c.cls.length := by omega
      subst e
      rw [show p1 c d ++ dB c d c.cls.length = p2 c d from rfl]
      by_cases hnm : (c.name.toList == d.name.toList) = true
      · have hN : p3 c d = p2 c d := by simp only [p3, dC, if_pos hnm, List.append_nil]
        simp -implicitDefEqProofs [List.lookup_cons, and_assoc, pick_and, pick_or, if_and, if_or, cBx, chOb, tOb, hc1, hc2, hd1, hd2, hnm, eAppend, eBuildSlice, srcRows, srcOk, chunk]
        refine loopP_inv (fun k : Nat => ⟨133, tl [(2, .optr 0 0 0 0), (3, .optr 1 0 0 0), (5, .osl 2 0), (66, .sl (tR d.cls)), (67, I d.cls.length), (68, I k)], [cBx c, cBx d, chOb (p3 c d ++ dD c d k)]⟩) (fun k => k ≤ d.cls.length) (fun k => d.cls.length - k) 0 (Nat.zero_le _) ?_ ?_
        · rw [show p3 c d ++ dD c d 0 = p3 c d from List.append_nil _]
          first
            | (rw [hN]; exact Wk.tl (by simp [hold, upd, tl_cons]))
            | (refine Wk.tlP [0, 1, 2] (by simp [pickOk, -List.all_eq_true, tR_ok, ok0]) ?_ ?_
               · first | (simp [pickObs]; done) | (simp [pickObs]; exact ⟨rfl, rfl, rfl⟩)
               · first | (simp [hold, upd, tl_cons, rn1, rn0]; done) | (simp [hold, upd, tl_cons, rn1, rn0]; exact ⟨rfl, rfl, rfl⟩))
        intro k hk
        by_cases h : k < d.cls.length
        · have hw1 := w64n (show k < 4611686018427387904 by omega)
          have hln : (dD c d k).length ≤ k := fmL_len _ _ _ _
          generalize hP : p3 c d = P
          have hPl : P.length ≤ 4194308 := by rw [← hP]; omega
          simp -implicitDefEqProofs [List.lookup_cons, and_assoc, pick_and, pick_or, if_and, if_or, h, cBx, chOb, tOb, hc1, hc2, hd1, hd2, okc, okd, F67, eAppend, eBuildSlice, srcRows, srcOk, chunk]
          refine drawP_all _ (by decide) ?_
          cases hq : c.cls.any (Cls.eqB d.cls[k]) with
          | true =>
            have hN : dD c d (k + 1) = dD c d k := fm_no (fun x : Cls => !c.cls.any (Cls.eqB x)) chPutC d.cls k h (by simp only [hq]; rfl)
            obtain ⟨y, hy, hye⟩ := List.any_eq_true.1 hq
            rw [← (Cls.eqB_iff _ _).1 hye] at hy
            obtain ⟨j, hj, hje⟩ := List.getElem_of_mem hy
            have hf : fidx c.cls d.cls[k].id = (j : Int) := by rw [← hje]; exact fidx_at huc j hj
            simp -implicitDefEqProofs [List.lookup_cons, and_assoc, pick_and, pick_or, if_and, if_or, h, cBx, chOb, tOb, hc1, hc2, hd1, hd2, okc, okd, hf, hj, hje, show ¬ (j : Int) < 0 by omega, planEq, eAppend, eBuildSlice, srcRows, srcOk, chunk]
            refine ⟨k + 1, by omega, by omega, ?_⟩
            rw [hN]
            exact Wk.tlD (m := 3) rfl (by simp [hold, upd, tl_cons, hw1]) (by simp [okL_cons, okL_nil, ok1, ok0]) (okH_cBx _ _ _ (okH_cBx _ _ _ (okH_tR _ _ _ _ _ _ _ _ _ (by simp [okH_nil]))))
          | false =>
            have hN : tR (P ++ dD c d k) ++ [rX (chPutC d.cls[k])] = tR (P ++ dD c d (k + 1)) := fm_yes P (fun x : Cls => !c.cls.any (Cls.eqB x)) chPutC d.cls k h (by simp only [hq]; rfl)
            simp only [chPutC, Chg.rXe] at hN
            by_cases hf0 : 0 ≤ fidx c.cls d.cls[k].id
            · obtain ⟨j, hf⟩ := Int.eq_ofNat_of_zero_le hf0
              obtain ⟨hj, hid⟩ := fidx_id hf
              have hne : ¬ c.cls[j] = d.cls[k] := fun e => by
                have : c.cls.any (Cls.eqB d.cls[k]) = true := List.any_eq_true.2 ⟨c.cls[j], List.getElem_mem hj, (Cls.eqB_iff _ _).2 e.symm⟩
                rw [this] at hq; cases hq
              simp -implicitDefEqProofs [List.lookup_cons, and_assoc, pick_and, pick_or, if_and, if_or, h, cBx, chOb, tOb, hc1, hc2, hd1, hd2, okc, okd, hf, hj, show ¬ (j : Int) < 0 by omega, planEq, eAppend, eBuildSlice, srcRows, srcOk, chunk]
              refine ⟨fun _ => ?_, fun a1 a2 a3 a4 a5 a6 a7 a8 => (hne ((Cls.eqB_iff _ _).1 (by simp [Cls.eqB, a1, a2, a3, a4, a5, a6, a7, a8]))).elim⟩
              refine ⟨by omega, by omega, k + 1, by omega, by omega, ?_⟩
              rw [hN]
              refine Wk.tlP [0, 1, 2] (by simp [pickOk, -List.all_eq_true, tR_ok, ok0]) ?_ ?_
              · simp [pickObs]
              · simp [hold, upd, tl_cons, rn1, rn0, hw1]
                exact ⟨rfl, rfl, rfl⟩
            · simp -implicitDefEqProofs [List.lookup_cons, and_assoc, pick_and, pick_or, if_and, if_or, h, cBx, chOb, tOb, hc1, hc2, hd1, hd2, okc, okd, hf0, show fidx c.cls d.cls[k].id < 0 by omega, planEq, eAppend, eBuildSlice, srcRows, srcOk, chunk]
              refine ⟨by omega, by omega, k + 1, by omega, by omega, ?_⟩
              rw [hN]
              refine Wk.tlP [0, 1, 2] (by simp [pickOk, -List.all_eq_true, tR_ok, ok0]) ?_ ?_
              · simp [pickObs]
              · simp [hold, upd, tl_cons, rn1, rn0, hw1]
                exact ⟨rfl, rfl, rfl⟩
        · have e : k = d.cls.length := by omega
          subst e
          rw [show p3 c d ++ dD c d d.cls.length = p4 c d from rfl]
          simp -implicitDefEqProofs [List.lookup_cons, and_assoc, pick_and, pick_or, if_and, if_or, cBx, chOb, tOb, hc1, hc2, hd1, hd2, eAppend, eBuildSlice, srcRows, srcOk, chunk]
          refine loopP_inv (fun k : Nat => ⟨133, tl [(2, .optr 0 0 0 0), (3, .optr 1 0 0 0), (5, .osl 2 0), (94, .sl (tR d.fil)), (95, I d.fil.length), (96, I k)], [cBx c, cBx d, chOb (p4 c d ++ dE c d k)]⟩) (fun k => k ≤ d.fil.length) (fun k => d.fil.length - k) 0 (Nat.zero_le _) ?_ ?_
          · rw [show p4 c d ++ dE c d 0 = p4 c d from List.append_nil _]
            exact Wk.tl (by simp [hold, upd, tl_cons])
          intro k hk
          by_cases h : k < d.fil.length
          · have hw1 := w64n (show k < 4611686018427387904 by omega)
            have hln : (dE c d k).length ≤ k := fmL_len _ _ _ _
            generalize hP : p4 c d = P
            have hPl : P.length ≤ 4194308 := by rw [← hP]; omega
            simp -implicitDefEqProofs [List.lookup_cons, and_assoc, pick_and, pick_or, if_and, if_or, h, cBx, chOb, tOb, hc1, hc2, hd1, hd2, okc, okd, F65, eAppend, eBuildSlice, srcRows, srcOk, chunk]
            refine drawP_all _ (by decide) ?_
            cases hq : c.fil.any (Fil.eqB d.fil[k]) with
            | true =>
              have hN : dE c d (k + 1) = dE c d k := fm_no (fun x : Fil => !c.fil.any (Fil.eqB x)) chPutF d.fil k h (by simp only [hq]; rfl)
              obtain ⟨y, hy, hye⟩ := List.any_eq_true.1 hq
              rw [← (Fil.eqB_iff _ _).1 hye] at hy
              obtain ⟨j, hj, hje⟩ := List.getElem_of_mem hy
              have hf : pidx c.fil d.fil[k].prio = (j : Int) := by rw [← hje]; exact pidx_at hup j hj
              simp -implicitDefEqProofs [List.lookup_cons, and_assoc, pick_and, pick_or, if_and, if_or, h, cBx, chOb, tOb, hc1, hc2, hd1, hd2, okc, okd, hf, hj, hje, show ¬ (j : Int) < 0 by omega, planEq, eAppend, eBuildSlice, srcRows, srcOk, chunk]
              refine ⟨k + 1, by omega, by omega, ?_⟩
              rw [hN]
              exact Wk.tlD (m := 3) rfl (by simp [hold, upd, tl_cons, hw1]) (by simp [okL_cons, okL_nil, ok1, ok0]) (okH_cBx _ _ _ (okH_cBx _ _ _ (okH_tR _ _ _ _ _ _ _ _ _ (by simp [okH_nil]))))
            | false =>
              have hN : tR (P ++ dE c d k) ++ [rX (chPutF d.fil[k])] = tR (P ++ dE c d (k + 1)) := fm_yes P (fun x : Fil => !c.fil.any (Fil.eqB x)) chPutF d.fil k h (by simp only [hq]; rfl)
              simp only [chPutF, Chg.rXe] at hN
              by_cases hf0 : 0 ≤ pidx c.fil d.fil[k].prio
              · obtain ⟨j, hf⟩ := Int.eq_ofNat_of_zero_le hf0
                obtain ⟨hj, hid⟩ := pidx_id hf
                have hne : ¬ c.fil[j] = d.fil[k] := fun e => by
                  have : c.fil.any (Fil.eqB d.fil[k]) = true := List.any_eq_true.2 ⟨c.fil[j], List.getElem_mem hj, (Fil.eqB_iff _ _).2 e.symm⟩
                  rw [this] at hq; cases hq
                simp -implicitDefEqProofs [List.lookup_cons, and_assoc, pick_and, pick_or, if_and, if_or, h, cBx, chOb, tOb, hc1, hc2, hd1, hd2, okc, okd, hf, hj, show ¬ (j : Int) < 0 by omega, planEq, eAppend, eBuildSlice, srcRows, srcOk, chunk]
                refine ⟨fun _ => ?_, fun a1 a2 a3 a4 a5 => (hne ((Fil.eqB_iff _ _).1 (by simp [Fil.eqB, a1, a2, a3, a4, a5]))).elim⟩
                refine ⟨by omega, by omega, k + 1, by omega, by omega, ?_⟩
                rw [hN]
                refine Wk.tlP [0, 1, 2] (by simp [pickOk, -List.all_eq_true, tR_ok, ok0]) ?_ ?_
                · simp [pickObs]
                · simp [hold, upd, tl_cons, rn1, rn0, hw1]
                  exact ⟨rfl, rfl, rfl⟩
              · simp -implicitDefEqProofs [List.lookup_cons, and_assoc, pick_and, pick_or, if_and, if_or, h, cBx, chOb, tOb, hc1, hc2, hd1, hd2, okc, okd, hf0, show pidx c.fil d.fil[k].prio < 0 by omega, planEq, eAppend, eBuildSlice, srcRows, srcOk, chunk]
                refine ⟨by omega, by omega, k + 1, by omega, by omega, ?_⟩
                rw [hN]
                refine Wk.tlP [0, 1, 2] (by simp [pickOk, -List.all_eq_true, tR_ok, ok0]) ?_ ?_
                · simp [pickObs]
                · simp [hold, upd, tl_cons, rn1, rn0, hw1]
                  exact ⟨rfl, rfl, rfl⟩
          · have e : k = d.fil.length := by omega
            subst e
            rw [show p4 c d ++ dE c d d.fil.length = p5 c d from rfl]
            by_cases hdf : c.dflt = d.dflt
            · have hN : diffL c d = p5 c d := by simp only [diffL, dF, if_pos hdf, List.append_nil]
              simp -implicitDefEqProofs [List.lookup_cons, and_assoc, pick_and, pick_or, if_and, if_or, cBx, chOb, tOb, hdf, eAppend, eBuildSlice, srcRows, srcOk, chunk]
              refine fin_own [2] (by simp [pickOk, -List.all_eq_true, tR_ok]) ?_
              simp -implicitDefEqProofs [pur2_i, pur2_b, pur2_s, pur2_nil, pur2_sl, pur2_tup, rn2_tup, rn2_agg, rn2_osl, rn1_v, rn1_osl, rn1_agg, rn0_v, rn0_sl, rn0, pickObs, pur_v, pur_b, pur_s, pur_nil, pur_sl, deI, deIs_sl, chOb, tOb, hN]
            · have hN : tR (p5 c d) ++ [rX (chDef d.dflt)] = tR (diffL c d) := by simp only [diffL, dF, if_neg hdf, tR_one, tR_append]
              simp only [chDef, Chg.rXe] at hN
              simp -implicitDefEqProofs [List.lookup_cons, and_assoc, pick_and, pick_or, if_and, if_or, cBx, chOb, tOb, hdf, eAppend, eBuildSlice, srcRows, srcOk, chunk]
              refine ⟨by omega, by omega, ?_⟩
              rw [hN]
              refine fin_own [2] (by simp [pickOk, -List.all_eq_true, tR_ok]) ?_
              simp -implicitDefEqProofs [pur2_i, pur2_b, pur2_s, pur2_nil, pur2_sl, pur2_tup, rn2_tup, rn2_agg, rn2_osl, rn1_v, rn1_osl, rn1_agg, rn0_v, rn0_sl, rn0, pickObs, pur_v, pur_b, pur_s, pur_nil, pur_sl, deI, deIs_sl, chOb, tOb]
      · have hnm0 : (c.name.toList == d.name.toList) = false := not_true hnm
        have hN : tR (p2 c d) ++ [rX (chName d.name)] = tR (p3 c d) := by simp only [p3, dC, hnm0, Bool.false_eq_true, if_false, tR_one, tR_append]
        simp only [chName, Chg.rXe] at hN
        simp -implicitDefEqProofs [List.lookup_cons, and_assoc, pick_and, pick_or, if_and, if_or, cBx, chOb, tOb, hc1, hc2, hd1, hd2, hnm0, eAppend, eBuildSlice, srcRows, srcOk, chunk]
        refine ⟨by omega, by omega, ?_⟩
        rw [hN]
        refine loopP_inv (fun k : Nat => ⟨133, tl [(2, .optr 0 0 0 0), (3, .optr 1 0 0 0), (5, .osl 2 0), (66, .sl (tR d.cls)), (67, I d.cls.length), (68, I k)], [cBx c, cBx d, chOb (p3 c d ++ dD c d k)]⟩) (fun k => k ≤ d.cls.length) (fun k => d.cls.length - k) 0 (Nat.zero_le _) ?_ ?_
        · rw [show p3 c d ++ dD c d 0 = p3 c d from List.append_nil _]
          first
            | (rw [hN]; exact Wk.tl (by simp [hold, upd, tl_cons]))
            | (refine Wk.tlP [0, 1, 2] (by simp [pickOk, -List.all_eq_true, tR_ok, ok0]) ?_ ?_
               · first | (simp [pickObs]; done) | (simp [pickObs]; exact ⟨rfl, rfl, rfl⟩)
               · first | (simp [hold, upd, tl_cons, rn1, rn0]; done) | (simp [hold, upd, tl_cons, rn1, rn0]; exact ⟨rfl, rfl, rfl⟩))
        intro k hk
        by_cases h : k < d.cls.length
        · have hw1 := w64n (show k < 4611686018427387904 by omega)
          have hln : (dD c d k).length ≤ k := fmL_len _ _ _ _
          generalize hP : p3 c d = P
          have hPl : P.length ≤ 4194308 := by rw [← hP]; omega
          simp -implicitDefEqProofs [List.lookup_cons, and_assoc, pick_and, pick_or, if_and, if_or, h, cBx, chOb, tOb, hc1, hc2, hd1, hd2, okc, okd, F67, eAppend, eBuildSlice, srcRows, srcOk, chunk]
          refine drawP_all _ (by decide) ?_
          cases hq : c.cls.any (Cls.eqB d.cls[k]) with
          | true =>
            have hN : dD c d (k + 1) = dD c d k := fm_no (fun x : Cls => !c.cls.any (Cls.eqB x)) chPutC d.cls k h (by simp only [hq]; rfl)
            obtain ⟨y, hy, hye⟩ := List.any_eq_true.1 hq
            rw [← (Cls.eqB_iff _ _).1 hye] at hy
            obtain ⟨j, hj, hje⟩ := List.getElem_of_mem hy
            have hf : fidx c.cls d.cls[k].id = (j : Int) := by rw [← hje]; exact fidx_at huc j hj
            simp -implicitDefEqProofs [List.lookup_cons, and_assoc, pick_and, pick_or, if_and, if_or, h, cBx, chOb, tOb, hc1, hc2, hd1, hd2, okc, okd, hf, hj, hje, show ¬ (j : Int) < 0 by omega, planEq, eAppend, eBuildSlice, srcRows, srcOk, chunk]
            refine ⟨k + 1, by omega, by omega, ?_⟩
            rw [hN]
            exact Wk.tlD (m := 3) rfl (by simp [hold, upd, tl_cons, hw1]) (by simp [okL_cons, okL_nil, ok1, ok0]) (okH_cBx _ _ _ (okH_cBx _ _ _ (okH_tR _ _ _ _ _ _ _ _ _ (by simp [okH_nil]))))
          | false =>
            have hN : tR (P ++ dD c d k) ++ [rX (chPutC d.cls[k])] = tR (P ++ dD c d (k + 1)) := fm_yes P (fun x : Cls => !c.cls.any (Cls.eqB x)) chPutC d.cls k h (by simp only [hq]; rfl)
            simp only [chPutC, Chg.rXe] at hN
            by_cases hf0 : 0 ≤ fidx c.cls d.cls[k].id
            · obtain ⟨j, hf⟩ := Int.eq_ofNat_of_zero_le hf0
              obtain ⟨hj, hid⟩ := fidx_id hf
              have hne : ¬ c.cls[j] = d.cls[k] := fun e => by
                have : c.cls.any (Cls.eqB d.cls[k]) = true := List.any_eq_true.2 ⟨c.cls[j], List.getElem_mem hj, (Cls.eqB_iff _ _).2 e.symm⟩
                rw [this] at hq; cases hq
              simp -implicitDefEqProofs [List.lookup_cons, and_assoc, pick_and, pick_or, if_and, if_or, h, cBx, chOb, tOb, hc1, hc2, hd1, hd2, okc, okd, hf, hj, show ¬ (j : Int) < 0 by omega, planEq, eAppend, eBuildSlice, srcRows, srcOk, chunk]
              refine ⟨fun _ => ?_, fun a1 a2 a3 a4 a5 a6 a7 a8 => (hne ((Cls.eqB_iff _ _).1 (by simp [Cls.eqB, a1, a2, a3, a4, a5, a6, a7, a8]))).elim⟩
              refine ⟨by omega, by omega, k + 1, by omega, by omega, ?_⟩
              rw [hN]
              refine Wk.tlP [0, 1, 2] (by simp [pickOk, -List.all_eq_true, tR_ok, ok0]) ?_ ?_
              · simp [pickObs]
              · simp [hold, upd, tl_cons, rn1, rn0, hw1]
                exact ⟨rfl, rfl, rfl⟩
            · simp -implicitDefEqProofs [List.lookup_cons, and_assoc, pick_and, pick_or, if_and, if_or, h, cBx, chOb, tOb, hc1, hc2, hd1, hd2, okc, okd, hf0, show fidx c.cls d.cls[k].id < 0 by omega, planEq, eAppend, eBuildSlice, srcRows, srcOk, chunk]
              refine ⟨by omega, by omega, k + 1, by omega, by omega, ?_⟩
              rw [hN]
              refine Wk.tlP [0, 1, 2] (by simp [pickOk, -List.all_eq_true, tR_ok, ok0]) ?_ ?_
              · simp [pickObs]
              · simp [hold, upd, tl_cons, rn1, rn0, hw1]
                exact ⟨rfl, rfl, rfl⟩
        · have e : k = d.cls.length := by omega
          subst e
          rw [show p3 c d ++ dD c d d.cls.length = p4 c d from rfl]
          simp -implicitDefEqProofs [List.lookup_cons, and_assoc, pick_and, pick_or, if_and, if_or, cBx, chOb, tOb, hc1, hc2, hd1, hd2, eAppend, eBuildSlice, srcRows, srcOk, chunk]
          refine loopP_inv (fun k : Nat => ⟨133, tl [(2, .optr 0 0 0 0), (3, .optr 1 0 0 0), (5, .osl 2 0), (94, .sl (tR d.fil)), (95, I d.fil.length), (96, I k)], [cBx c, cBx d, chOb (p4 c d ++ dE c d k)]⟩) (fun k => k ≤ d.fil.length) (fun k => d.fil.length - k) 0 (Nat.zero_le _) ?_ ?_
          · rw [show p4 c d ++ dE c d 0 = p4 c d from List.append_nil _]
            exact Wk.tl (by simp [hold, upd, tl_cons])
          intro k hk
          by_cases h : k < d.fil.length
          · have hw1 := w64n (show k < 4611686018427387904 by omega)
            have hln : (dE c d k).length ≤ k := fmL_len _ _ _ _
            generalize hP : p4 c d = P
            have hPl : P.length ≤ 4194308 := by rw [← hP]; omega
            simp -implicitDefEqProofs [List.lookup_cons, and_assoc, pick_and, pick_or, if_and, if_or, h, cBx, chOb, tOb, hc1, hc2, hd1, hd2, okc, okd, F65, eAppend, eBuildSlice, srcRows, srcOk, chunk]
            refine drawP_all _ (by decide) ?_
            cases hq : c.fil.any (Fil.eqB d.fil[k]) with
            | true =>
              have hN : dE c d (k + 1) = dE c d k := fm_no (fun x : Fil => !c.fil.any (Fil.eqB x)) chPutF d.fil k h (by simp only [hq]; rfl)
              obtain ⟨y, hy, hye⟩ := List.any_eq_true.1 hq
              rw [← (Fil.eqB_iff _ _).1 hye] at hy
              obtain ⟨j, hj, hje⟩ := List.getElem_of_mem hy
              have hf : pidx c.fil d.fil[k].prio = (j : Int) := by rw [← hje]; exact pidx_at hup j hj
              simp -implicitDefEqProofs [List.lookup_cons, and_assoc, pick_and, pick_or, if_and, if_or, h, cBx, chOb, tOb, hc1, hc2, hd1, hd2, okc, okd, hf, hj, hje, show ¬ (j : Int) < 0 by omega, planEq, eAppend, eBuildSlice, srcRows, srcOk, chunk]
              refine ⟨k + 1, by omega, by omega, ?_⟩
              rw [hN]
              exact Wk.tlD (m := 3) rfl (by simp [hold, upd, tl_cons, hw1]) (by simp [okL_cons, okL_nil, ok1, ok0]) (okH_cBx _ _ _ (okH_cBx _ _ _ (okH_tR _ _ _ _ _ _ _ _ _ (by simp [okH_nil]))))
            | false =>
              have hN : tR (P ++ dE c d k) ++ [rX (chPutF d.fil[k])] = tR (P ++ dE c d (k + 1)) := fm_yes P (fun x : Fil => !c.fil.any (Fil.eqB x)) chPutF d.fil k h (by simp only [hq]; rfl)
              simp only [chPutF, Chg.rXe] at hN
              by_cases hf0 : 0 ≤ pidx c.fil d.fil[k].prio
              · obtain ⟨j, hf⟩ := Int.eq_ofNat_of_zero_le hf0
                obtain ⟨hj, hid⟩ := pidx_id hf
                have hne : ¬ c.fil[j] = d.fil[k] := fun e => by
                  have : c.fil.any (Fil.eqB d.fil[k]) = true := List.any_eq_true.2 ⟨c.fil[j], List.getElem_mem hj, (Fil.eqB_iff _ _).2 e.symm⟩
                  rw [this] at hq; cases hq
                simp -implicitDefEqProofs [List.lookup_cons, and_assoc, pick_and, pick_or, if_and, if_or, h, cBx, chOb, tOb, hc1, hc2, hd1, hd2, okc, okd, hf, hj, show ¬ (j : Int) < 0 by omega, planEq, eAppend, eBuildSlice, srcRows, srcOk, chunk]
                refine ⟨fun _ => ?_, fun a1 a2 a3 a4 a5 => (hne ((Fil.eqB_iff _ _).1 (by simp [Fil.eqB, a1, a2, a3, a4, a5]))).elim⟩
                refine ⟨by omega, by omega, k + 1, by omega, by omega, ?_⟩
                rw [hN]
                refine Wk.tlP [0, 1, 2] (by simp [pickOk, -List.all_eq_true, tR_ok, ok0]) ?_ ?_
                · simp [pickObs]
                · simp [hold, upd, tl_cons, rn1, rn0, hw1]
                  exact ⟨rfl, rfl, rfl⟩
              · simp -implicitDefEqProofs [List.lookup_cons, and_assoc, pick_and, pick_or, if_and, if_or, h, cBx, chOb, tOb, hc1, hc2, hd1, hd2, okc, okd, hf0, show pidx c.fil d.fil[k].prio < 0 by omega, planEq, eAppend, eBuildSlice, srcRows, srcOk, chunk]
                refine ⟨by omega, by omega, k + 1, by omega, by omega, ?_⟩
                rw [hN]
                refine Wk.tlP [0, 1, 2] (by simp [pickOk, -List.all_eq_true, tR_ok, ok0]) ?_ ?_
                · simp [pickObs]
                · simp [hold, upd, tl_cons, rn1, rn0, hw1]
                  exact ⟨rfl, rfl, rfl⟩
          · have e : k = d.fil.length := by omega
            subst e
            rw [show p4 c d ++ dE c d d.fil.length = p5 c d from rfl]
            by_cases hdf : c.dflt = d.dflt
            · have hN : diffL c d = p5 c d := by simp only [diffL, dF, if_pos hdf, List.append_nil]
              simp -implicitDefEqProofs [List.lookup_cons, and_assoc, pick_and, pick_or, if_and, if_or, cBx, chOb, tOb, hdf, eAppend, eBuildSlice, srcRows, srcOk, chunk]
              refine fin_own [2] (by simp [pickOk, -List.all_eq_true, tR_ok]) ?_
              simp -implicitDefEqProofs [pur2_i, pur2_b, pur2_s, pur2_nil, pur2_sl, pur2_tup, rn2_tup, rn2_agg, rn2_osl, rn1_v, rn1_osl, rn1_agg, rn0_v, rn0_sl, rn0, pickObs, pur_v, pur_b, pur_s, pur_nil, pur_sl, deI, deIs_sl, chOb, tOb, hN]
            · have hN : tR (p5 c d) ++ [rX (chDef d.dflt)] = tR (diffL c d) := by simp only [diffL, dF, if_neg hdf, tR_one, tR_append]
              simp only [chDef, Chg.rXe] at hN
              simp -implicitDefEqProofs [List.lookup_cons, and_assoc, pick_and, pick_or, if_and, if_or, cBx, chOb, tOb, hdf, eAppend, eBuildSlice, srcRows, srcOk, chunk]
              refine ⟨by omega, by omega, ?_⟩
              rw [hN]
              refine fin_own [2] (by simp [pickOk, -List.all_eq_true, tR_ok]) ?_
              simp -implicitDefEqProofs [pur2_i, pur2_b, pur2_s, pur2_nil, pur2_sl, pur2_tup, rn2_tup, rn2_agg, rn2_osl, rn1_v, rn1_osl, rn1_agg, rn0_v, rn0_sl, rn0, pickObs, pur_v, pur_b, pur_s, pur_nil, pur_sl, deI, deIs_sl, chOb, tOb]
end Go.Proofs
