/-
  What is proved here: the contract of the comparison of loaded configurations. Condition: none.
  What is proved here: the contract of the program's IsLoaded. Condition: none.
  What is proved here: the contract of the reference's IsLoaded. Condition: none.
-/
import Derived.Test.YtdpmlddmdogggaaGreatDoorIlA
import Derived.Test.YtdpmlddmdogggaaGreatDoorLCM
import Derived.Test.YtdpmlddmdogggaaGreatDoorIlB
import Derived.Test.YtdpmlddmdogggaaGreatDoorIlC
import Derived.Test.YtdpmlddmdogggaaGreatDoorLdA
import Derived.Test.YtdpmlddmdogggaaGreatDoorC10j
import Derived.Test.YtdpmlddmdogggaaGreatDoorLdB
set_option linter.unusedVariables false
set_option linter.unusedSimpArgs false
set_option linter.unnecessarySimpa false
set_option maxHeartbeats 16000000
set_option maxRecDepth 20000
namespace Go.Proofs
open Go.Abs Go.Srt
theorem ba_toList {a b : ByteArray} (h : a.toList = b.toList) : a = b := by
  rw [ByteArray.toList_eq, ByteArray.toList_eq] at h
  cases a; cases b
  simpa using h
theorem fil_ext {a b : Fil} (h1 : a.prio = b.prio) (h2 : a.field = b.field) (h3 : a.mask = b.mask) (h4 : a.value = b.value) (h5 : a.target = b.target) : a = b := by
  cases a; cases b; simp_all
def okM (x : Ldd) : Prop := okL x ∧ x.name.size ≤ 1048576
def sameLS (x y : Ldd) : Bool := decide (x.name = y.name) && (decide (x.cls = y.cls) && (decide (x.fil = y.fil) && (decide (x.dflt = y.dflt) && (decide (x.par = y.par) && (decide (x.fst = y.fst) && (decide (x.nx = y.nx) && (decide (x.en = y.en) && decide (x.tgt = y.tgt))))))))
def ldBx (x : Ldd) : Ob := ⟨35, 9, 0, [[.v (.string x.name), .sl (tR x.cls), .sl (iR x.par), .sl (iR x.fst), .sl (iR x.nx), .sl (iR x.en), .sl (tR x.fil), .sl (iR x.tgt), I x.dflt]], true, true, none⟩
def F102 : Fun := ⟨fun xs => xs = [.agg (lX (deL (xs.getD 0 .top) : Ldd)), .agg (lX (deL (xs.getD 1 .top) : Ldd))] ∧ (fun (x : Ldd) (y : Ldd) => (okL x ∧ okL y)) (deL (xs.getD 0 .top) : Ldd) (deL (xs.getD 1 .top) : Ldd), fun xs => (fun (x : Ldd) (y : Ldd) => ((B (sameLS x y), []) : X × List Ob)) (deL (xs.getD 0 .top) : Ldd) (deL (xs.getD 1 .top) : Ldd)⟩
theorem F102_in {xs : List X} (h : F102.pre xs) : ∃ (x : Ldd) (y : Ldd), xs = [.agg (lX x), .agg (lX y)] ∧ (okL x ∧ okL y) := ⟨_, _, h.1, h.2⟩
theorem F102_res (x : Ldd) (y : Ldd) : F102.res [.agg (lX x), .agg (lX y)] = (B (sameLS x y), []) := by simp [F102]
theorem F102_mk (x : Ldd) (y : Ldd) (h : okL x ∧ okL y) : F102.pre [.agg (lX x), .agg (lX y)] := by simpa [F102] using h
theorem c102 : GenCA K Tryz.prog 102 F102 := by
  refine contractA Tryz.mix K [(131, F131)] [] (by simp [c131]) (by simp) Tryz.func102 rfl (by decide) ?_
  intro xs hxs
  obtain ⟨x, y, rfl, hp⟩ := F102_in hxs
  rw [F102_res]
  refine ⟨by rw [Tryz.ntmps102]; simp, ?_⟩
  obtain ⟨⟨a1, a2, a3, a4, a5, a6, a7⟩, b1, b2, b3, b4, b5, b6, b7⟩ := hp
  simp -implicitDefEqProofs [Tryz.f102, F131, List.lookup_cons, eS]
  refine ⟨fun hbad => ?_, fun e0 e1 e2 e3 => ?_⟩
  · have hr : sameLS x y = false := by
      rw [Bool.eq_false_iff]
      intro hs
      simp only [sameLS, Bool.and_eq_true, decide_eq_true_eq] at hs
      obtain ⟨s0, s1, s2, s3, _⟩ := hs
      rw [s0, s1, s2, s3] at hbad
      simp at hbad
    refine fin_pure (by simp) ?_
    simp -implicitDefEqProofs [fS, rn0, pickObs, deI, hr]
  replace e0 := ba_toList e0
  replace e1 : x.cls.length = y.cls.length := by omega
  replace e2 : x.fil.length = y.fil.length := by omega
  refine loopP_inv (fun k : Nat => ⟨106, tl [(2, .optr 0 0 0 0), (3, .optr 1 0 0 0), (39, I y.cls.length), (40, I k)], [ldBx x, ldBx y]⟩) (fun k => k ≤ y.cls.length ∧ x.cls.take k = y.cls.take k) (fun k => y.cls.length - k) 0 (by simp) ?_ ?_
  · simp only [ldBx, e0, e3]
    exact Wk.tl (by simp [hold, upd, tl_cons, e1])
  rintro k ⟨hk, ha⟩
  by_cases h : k < y.cls.length
  · have h' : k < x.cls.length := by omega
    have hw := w64n (show k < 4611686018427387904 by omega)
    by_cases he : x.cls[k] = y.cls[k]
    · simp -implicitDefEqProofs [List.lookup_cons, eS, ldBx, h, h', he]
      refine drawP_all _ (by decide) ?_
      simp -implicitDefEqProofs [List.lookup_cons, eS, ldBx, h, h', he, planEq]
      refine ⟨k + 1, by omega, ?_, by omega, ?_⟩
      · rw [List.take_succ_eq_append_getElem h, List.take_succ_eq_append_getElem h', ha, he]
      exact Wk.tl (by simp [hold, upd, tl_cons, hw])
    · have hr : sameLS x y = false := by
        have : ¬ x.cls = y.cls := fun e => he (by simp only [e])
        simp [sameLS, this]
      simp -implicitDefEqProofs [List.lookup_cons, eS, ldBx, h, h']
      refine drawP_all _ (by decide) ?_
      simp -implicitDefEqProofs [List.lookup_cons, eS, ldBx, h, h', planEq]
      refine ⟨fun _ => ?_, fun a b c d e f g i => absurd (cls_ext a b c d e f g i) he⟩
      refine fin_pure (by simp) ?_
      simp -implicitDefEqProofs [fS, rn0, pickObs, deI, hr]
  have ek : k = y.cls.length := by omega
  subst ek
  have hc : x.cls = y.cls := by rw [← List.take_length (l := y.cls), ← ha, ← e1, List.take_length]
  clear ha hk h
  simp -implicitDefEqProofs [List.lookup_cons, eS, ldBx]
  refine loopP_inv (fun k : Nat => ⟨106, tl [(2, .optr 0 0 0 0), (3, .optr 1 0 0 0), (57, I y.fil.length), (58, I k)], [ldBx x, ldBx y]⟩) (fun k => k ≤ y.fil.length ∧ x.fil.take k = y.fil.take k) (fun k => y.fil.length - k) 0 (by simp) ?_ ?_
  · simp only [ldBx, e0, e2, e3]
    exact Wk.tl (by simp [hold, upd, tl_cons, e2])
  rintro k ⟨hk, ha⟩
  by_cases h : k < y.fil.length
  · have h' : k < x.fil.length := by omega
    have hw := w64n (show k < 4611686018427387904 by omega)
    by_cases he : x.fil[k] = y.fil[k]
    · simp -implicitDefEqProofs [List.lookup_cons, eS, ldBx, h, h', he]
      refine drawP_all _ (by decide) ?_
      simp -implicitDefEqProofs [List.lookup_cons, eS, ldBx, h, h', he, planEq]
      refine ⟨k + 1, by omega, ?_, by omega, ?_⟩
      · rw [List.take_succ_eq_append_getElem h, List.take_succ_eq_append_getElem h', ha, he]
      exact Wk.tl (by simp [hold, upd, tl_cons, hw])
    · have hr : sameLS x y = false := by
        have : ¬ x.fil = y.fil := fun e => he (by simp only [e])
        simp [sameLS, this]
      simp -implicitDefEqProofs [List.lookup_cons, eS, ldBx, h, h']
      refine drawP_all _ (by decide) ?_
      simp -implicitDefEqProofs [List.lookup_cons, eS, ldBx, h, h', planEq]
      refine ⟨fun _ => ?_, fun a b c d e => absurd (fil_ext a b c d e) he⟩
      refine fin_pure (by simp) ?_
      simp -implicitDefEqProofs [fS, rn0, pickObs, deI, hr]
  have ek : k = y.fil.length := by omega
  subst ek
  have hf : x.fil = y.fil := by rw [← List.take_length (l := y.fil), ← ha, ← e2, List.take_length]
  clear ha hk h
  have hr : sameLS x y = (decide (x.par = y.par) && (decide (x.fst = y.fst) && (decide (x.nx = y.nx) && (decide (x.en = y.en) && decide (x.tgt = y.tgt))))) := by simp [sameLS, e0, hc, hf, e3]
  rw [hr]
  by_cases g0 : x.par = y.par
  rotate_left
  · simp -implicitDefEqProofs [List.lookup_cons, eS, ldBx, F131, a2, a3, a4, a5, a7, b2, b3, b4, b5, b7, g0]
    refine fin_pure (by simp) ?_
    simp -implicitDefEqProofs [fS, rn0, pickObs, deI, g0]
  by_cases g1 : x.fst = y.fst
  rotate_left
  · simp -implicitDefEqProofs [List.lookup_cons, eS, ldBx, F131, a2, a3, a4, a5, a7, b2, b3, b4, b5, b7, g0, g1]
    refine fin_pure (by simp) ?_
    simp -implicitDefEqProofs [fS, rn0, pickObs, deI, g0, g1]
  by_cases g2 : x.nx = y.nx
  rotate_left
  · simp -implicitDefEqProofs [List.lookup_cons, eS, ldBx, F131, a2, a3, a4, a5, a7, b2, b3, b4, b5, b7, g0, g1, g2]
    refine fin_pure (by simp) ?_
    simp -implicitDefEqProofs [fS, rn0, pickObs, deI, g0, g1, g2]
  by_cases g3 : x.en = y.en
  rotate_left
  · simp -implicitDefEqProofs [List.lookup_cons, eS, ldBx, F131, a2, a3, a4, a5, a7, b2, b3, b4, b5, b7, g0, g1, g2, g3]
    refine fin_pure (by simp) ?_
    simp -implicitDefEqProofs [fS, rn0, pickObs, deI, g0, g1, g2, g3]
  by_cases g4 : x.tgt = y.tgt
  rotate_left
  · simp -implicitDefEqProofs [List.lookup_cons, eS, ldBx, F131, a2, a3, a4, a5, a7, b2, b3, b4, b5, b7, g0, g1, g2, g3, g4]
    refine fin_pure (by simp) ?_
    simp -implicitDefEqProofs [fS, rn0, pickObs, deI, g0, g1, g2, g3, g4]
  simp -implicitDefEqProofs [List.lookup_cons, eS, ldBx, F131, a2, a3, a4, a5, a7, b2, b3, b4, b5, b7, g0, g1, g2, g3, g4]
  refine fin_pure (by simp) ?_
  simp -implicitDefEqProofs [fS, rn0, pickObs, deI, g0, g1, g2, g3, g4]
end Go.Proofs
namespace Go.Proofs
open Go.Abs Go.Srt
theorem ldY_len (c : Cfg) (ho : okC c) (hg : isCfg c = true) : okL (loadOf c) := by
  have hlim := cfg_lim hg
  obtain ⟨f1, f2⟩ := cfg_fil hg
  have hwl := wk_len (topOf hg)
  refine ⟨?_, ?_, ?_, ?_, ?_, ?_, ?_⟩ <;> simp only [loadOf, List.length_map] <;> omega
theorem unU_ok {x : Ldd} (h : okM x) : okC (unU x) := by
  refine ⟨?_, h.1.2.2.2.2.2.1, h.2⟩
  show (stab Cls.z ltCls x.cls).length ≤ 1048576
  rw [stabC_len]
  exact h.1.1
def F33 : Fun := ⟨fun xs => xs = [.agg (lX (deL (xs.getD 0 .top) : Ldd))] ∧ (fun (x : Ldd) => (okM x)) (deL (xs.getD 0 .top) : Ldd), fun xs => (fun (x : Ldd) => ((B (isLd x), []) : X × List Ob)) (deL (xs.getD 0 .top) : Ldd)⟩
theorem F33_in {xs : List X} (h : F33.pre xs) : ∃ (x : Ldd), xs = [.agg (lX x)] ∧ (okM x) := ⟨_, h.1, h.2⟩
theorem F33_res (x : Ldd) : F33.res [.agg (lX x)] = (B (isLd x), []) := by simp [F33]
theorem c33 : GenCA K Tryz.prog 33 F33 := by
  refine contractA Tryz.mix K [(79, F79), (80, F80), (81, F81), (82, F82), (83, F83)] [] (by simp [c79, c80, c81, c82, c83]) (by simp) Tryz.func33 rfl (by decide) ?_
  intro xs hxs
  obtain ⟨x, rfl, hp⟩ := F33_in hxs
  rw [F33_res]
  refine ⟨by rw [Tryz.ntmps33]; simp, ?_⟩
  have hoc := unU_ok hp
  obtain ⟨⟨a1, a2, a3, a4, a5, a6, a7⟩, a8⟩ := hp
  by_cases n1 : x.cls.length ≤ 24
  rotate_left
  · have hr : isLd x = false := by simp [isLd, okN, n1]
    have n1' : (24 : Int) < x.cls.length := by omega
    have n1c : ¬ (x.cls.length : Int) ≤ 24 := by omega
    simp -implicitDefEqProofs [Tryz.f33, F79, F80, F81, F82, F83, List.lookup_cons, eS, n1', n1c]
    refine fin_pure (by simp) ?_
    simp -implicitDefEqProofs [fS, rn0, pickObs, deI, hr]
  by_cases n2 : x.fil.length ≤ 16
  rotate_left
  · have hr : isLd x = false := by simp [isLd, okN, n2]
    have n1' : ¬ (24 : Int) < x.cls.length := by omega
    have n1c : (x.cls.length : Int) ≤ 24 := by omega
    have n2' : (16 : Int) < x.fil.length := by omega
    have n2c : ¬ (x.fil.length : Int) ≤ 16 := by omega
    simp -implicitDefEqProofs [Tryz.f33, F79, F80, F81, F82, F83, List.lookup_cons, eS, n1', n1, n2, n1c, n2c, n2']
    refine fin_pure (by simp) ?_
    simp -implicitDefEqProofs [fS, rn0, pickObs, deI, hr]
  have n1' : ¬ (24 : Int) < x.cls.length := by omega
  have n1c : (x.cls.length : Int) ≤ 24 := by omega
  have n2' : ¬ (16 : Int) < x.fil.length := by omega
  have n2c : (x.fil.length : Int) ≤ 16 := by omega
  have hs : isLd x = (isCfg (unU x) && sameL x (loadOf (unU x))) := by simp [isLd, okN, n1, n2]
  rw [hs]
  clear hs
  obtain ⟨c, hc⟩ : ∃ c, unU x = c := ⟨_, rfl⟩
  rw [hc] at hoc ⊢
  cases g : isCfg c with
  | false =>
    simp -implicitDefEqProofs [Tryz.f33, F79, F80, F81, F82, F83, List.lookup_cons, eS, n1', n1, n2, n1c, n2c, n2', hc, hoc, g]
    refine fin_pure (by simp) ?_
    simp -implicitDefEqProofs [fS, rn0, pickObs, deI]
  | true =>
    obtain ⟨b1, b2, b3, b4, b5, b6, b7⟩ := ldY_len c hoc g
    obtain ⟨y, hy⟩ : ∃ y, loadOf c = y := ⟨_, rfl⟩
    rw [hy] at b1 b2 b3 b4 b5 b6 b7 ⊢
    rw [Bool.true_and]
    unfold sameL
    by_cases g0 : x.cls = y.cls
    rotate_left
    · simp -implicitDefEqProofs [Tryz.f33, F79, F80, F81, F82, F83, List.lookup_cons, eS, n1', n1, n2, n1c, n2c, n2', hc, hoc, g, hy, lO, lOb, obCls, obFil, iOb, a1, a2, a3, a4, a5, a6, a7, b1, b2, b3, b4, b5, b6, b7, g0]
      refine fin_pure (by simp) ?_
      simp -implicitDefEqProofs [fS, rn0, pickObs, deI, g0]
    by_cases g1 : x.par = y.par
    rotate_left
    · simp -implicitDefEqProofs [Tryz.f33, F79, F80, F81, F82, F83, List.lookup_cons, eS, n1', n1, n2, n1c, n2c, n2', hc, hoc, g, hy, lO, lOb, obCls, obFil, iOb, a1, a2, a3, a4, a5, a6, a7, b1, b2, b3, b4, b5, b6, b7, eq_true g0, g1]
      refine fin_pure (by simp) ?_
      simp -implicitDefEqProofs [fS, rn0, pickObs, deI, eq_true g0, g1]
    by_cases g2 : x.fst = y.fst
    rotate_left
    · simp -implicitDefEqProofs [Tryz.f33, F79, F80, F81, F82, F83, List.lookup_cons, eS, n1', n1, n2, n1c, n2c, n2', hc, hoc, g, hy, lO, lOb, obCls, obFil, iOb, a1, a2, a3, a4, a5, a6, a7, b1, b2, b3, b4, b5, b6, b7, eq_true g0, eq_true g1, g2]
      refine fin_pure (by simp) ?_
      simp -implicitDefEqProofs [fS, rn0, pickObs, deI, eq_true g0, eq_true g1, g2]
    by_cases g3 : x.nx = y.nx
    rotate_left
    · simp -implicitDefEqProofs [Tryz.f33, F79, F80, F81, F82, F83, List.lookup_cons, eS, n1', n1, n2, n1c, n2c, n2', hc, hoc, g, hy, lO, lOb, obCls, obFil, iOb, a1, a2, a3, a4, a5, a6, a7, b1, b2, b3, b4, b5, b6, b7, eq_true g0, eq_true g1, eq_true g2, g3]
      refine fin_pure (by simp) ?_
      simp -implicitDefEqProofs [fS, rn0, pickObs, deI, eq_true g0, eq_true g1, eq_true g2, g3]
    by_cases g4 : x.en = y.en
    rotate_left
    · simp -implicitDefEqProofs [Tryz.f33, F79, F80, F81, F82, F83, List.lookup_cons, eS, n1', n1, n2, n1c, n2c, n2', hc, hoc, g, hy, lO, lOb, obCls, obFil, iOb, a1, a2, a3, a4, a5, a6, a7, b1, b2, b3, b4, b5, b6, b7, eq_true g0, eq_true g1, eq_true g2, eq_true g3, g4]
      refine fin_pure (by simp) ?_
      simp -implicitDefEqProofs [fS, rn0, pickObs, deI, eq_true g0, eq_true g1, eq_true g2, eq_true g3, g4]
    by_cases g5 : x.tgt = y.tgt
    rotate_left
    · simp -implicitDefEqProofs [Tryz.f33, F79, F80, F81, F82, F83, List.lookup_cons, eS, n1', n1, n2, n1c, n2c, n2', hc, hoc, g, hy, lO, lOb, obCls, obFil, iOb, a1, a2, a3, a4, a5, a6, a7, b1, b2, b3, b4, b5, b6, b7, eq_true g0, eq_true g1, eq_true g2, eq_true g3, eq_true g4, g5]
      refine fin_pure (by simp) ?_
      simp -implicitDefEqProofs [fS, rn0, pickObs, deI, eq_true g0, eq_true g1, eq_true g2, eq_true g3, eq_true g4, g5]
    by_cases g6 : x.dflt = y.dflt
    rotate_left
    · simp -implicitDefEqProofs [Tryz.f33, F79, F80, F81, F82, F83, List.lookup_cons, eS, n1', n1, n2, n1c, n2c, n2', hc, hoc, g, hy, lO, lOb, obCls, obFil, iOb, a1, a2, a3, a4, a5, a6, a7, b1, b2, b3, b4, b5, b6, b7, eq_true g0, eq_true g1, eq_true g2, eq_true g3, eq_true g4, eq_true g5, g6]
      refine fin_pure (by simp) ?_
      simp -implicitDefEqProofs [fS, rn0, pickObs, deI, eq_true g0, eq_true g1, eq_true g2, eq_true g3, eq_true g4, eq_true g5, g6]
    simp -implicitDefEqProofs [Tryz.f33, F79, F80, F81, F82, F83, List.lookup_cons, eS, n1', n1, n2, n1c, n2c, n2', hc, hoc, g, hy, lO, lOb, obCls, obFil, iOb, a1, a2, a3, a4, a5, a6, a7, b1, b2, b3, b4, b5, b6, b7, eq_true g0, eq_true g1, eq_true g2, eq_true g3, eq_true g4, eq_true g5, eq_true g6]
    refine fin_pure (by simp) ?_
    simp -implicitDefEqProofs [fS, rn0, pickObs, deI, eq_true g0, eq_true g1, eq_true g2, eq_true g3, eq_true g4, eq_true g5, eq_true g6]
end Go.Proofs
namespace Go.Proofs
open Go.Abs Go.Srt
theorem unV_ok {x : Ldd} (h : okM x) : okC (unV x) := by
  refine ⟨?_, h.1.2.2.2.2.2.1, h.2⟩
  show (putAll x.cls).length ≤ 1048576
  rw [putAll_len]
  exact h.1.1
theorem sameLS_L (x : Ldd) : sameLS x (loadOf (unV x)) = sameL x (loadOf (unV x)) := by
  have e1 : (loadOf (unV x)).name = x.name := rfl
  have e2 : (loadOf (unV x)).fil = x.fil := rfl
  rw [Bool.eq_iff_iff]
  simp only [sameLS, sameL, e1, e2, Bool.and_eq_true, decide_eq_true_eq]
  constructor
  · rintro ⟨_, h1, _, h2, h3, h4, h5, h6, h7⟩; exact ⟨h1, h3, h4, h5, h6, h7, h2⟩
  · rintro ⟨h1, h3, h4, h5, h6, h7, h2⟩; exact ⟨trivial, h1, trivial, h2, h3, h4, h5, h6, h7⟩
theorem c61 : GenCA K Tryz.prog 61 F33 := by
  refine contractA Tryz.mix K [(100, F100), (101, F80), (103, F103), (102, F102)] [] (by simp [c100, c101, c103, c102]) (by simp) Tryz.func61 rfl (by decide) ?_
  intro xs hxs
  obtain ⟨x, rfl, hp⟩ := F33_in hxs
  rw [F33_res]
  refine ⟨by rw [Tryz.ntmps61]; simp, ?_⟩
  have hoc := unV_ok hp
  have hpl := hp.1
  obtain ⟨⟨a1, a2, a3, a4, a5, a6, a7⟩, a8⟩ := hp
  by_cases n1 : x.cls.length ≤ 24
  rotate_left
  · have hr : isLd x = false := by simp [isLd, okN, n1]
    have n1' : (24 : Int) < x.cls.length := by omega
    have n1c : ¬ (x.cls.length : Int) ≤ 24 := by omega
    simp -implicitDefEqProofs [Tryz.f61, List.lookup_cons, eS, n1', n1c]
    refine fin_pure (by simp) ?_
    simp -implicitDefEqProofs [fS, rn0, pickObs, deI, hr]
  by_cases n2 : x.fil.length ≤ 16
  rotate_left
  · have hr : isLd x = false := by simp [isLd, okN, n2]
    have n1' : ¬ (24 : Int) < x.cls.length := by omega
    have n1c : (x.cls.length : Int) ≤ 24 := by omega
    have n2' : (16 : Int) < x.fil.length := by omega
    have n2c : ¬ (x.fil.length : Int) ≤ 16 := by omega
    simp -implicitDefEqProofs [Tryz.f61, List.lookup_cons, eS, n1', n1, n2, n1c, n2c, n2']
    refine fin_pure (by simp) ?_
    simp -implicitDefEqProofs [fS, rn0, pickObs, deI, hr]
  have n1' : ¬ (24 : Int) < x.cls.length := by omega
  have n1c : (x.cls.length : Int) ≤ 24 := by omega
  have n2' : ¬ (16 : Int) < x.fil.length := by omega
  have n2c : (x.fil.length : Int) ≤ 16 := by omega
  have hs : isLd x = (isCfg (unV x) && sameLS x (loadOf (unV x))) := by rw [isLd_V, sameLS_L]; simp [okN, n1, n2]
  rw [hs]
  clear hs
  obtain ⟨c, hc⟩ : ∃ c, unV x = c := ⟨_, rfl⟩
  rw [hc] at hoc ⊢
  simp -implicitDefEqProofs [Tryz.f61, F100, List.lookup_cons, eS, n1', n1, n2, n1c, n2c, n2', hc]
  refine drawP_pu _ (by decide) ?_
  cases g : isCfg c with
  | false =>
    simp -implicitDefEqProofs [List.lookup_cons, eS, F80, hoc, g, pur2_tup, pur2_b, pur2_i, pur2_sl, pur_sl, pur_b, pur_v, pur_oslE]
    refine fin_pure (by simp) ?_
    simp -implicitDefEqProofs [fS, rn0, pickObs, deI]
  | true =>
    have hol := ldY_len c hoc g
    obtain ⟨y, hy⟩ : ∃ y, loadOf c = y := ⟨_, rfl⟩
    rw [hy] at hol ⊢
    have hPs : F102.pre [.agg [.v (.string x.name), .sl (tR x.cls), .sl (iR x.par), .sl (iR x.fst), .sl (iR x.nx), .sl (iR x.en), .sl (tR x.fil), .sl (iR x.tgt), I x.dflt], .agg [.v (.string y.name), .sl (tR y.cls), .sl (iR y.par), .sl (iR y.fst), .sl (iR y.nx), .sl (iR y.en), .sl (tR y.fil), .sl (iR y.tgt), I y.dflt]] := F102_mk x y ⟨hpl, hol⟩
    have hRs : F102.res [.agg [.v (.string x.name), .sl (tR x.cls), .sl (iR x.par), .sl (iR x.fst), .sl (iR x.nx), .sl (iR x.en), .sl (tR x.fil), .sl (iR x.tgt), I x.dflt], .agg [.v (.string y.name), .sl (tR y.cls), .sl (iR y.par), .sl (iR y.fst), .sl (iR y.nx), .sl (iR y.en), .sl (tR y.fil), .sl (iR y.tgt), I y.dflt]] = (B (sameLS x y), []) := F102_res x y
    simp -implicitDefEqProofs [List.lookup_cons, eS, F80, F103, hoc, g, hy, rO, rOb, obCls, obFil, iOb, hPs, hRs, pu2o, pu2n, pur2_tup, pur2_b, pur2_i, pur2_sl, pur_sl, pur_b, pur_v, pur_oslE]
    refine fin_pure (by simp) ?_
    simp -implicitDefEqProofs [fS, rn0, pickObs, deI]
end Go.Proofs
