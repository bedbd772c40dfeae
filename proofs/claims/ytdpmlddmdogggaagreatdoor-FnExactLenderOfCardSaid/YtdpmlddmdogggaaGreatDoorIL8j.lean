/-
  What is proved here: contracts of the law's own functions on loaded configurations, tokens and packets. Condition: none.
-/
import Derived.Test.YtdpmlddmdogggaaGreatDoorLCM
import Derived.Test.YtdpmlddmdogggaaGreatDoorLBN
namespace Go.Proofs
open Go.Abs
set_option linter.unusedSimpArgs false
set_option linter.unnecessarySimpa false
set_option linter.unusedVariables false
set_option maxHeartbeats 16000000
set_option maxRecDepth 20000
def F59 : Fun := ⟨fun xs => xs = [.sl (iR (deIs (xs.getD 0 .top) : List Int)), I (deI (xs.getD 1 .top) : Int)] ∧ (fun (l : List Int) (m : Int) => (l.length ≤ 9223372036854775807 ∧ 0 ≤ m ∧ m ≤ 1048576)) (deIs (xs.getD 0 .top) : List Int) (deI (xs.getD 1 .top) : Int), fun xs => (fun (l : List Int) (m : Int) => ((I (if m < l.length then -1 else m - l.length), []) : X × List Ob)) (deIs (xs.getD 0 .top) : List Int) (deI (xs.getD 1 .top) : Int)⟩
theorem F59_in {xs : List X} (h : F59.pre xs) : ∃ (l : List Int) (m : Int), xs = [.sl (iR l), I m] ∧ (l.length ≤ 9223372036854775807 ∧ 0 ≤ m ∧ m ≤ 1048576) := ⟨_, _, h.1, h.2⟩
theorem F59_res (l : List Int) (m : Int) : F59.res [.sl (iR l), I m] = (I (if m < l.length then -1 else m - l.length), []) := by simp [F59]
theorem c59 : GenCA K Tryz.prog 59 F59 := by
  refine contractA Tryz.mix K [] [] (by simp) (by simp) Tryz.func59 rfl (by decide) ?_
  intro xs hxs
  obtain ⟨l, m, rfl, hp⟩ := F59_in hxs
  rw [F59_res]
  refine ⟨by rw [Tryz.ntmps59]; simp, ?_⟩
  have hw : IntKind.i64.wrap (m - l.length) = m - l.length := w64 (by omega) (by omega)
  by_cases h : m < l.length
  · have h' : m - l.length < 0 := by omega
    simp -implicitDefEqProofs [Tryz.f59, List.lookup_cons, eS, hw, h']
    refine fin_pure (by simp) ?_
    simp -implicitDefEqProofs [fS, rn0, pickObs, deI, h]
  · have h' : ¬ m - l.length < 0 := by omega
    simp -implicitDefEqProofs [Tryz.f59, List.lookup_cons, eS, hw, h']
    refine fin_pure (by simp) ?_
    simp -implicitDefEqProofs [fS, rn0, pickObs, deI, h]
def lSz (e : Ldd) : Int := (e.name.size : Int) + e.cls.length + e.par.length + e.fst.length + e.nx.length + e.en.length + e.fil.length + e.tgt.length
def bigL (e : Ldd) : Prop := e.name.size ≤ 9223372036854775807 ∧ e.cls.length ≤ 9223372036854775807 ∧ e.par.length ≤ 9223372036854775807 ∧ e.fst.length ≤ 9223372036854775807 ∧ e.nx.length ≤ 9223372036854775807 ∧ e.en.length ≤ 9223372036854775807 ∧ e.fil.length ≤ 9223372036854775807 ∧ e.tgt.length ≤ 9223372036854775807
def F17 : Fun := ⟨fun xs => xs = [.agg (lX (deL (xs.getD 0 .top) : Ldd)), I (deI (xs.getD 1 .top) : Int)] ∧ (fun (e : Ldd) (m : Int) => (bigL e ∧ 0 ≤ m ∧ m ≤ 1048576)) (deL (xs.getD 0 .top) : Ldd) (deI (xs.getD 1 .top) : Int), fun xs => (fun (e : Ldd) (m : Int) => ((I (if m < lSz e then -1 else m - lSz e), []) : X × List Ob)) (deL (xs.getD 0 .top) : Ldd) (deI (xs.getD 1 .top) : Int)⟩
theorem F17_in {xs : List X} (h : F17.pre xs) : ∃ (e : Ldd) (m : Int), xs = [.agg (lX e), I m] ∧ (bigL e ∧ 0 ≤ m ∧ m ≤ 1048576) := ⟨_, _, h.1, h.2⟩
theorem F17_res (e : Ldd) (m : Int) : F17.res [.agg (lX e), I m] = (I (if m < lSz e then -1 else m - lSz e), []) := by simp [F17]
theorem F17_mk (e : Ldd) (m : Int) (h : bigL e ∧ 0 ≤ m ∧ m ≤ 1048576) : F17.pre [.agg (lX e), I m] := by simpa [F17] using h
theorem c17 : GenCA K Tryz.prog 17 F17 := by
  refine contractA Tryz.mix K [(58, F58), (60, F60), (59, F59)] [] (by simp [c58, c60, c59]) (by simp) Tryz.func17 rfl (by decide) ?_
  intro xs hxs
  obtain ⟨e, m, rfl, hp⟩ := F17_in hxs
  rw [F17_res]
  refine ⟨by rw [Tryz.ntmps17]; simp, ?_⟩
  obtain ⟨hb, hm0, hm1⟩ := hp
  unfold bigL at hb
  obtain ⟨b0, b1, b2, b3, b4, b5, b6, b7⟩ := hb
  obtain ⟨n0, e0⟩ : ∃ n : Nat, e.name.size = n := ⟨_, rfl⟩
  obtain ⟨n1, e1⟩ : ∃ n : Nat, e.cls.length = n := ⟨_, rfl⟩
  obtain ⟨n2, e2⟩ : ∃ n : Nat, e.par.length = n := ⟨_, rfl⟩
  obtain ⟨n3, e3⟩ : ∃ n : Nat, e.fst.length = n := ⟨_, rfl⟩
  obtain ⟨n4, e4⟩ : ∃ n : Nat, e.nx.length = n := ⟨_, rfl⟩
  obtain ⟨n5, e5⟩ : ∃ n : Nat, e.en.length = n := ⟨_, rfl⟩
  obtain ⟨n6, e6⟩ : ∃ n : Nat, e.fil.length = n := ⟨_, rfl⟩
  obtain ⟨n7, e7⟩ : ∃ n : Nat, e.tgt.length = n := ⟨_, rfl⟩
  have ht : lSz e = (n0 : Int) + (n1 : Int) + (n2 : Int) + (n3 : Int) + (n4 : Int) + (n5 : Int) + (n6 : Int) + (n7 : Int) := by unfold lSz; omega
  rw [ht]
  rw [e0] at b0
  rw [e1] at b1
  rw [e2] at b2
  rw [e3] at b3
  rw [e4] at b4
  rw [e5] at b5
  rw [e6] at b6
  rw [e7] at b7
  have w0 : IntKind.i64.wrap (m - n0) = m - n0 := w64 (by omega) (by omega)
  obtain ⟨m0, d0⟩ : ∃ x : Int, m - n0 = x := ⟨_, rfl⟩
  by_cases h0 : m < n0
  · have q : m < (n0 : Int) + (n1 : Int) + (n2 : Int) + (n3 : Int) + (n4 : Int) + (n5 : Int) + (n6 : Int) + (n7 : Int) := by omega
    have q' : m0 < 0 := by omega
    rw [d0] at w0
    simp -implicitDefEqProofs [Tryz.f17, F58, F60, F59, List.lookup_cons, eS, e0, e1, e2, e3, e4, e5, e6, e7, hm0, hm1, d0, w0, b1, b2, b3, b4, b5, b6, b7, h0, q']
    refine fin_pure (by simp) ?_
    simp -implicitDefEqProofs [fS, rn0, pickObs, deI, q]
  have p0 : 0 ≤ m0 := by omega
  have r0 : m0 ≤ 1048576 := by omega
  have s0 : ¬ m0 < 0 := by omega
  have t0 : (n0 : Int) ≤ m := by omega
  rw [d0] at w0
  obtain ⟨m1, d1⟩ : ∃ x : Int, m0 - n1 = x := ⟨_, rfl⟩
  by_cases h1 : m0 < n1
  · have q : m < (n0 : Int) + (n1 : Int) + (n2 : Int) + (n3 : Int) + (n4 : Int) + (n5 : Int) + (n6 : Int) + (n7 : Int) := by omega
    simp -implicitDefEqProofs [Tryz.f17, F58, F60, F59, List.lookup_cons, eS, e0, e1, e2, e3, e4, e5, e6, e7, hm0, hm1, d1, w0, d0, h0, p0, r0, s0, t0, b1, b2, b3, b4, b5, b6, b7, h1]
    refine fin_pure (by simp) ?_
    simp -implicitDefEqProofs [fS, rn0, pickObs, deI, q]
  have p1 : 0 ≤ m1 := by omega
  have r1 : m1 ≤ 1048576 := by omega
  have s1 : ¬ m1 < 0 := by omega
  have t1 : (n1 : Int) ≤ m0 := by omega
  obtain ⟨m2, d2⟩ : ∃ x : Int, m1 - n2 = x := ⟨_, rfl⟩
  by_cases h2 : m1 < n2
  · have q : m < (n0 : Int) + (n1 : Int) + (n2 : Int) + (n3 : Int) + (n4 : Int) + (n5 : Int) + (n6 : Int) + (n7 : Int) := by omega
    simp -implicitDefEqProofs [Tryz.f17, F58, F60, F59, List.lookup_cons, eS, e0, e1, e2, e3, e4, e5, e6, e7, hm0, hm1, d2, w0, d0, h0, p0, r0, s0, t0, d1, h1, p1, r1, s1, t1, b1, b2, b3, b4, b5, b6, b7, h2]
    refine fin_pure (by simp) ?_
    simp -implicitDefEqProofs [fS, rn0, pickObs, deI, q]
  have p2 : 0 ≤ m2 := by omega
  have r2 : m2 ≤ 1048576 := by omega
  have s2 : ¬ m2 < 0 := by omega
  have t2 : (n2 : Int) ≤ m1 := by omega
  obtain ⟨m3, d3⟩ : ∃ x : Int, m2 - n3 = x := ⟨_, rfl⟩
  by_cases h3 : m2 < n3
  · have q : m < (n0 : Int) + (n1 : Int) + (n2 : Int) + (n3 : Int) + (n4 : Int) + (n5 : Int) + (n6 : Int) + (n7 : Int) := by omega
    simp -implicitDefEqProofs [Tryz.f17, F58, F60, F59, List.lookup_cons, eS, e0, e1, e2, e3, e4, e5, e6, e7, hm0, hm1, d3, w0, d0, h0, p0, r0, s0, t0, d1, h1, p1, r1, s1, t1, d2, h2, p2, r2, s2, t2, b1, b2, b3, b4, b5, b6, b7, h3]
    refine fin_pure (by simp) ?_
    simp -implicitDefEqProofs [fS, rn0, pickObs, deI, q]
  have p3 : 0 ≤ m3 := by omega
  have r3 : m3 ≤ 1048576 := by omega
  have s3 : ¬ m3 < 0 := by omega
  have t3 : (n3 : Int) ≤ m2 := by omega
  obtain ⟨m4, d4⟩ : ∃ x : Int, m3 - n4 = x := ⟨_, rfl⟩
  by_cases h4 : m3 < n4
  · have q : m < (n0 : Int) + (n1 : Int) + (n2 : Int) + (n3 : Int) + (n4 : Int) + (n5 : Int) + (n6 : Int) + (n7 : Int) := by omega
    simp -implicitDefEqProofs [Tryz.f17, F58, F60, F59, List.lookup_cons, eS, e0, e1, e2, e3, e4, e5, e6, e7, hm0, hm1, d4, w0, d0, h0, p0, r0, s0, t0, d1, h1, p1, r1, s1, t1, d2, h2, p2, r2, s2, t2, d3, h3, p3, r3, s3, t3, b1, b2, b3, b4, b5, b6, b7, h4]
    refine fin_pure (by simp) ?_
    simp -implicitDefEqProofs [fS, rn0, pickObs, deI, q]
  have p4 : 0 ≤ m4 := by omega
  have r4 : m4 ≤ 1048576 := by omega
  have s4 : ¬ m4 < 0 := by omega
  have t4 : (n4 : Int) ≤ m3 := by omega
  obtain ⟨m5, d5⟩ : ∃ x : Int, m4 - n5 = x := ⟨_, rfl⟩
  by_cases h5 : m4 < n5
  · have q : m < (n0 : Int) + (n1 : Int) + (n2 : Int) + (n3 : Int) + (n4 : Int) + (n5 : Int) + (n6 : Int) + (n7 : Int) := by omega
    simp -implicitDefEqProofs [Tryz.f17, F58, F60, F59, List.lookup_cons, eS, e0, e1, e2, e3, e4, e5, e6, e7, hm0, hm1, d5, w0, d0, h0, p0, r0, s0, t0, d1, h1, p1, r1, s1, t1, d2, h2, p2, r2, s2, t2, d3, h3, p3, r3, s3, t3, d4, h4, p4, r4, s4, t4, b1, b2, b3, b4, b5, b6, b7, h5]
    refine fin_pure (by simp) ?_
    simp -implicitDefEqProofs [fS, rn0, pickObs, deI, q]
  have p5 : 0 ≤ m5 := by omega
  have r5 : m5 ≤ 1048576 := by omega
  have s5 : ¬ m5 < 0 := by omega
  have t5 : (n5 : Int) ≤ m4 := by omega
  obtain ⟨m6, d6⟩ : ∃ x : Int, m5 - n6 = x := ⟨_, rfl⟩
  by_cases h6 : m5 < n6
  · have q : m < (n0 : Int) + (n1 : Int) + (n2 : Int) + (n3 : Int) + (n4 : Int) + (n5 : Int) + (n6 : Int) + (n7 : Int) := by omega
    simp -implicitDefEqProofs [Tryz.f17, F58, F60, F59, List.lookup_cons, eS, e0, e1, e2, e3, e4, e5, e6, e7, hm0, hm1, d6, w0, d0, h0, p0, r0, s0, t0, d1, h1, p1, r1, s1, t1, d2, h2, p2, r2, s2, t2, d3, h3, p3, r3, s3, t3, d4, h4, p4, r4, s4, t4, d5, h5, p5, r5, s5, t5, b1, b2, b3, b4, b5, b6, b7, h6]
    refine fin_pure (by simp) ?_
    simp -implicitDefEqProofs [fS, rn0, pickObs, deI, q]
  have p6 : 0 ≤ m6 := by omega
  have r6 : m6 ≤ 1048576 := by omega
  have s6 : ¬ m6 < 0 := by omega
  have t6 : (n6 : Int) ≤ m5 := by omega
  obtain ⟨m7, d7⟩ : ∃ x : Int, m6 - n7 = x := ⟨_, rfl⟩
  by_cases h7 : m6 < n7
  · have q : m < (n0 : Int) + (n1 : Int) + (n2 : Int) + (n3 : Int) + (n4 : Int) + (n5 : Int) + (n6 : Int) + (n7 : Int) := by omega
    simp -implicitDefEqProofs [Tryz.f17, F58, F60, F59, List.lookup_cons, eS, e0, e1, e2, e3, e4, e5, e6, e7, hm0, hm1, d7, w0, d0, h0, p0, r0, s0, t0, d1, h1, p1, r1, s1, t1, d2, h2, p2, r2, s2, t2, d3, h3, p3, r3, s3, t3, d4, h4, p4, r4, s4, t4, d5, h5, p5, r5, s5, t5, d6, h6, p6, r6, s6, t6, b1, b2, b3, b4, b5, b6, b7, h7]
    refine fin_pure (by simp) ?_
    simp -implicitDefEqProofs [fS, rn0, pickObs, deI, q]
  have p7 : 0 ≤ m7 := by omega
  have r7 : m7 ≤ 1048576 := by omega
  have s7 : ¬ m7 < 0 := by omega
  have t7 : (n7 : Int) ≤ m6 := by omega
  have q : ¬ m < (n0 : Int) + (n1 : Int) + (n2 : Int) + (n3 : Int) + (n4 : Int) + (n5 : Int) + (n6 : Int) + (n7 : Int) := by omega
  simp -implicitDefEqProofs [Tryz.f17, F58, F60, F59, List.lookup_cons, eS, e0, e1, e2, e3, e4, e5, e6, e7, hm0, hm1, w0, d0, h0, p0, r0, s0, t0, d1, h1, p1, r1, s1, t1, d2, h2, p2, r2, s2, t2, d3, h3, p3, r3, s3, t3, d4, h4, p4, r4, s4, t4, d5, h5, p5, r5, s5, t5, d6, h6, p6, r6, s6, t6, d7, h7, p7, r7, s7, t7, b1, b2, b3, b4, b5, b6, b7]
  refine fin_pure (by simp) ?_
  simp -implicitDefEqProofs [fS, rn0, pickObs, deI, q]
  omega
theorem okM_of {e : Ldd} {m : Int} (h : ¬ m < lSz e) (hm : m ≤ 1048576) : (okL e ∧ e.name.size ≤ 1048576) := by
  unfold lSz at h
  unfold okL
  omega
theorem toI_pre (l : List Int) (h : l.length ≤ 1048576) : F64.pre [.sl (iR l)] := ⟨l, rfl, h⟩
theorem toI_res (l : List Int) : F64.res [.sl (iR l)] = (.osl 0 0, [⟨3, 1, 0, iR l, false, true, none⟩]) := by simp [F64, iOb]
def F19 : Fun := ⟨fun xs => xs = [.agg (lX (deL (xs.getD 0 .top) : Ldd))] ∧ (fun (e : Ldd) => (okL e)) (deL (xs.getD 0 .top) : Ldd), fun xs => (fun (e : Ldd) => ((lO e, lOb e) : X × List Ob)) (deL (xs.getD 0 .top) : Ldd)⟩
theorem F19_in {xs : List X} (h : F19.pre xs) : ∃ (e : Ldd), xs = [.agg (lX e)] ∧ (okL e) := ⟨_, h.1, h.2⟩
theorem F19_res (e : Ldd) : F19.res [.agg (lX e)] = (lO e, lOb e) := by simp [F19]
theorem F19_mk (e : Ldd) (h : okL e) : F19.pre [.agg (lX e)] := by simpa [F19] using h
theorem c19 : GenCA K Tryz.prog 19 F19 := by
  refine contractA Tryz.mix K [(63, F63), (65, F65), (64, F64)] [] (by simp [c63, c65, c64]) (by simp) Tryz.func19 rfl (by decide) ?_
  intro xs hxs
  obtain ⟨e, rfl, hp⟩ := F19_in hxs
  rw [F19_res]
  refine ⟨by rw [Tryz.ntmps19]; simp, ?_⟩
  obtain ⟨h1, h2, h3, h4, h5, h6, h7⟩ := hp
  have a2 := toI_pre e.par h2
  have a3 := toI_pre e.fst h3
  have a4 := toI_pre e.nx h4
  have a5 := toI_pre e.en h5
  have a7 := toI_pre e.tgt h7
  simp -implicitDefEqProofs [Tryz.f19, F63, F65, List.lookup_cons, eS, h1, h6, a2, a3, a4, a5, a7, toI_res, tOb]
  refine fin_own [3, 4, 5, 6, 7, 8, 9] (by simp [pickOk, -List.all_eq_true, tR_ok, iR_ok]) ?_
  simp -implicitDefEqProofs [fS, rn0, pickObs, deI, lO, lOb, obCls, obFil, iOb]
structure Tok where
  r : List Int
  c : List Int
@[simp] def tkX (t : Tok) : List X := [.sl (iR t.r), .sl (iR t.c)]
def deTk : X → Tok
  | .agg [a, b] => ⟨deIs a, deIs b⟩
  | _ => ⟨[], []⟩
@[simp] theorem deTk_agg (a b : X) : deTk (.agg [a, b]) = ⟨deIs a, deIs b⟩ := rfl
@[simp] theorem Tok.eta (t : Tok) : (⟨t.r, t.c⟩ : Tok) = t := rfl
def kO : X := .agg [.osl 0 0, .osl 1 0]
def kOb (t : Tok) : List Ob := [iOb t.r, iOb t.c]
def tSz (t : Tok) : Int := (t.r.length : Int) + t.c.length
def bigT (t : Tok) : Prop := t.r.length ≤ 9223372036854775807 ∧ t.c.length ≤ 9223372036854775807
def okT (t : Tok) : Prop := t.r.length ≤ 1048576 ∧ t.c.length ≤ 1048576
def F26 : Fun := ⟨fun xs => xs = [.agg (tkX (deTk (xs.getD 0 .top) : Tok)), I (deI (xs.getD 1 .top) : Int)] ∧ (fun (t : Tok) (m : Int) => (bigT t ∧ 0 ≤ m ∧ m ≤ 1048576)) (deTk (xs.getD 0 .top) : Tok) (deI (xs.getD 1 .top) : Int), fun xs => (fun (t : Tok) (m : Int) => ((I (if m < tSz t then -1 else m - tSz t), []) : X × List Ob)) (deTk (xs.getD 0 .top) : Tok) (deI (xs.getD 1 .top) : Int)⟩
theorem F26_in {xs : List X} (h : F26.pre xs) : ∃ (t : Tok) (m : Int), xs = [.agg (tkX t), I m] ∧ (bigT t ∧ 0 ≤ m ∧ m ≤ 1048576) := ⟨_, _, h.1, h.2⟩
theorem F26_res (t : Tok) (m : Int) : F26.res [.agg (tkX t), I m] = (I (if m < tSz t then -1 else m - tSz t), []) := by simp [F26]
theorem F26_mk (t : Tok) (m : Int) (h : bigT t ∧ 0 ≤ m ∧ m ≤ 1048576) : F26.pre [.agg (tkX t), I m] := by simpa [F26] using h
theorem c26 : GenCA K Tryz.prog 26 F26 := by
  refine contractA Tryz.mix K [(59, F59)] [] (by simp [c59]) (by simp) Tryz.func26 rfl (by decide) ?_
  intro xs hxs
  obtain ⟨t, m, rfl, hp⟩ := F26_in hxs
  rw [F26_res]
  refine ⟨by rw [Tryz.ntmps26]; simp, ?_⟩
  obtain ⟨hb, hm0, hm1⟩ := hp
  unfold bigT at hb
  obtain ⟨b0, b1⟩ := hb
  obtain ⟨n0, e0⟩ : ∃ n : Nat, t.r.length = n := ⟨_, rfl⟩
  obtain ⟨n1, e1⟩ : ∃ n : Nat, t.c.length = n := ⟨_, rfl⟩
  have ht : tSz t = (n0 : Int) + (n1 : Int) := by unfold tSz; omega
  rw [ht]
  rw [e0] at b0
  rw [e1] at b1
  obtain ⟨m0, d0⟩ : ∃ x : Int, m - n0 = x := ⟨_, rfl⟩
  by_cases h0 : m < n0
  · have q : m < (n0 : Int) + (n1 : Int) := by omega
    simp -implicitDefEqProofs [Tryz.f26, F59, List.lookup_cons, eS, e0, e1, hm0, hm1, d0, b0, b1, h0]
    refine fin_pure (by simp) ?_
    simp -implicitDefEqProofs [fS, rn0, pickObs, deI, q]
  have p0 : 0 ≤ m0 := by omega
  have r0 : m0 ≤ 1048576 := by omega
  have s0 : ¬ m0 < 0 := by omega
  have t0 : (n0 : Int) ≤ m := by omega
  obtain ⟨m1, d1⟩ : ∃ x : Int, m0 - n1 = x := ⟨_, rfl⟩
  by_cases h1 : m0 < n1
  · have q : m < (n0 : Int) + (n1 : Int) := by omega
    simp -implicitDefEqProofs [Tryz.f26, F59, List.lookup_cons, eS, e0, e1, hm0, hm1, d1, d0, h0, p0, r0, s0, t0, b0, b1, h1]
    refine fin_pure (by simp) ?_
    simp -implicitDefEqProofs [fS, rn0, pickObs, deI, q]
  have p1 : 0 ≤ m1 := by omega
  have r1 : m1 ≤ 1048576 := by omega
  have s1 : ¬ m1 < 0 := by omega
  have t1 : (n1 : Int) ≤ m0 := by omega
  have q : ¬ m < (n0 : Int) + (n1 : Int) := by omega
  simp -implicitDefEqProofs [Tryz.f26, F59, List.lookup_cons, eS, e0, e1, hm0, hm1, d0, h0, p0, r0, s0, t0, d1, h1, p1, r1, s1, t1, b0, b1]
  refine fin_pure (by simp) ?_
  simp -implicitDefEqProofs [fS, rn0, pickObs, deI, q]
  omega
theorem okT_of {t : Tok} {m : Int} (h : ¬ m < tSz t) (hm : m ≤ 1048576) : okT t := by
  unfold tSz at h
  unfold okT
  omega
def F28 : Fun := ⟨fun xs => xs = [.agg (tkX (deTk (xs.getD 0 .top) : Tok))] ∧ (fun (t : Tok) => (okT t)) (deTk (xs.getD 0 .top) : Tok), fun xs => (fun (t : Tok) => ((kO, kOb t) : X × List Ob)) (deTk (xs.getD 0 .top) : Tok)⟩
theorem F28_in {xs : List X} (h : F28.pre xs) : ∃ (t : Tok), xs = [.agg (tkX t)] ∧ (okT t) := ⟨_, h.1, h.2⟩
theorem F28_res (t : Tok) : F28.res [.agg (tkX t)] = (kO, kOb t) := by simp [F28]
theorem F28_mk (t : Tok) (h : okT t) : F28.pre [.agg (tkX t)] := by simpa [F28] using h
theorem c28 : GenCA K Tryz.prog 28 F28 := by
  refine contractA Tryz.mix K [(64, F64)] [] (by simp [c64]) (by simp) Tryz.func28 rfl (by decide) ?_
  intro xs hxs
  obtain ⟨t, rfl, hp⟩ := F28_in hxs
  rw [F28_res]
  refine ⟨by rw [Tryz.ntmps28]; simp, ?_⟩
  obtain ⟨h1, h2⟩ := hp
  have a1 := toI_pre t.r h1
  have a2 := toI_pre t.c h2
  simp -implicitDefEqProofs [Tryz.f28, List.lookup_cons, eS, a1, a2, toI_res]
  refine fin_own [3, 4] (by simp [pickOk, -List.all_eq_true, iR_ok]) ?_
  simp -implicitDefEqProofs [fS, rn0, pickObs, deI, kO, kOb, iOb]
def F21 : Fun := ⟨fun xs => ∃ t, xs = [.agg (tkX t), .agg (tkX t)] ∧ okT t, fun _ => (B true, [])⟩
theorem c21 : GenCA K Tryz.prog 21 F21 := by
  refine contractA Tryz.mix K [(47, F47)] [] (by simp [c47]) (by simp) Tryz.func21 rfl (by decide) ?_
  rintro xs ⟨t, rfl, h1, h2⟩
  have hI : ∀ l : List Int, l.length ≤ 1048576 → F47.pre [.sl (iR l), .sl (iR l)] := fun l h => ⟨l, l, rfl, h⟩
  have hIr : ∀ l : List Int, F47.res [.sl (iR l), .sl (iR l)] = (B true, []) := fun l => by simp [F47]
  refine ⟨by rw [Tryz.ntmps21]; simp, ?_⟩
  simp -implicitDefEqProofs [Tryz.f21, List.lookup_cons, eS, hI, hIr, h1, h2]
  refine fin_pure (by simp) ?_
  simp -implicitDefEqProofs [fS, rn0, pickObs, deI, F21]
structure Pkt where
  id : Int
  src : Int
  dst : Int
  port : Int
  mark : Int
  size : Int
instance : Rw Pkt where
  n := 6
  enc e := [.int .i64 e.id, .int .i64 e.src, .int .i64 e.dst, .int .i64 e.port, .int .i64 e.mark, .int .i64 e.size]
  dec l := ⟨deI (l.getD 0 .top), deI (l.getD 1 .top), deI (l.getD 2 .top), deI (l.getD 3 .top), deI (l.getD 4 .top), deI (l.getD 5 .top)⟩
  len _ := rfl
  flat _ := rfl
  de _ := rfl
@[simp] theorem Pkt.rXe (e : Pkt) : rX e = [I e.id, I e.src, I e.dst, I e.port, I e.mark, I e.size] := rfl
@[simp] theorem Pkt.dece (x0 x1 x2 x3 x4 x5 : X) : (Rw.dec [x0, x1, x2, x3, x4, x5] : Pkt) = ⟨deI x0, deI x1, deI x2, deI x3, deI x4, deI x5⟩ := rfl
@[simp] theorem Pkt.eta (e : Pkt) : (⟨e.id, e.src, e.dst, e.port, e.mark, e.size⟩ : Pkt) = e := rfl
def Pkt.z : Pkt := ⟨0, 0, 0, 0, 0, 0⟩
def Pkt.V (e : Pkt) : Value := .agg #[.int .i64 e.id, .int .i64 e.src, .int .i64 e.dst, .int .i64 e.port, .int .i64 e.mark, .int .i64 e.size]
end Go.Proofs
