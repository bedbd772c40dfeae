/-
  What is proved here: contracts of what tokens allow. Condition: none.
-/
import Derived.Test.YtdpmlddmdogggaaGreatDoorIL9ij
namespace Go.Proofs
open Go.Abs
set_option linter.unusedSimpArgs false
set_option linter.unnecessarySimpa false
set_option linter.unusedVariables false
set_option maxHeartbeats 16000000
set_option maxRecDepth 20000
def tkB1 (y : Cls) (r c : Int) : Bool := decide (0 ≤ r) && (decide (r ≤ y.burst) && (decide (0 ≤ c) && decide (c ≤ y.cburst)))
def atK (x : Ldd) (t : Tok) (n : Nat) : Bool := (List.range n).all fun i => tkB1 (atC x.cls i) (t.r.getD i 0) (t.c.getD i 0)
def atB (x : Ldd) (t : Tok) : Bool := decide (t.r.length = x.cls.length) && (decide (t.c.length = x.cls.length) && atK x t x.cls.length)
theorem atK_succ (x : Ldd) (t : Tok) (k : Nat) (h1 : k < x.cls.length) (h2 : k < t.r.length) (h3 : k < t.c.length) : atK x t (k + 1) = (atK x t k && tkB1 x.cls[k] t.r[k] t.c[k]) := by
  unfold atK
  rw [List.range_succ, List.all_append]
  simp [atC_eq h1, h2, h3]
theorem atK_bad {x : Ldd} {t : Tok} {k n : Nat} (h : atK x t (k + 1) = false) (hk : k < n) : atK x t n = false := by
  refine Bool.eq_false_iff.2 fun hn => ?_
  unfold atK at h hn
  rw [List.all_eq_true] at hn
  have : (List.range (k + 1)).all (fun i => tkB1 (atC x.cls i) (t.r.getD i 0) (t.c.getD i 0)) = true := List.all_eq_true.2 fun y hy => hn y (by simp at hy ⊢; omega)
  rw [this] at h
  cases h
def F90 : Fun := ⟨fun xs => xs = [.agg (lX (deL (xs.getD 0 .top) : Ldd)), .agg (tkX (deTk (xs.getD 1 .top) : Tok))] ∧ (fun (x : Ldd) (t : Tok) => (okM x)) (deL (xs.getD 0 .top) : Ldd) (deTk (xs.getD 1 .top) : Tok), fun xs => (fun (x : Ldd) (t : Tok) => ((B (atB x t), []) : X × List Ob)) (deL (xs.getD 0 .top) : Ldd) (deTk (xs.getD 1 .top) : Tok)⟩
theorem F90_in {xs : List X} (h : F90.pre xs) : ∃ (x : Ldd) (t : Tok), xs = [.agg (lX x), .agg (tkX t)] ∧ (okM x) := ⟨_, _, h.1, h.2⟩
theorem F90_res (x : Ldd) (t : Tok) : F90.res [.agg (lX x), .agg (tkX t)] = (B (atB x t), []) := by simp [F90]
theorem c90 : GenCA K Tryz.prog 90 F90 := by
  refine contractA Tryz.mix K [] [] (by simp) (by simp) Tryz.func90 rfl (by decide) ?_
  intro xs hxs
  obtain ⟨x, t, rfl, hp⟩ := F90_in hxs
  rw [F90_res]
  refine ⟨by rw [Tryz.ntmps90]; simp, ?_⟩
  have hl := hp.1.1
  simp -implicitDefEqProofs [Tryz.f90, List.lookup_cons, eS]
  refine ⟨fun hbad => ?_, fun e1 e2 => ?_⟩
  · have hr : atB x t = false := by
      rw [Bool.eq_false_iff]
      intro hs
      simp only [atB, Bool.and_eq_true, decide_eq_true_eq] at hs
      omega
    refine fin_pure (by simp) ?_
    simp -implicitDefEqProofs [fS, rn0, pickObs, deI, hr]
  replace e1 : t.r.length = x.cls.length := by omega
  replace e2 : t.c.length = x.cls.length := by omega
  have hr : atB x t = atK x t x.cls.length := by simp [atB, e1, e2]
  rw [hr]
  clear hr
  refine loopP_inv (fun k : Nat => ⟨66, tl [(2, .optr 0 0 0 0), (3, .optr 1 0 0 0), (24, .sl (tR x.cls)), (25, I x.cls.length), (26, I k)], [⟨35, 9, 0, [[.v (.string x.name), .sl (tR x.cls), .sl (iR x.par), .sl (iR x.fst), .sl (iR x.nx), .sl (iR x.en), .sl (tR x.fil), .sl (iR x.tgt), I x.dflt]], true, true, none⟩, ⟨29, 2, 0, [[.sl (iR t.r), .sl (iR t.c)]], true, true, none⟩]⟩) (fun k => k ≤ x.cls.length ∧ atK x t k = true) (fun k => x.cls.length - k) 0 ⟨Nat.zero_le _, rfl⟩ (Wk.tl (by simp [hold, upd, tl_cons])) ?_
  rintro k ⟨hk, ha⟩
  by_cases h : k < x.cls.length
  · have hw := w64n (show k < 4611686018427387904 by omega)
    have hr1 : k < t.r.length := by omega
    have hc1 : k < t.c.length := by omega
    have hS := atK_succ x t k h hr1 hc1
    rw [ha, Bool.true_and] at hS
    obtain ⟨y, hy0⟩ : ∃ y, x.cls[k] = y := ⟨_, rfl⟩
    have hy : ∀ h', x.cls[k]'(h') = y := fun _ => hy0
    obtain ⟨r, hr0⟩ : ∃ r, t.r[k] = r := ⟨_, rfl⟩
    have hr : ∀ h', t.r[k]'(h') = r := fun _ => hr0
    obtain ⟨c, hc0⟩ : ∃ c, t.c[k] = c := ⟨_, rfl⟩
    have hc : ∀ h', t.c[k]'(h') = c := fun _ => hc0
    rw [hy0, hr0, hc0] at hS
    simp -implicitDefEqProofs [List.lookup_cons, eS, h, hy]
    refine drawP_all _ (by decide) ?_
    by_cases q0 : r < 0
    · have hbad : atK x t x.cls.length = false := atK_bad (by rw [hS]; unfold tkB1; rw [Bool.eq_false_iff]; simp; omega) h
      simp -implicitDefEqProofs [List.lookup_cons, eS, h, hr1, hc1, hy, hr, hc, q0]
      refine fin_pure (by simp) ?_
      simp -implicitDefEqProofs [fS, rn0, pickObs, deI, hbad]
    have p0 : 0 ≤ r := by omega
    by_cases q1 : y.burst < r
    · have hbad : atK x t x.cls.length = false := atK_bad (by rw [hS]; unfold tkB1; rw [Bool.eq_false_iff]; simp; omega) h
      simp -implicitDefEqProofs [List.lookup_cons, eS, h, hr1, hc1, hy, hr, hc, q0, p0, q1]
      refine fin_pure (by simp) ?_
      simp -implicitDefEqProofs [fS, rn0, pickObs, deI, hbad]
    have p1 : r ≤ y.burst := by omega
    by_cases q2 : c < 0
    · have hbad : atK x t x.cls.length = false := atK_bad (by rw [hS]; unfold tkB1; rw [Bool.eq_false_iff]; simp; omega) h
      simp -implicitDefEqProofs [List.lookup_cons, eS, h, hr1, hc1, hy, hr, hc, q0, p0, q1, p1, q2]
      refine fin_pure (by simp) ?_
      simp -implicitDefEqProofs [fS, rn0, pickObs, deI, hbad]
    have p2 : 0 ≤ c := by omega
    by_cases q3 : y.cburst < c
    · have hbad : atK x t x.cls.length = false := atK_bad (by rw [hS]; unfold tkB1; rw [Bool.eq_false_iff]; simp; omega) h
      simp -implicitDefEqProofs [List.lookup_cons, eS, h, hr1, hc1, hy, hr, hc, q0, p0, q1, p1, q2, p2, q3]
      refine fin_pure (by simp) ?_
      simp -implicitDefEqProofs [fS, rn0, pickObs, deI, hbad]
    have p3 : c ≤ y.cburst := by omega
    have hgood : atK x t (k + 1) = true := by
      rw [hS]
      unfold tkB1
      simp
      omega
    simp -implicitDefEqProofs [List.lookup_cons, eS, h, hr1, hc1, hy, hr, hc, q0, p0, q1, p1, q2, p2, q3, p3]
    refine ⟨k + 1, by omega, hgood, by omega, ?_⟩
    refine Wk.tlP [0, 1] (by simp [pickOk, ok0]) ?_ ?_
    · simp [pickObs]
    · simp [hold, upd, tl_cons, rn1, rn0, hw]
      try exact ⟨rfl, rfl⟩
  · have e : k = x.cls.length := by omega
    subst e
    simp -implicitDefEqProofs [List.lookup_cons, eS]
    refine fin_pure (by simp) ?_
    simp -implicitDefEqProofs [fS, rn0, pickObs, deI, ha]
theorem c89 : GenCA K Tryz.prog 89 F90 := by
  refine contractA Tryz.mix K [(87, F87)] [] (by simp [c87]) (by simp) Tryz.func89 rfl (by decide) ?_
  intro xs hxs
  obtain ⟨x, t, rfl, hp⟩ := F90_in hxs
  rw [F90_res]
  refine ⟨by rw [Tryz.ntmps89]; simp, ?_⟩
  have hl := hp.1.1
  simp -implicitDefEqProofs [Tryz.f89, F87, List.lookup_cons, eS]
  refine ⟨fun hbad => ?_, fun e1 e2 => ?_⟩
  · have hr : atB x t = false := by
      rw [Bool.eq_false_iff]
      intro hs
      simp only [atB, Bool.and_eq_true, decide_eq_true_eq] at hs
      omega
    refine fin_pure (by simp) ?_
    simp -implicitDefEqProofs [fS, rn0, pickObs, deI, hr]
  replace e1 : t.r.length = x.cls.length := by omega
  replace e2 : t.c.length = x.cls.length := by omega
  have hr : atB x t = atK x t x.cls.length := by simp [atB, e1, e2]
  rw [hr]
  clear hr
  refine loopP_inv (fun k : Nat => ⟨52, tl [(2, .optr 0 0 0 0), (3, .optr 1 0 0 0), (24, .sl (tR x.cls)), (25, I x.cls.length), (26, I k)], [⟨35, 9, 0, [[.v (.string x.name), .sl (tR x.cls), .sl (iR x.par), .sl (iR x.fst), .sl (iR x.nx), .sl (iR x.en), .sl (tR x.fil), .sl (iR x.tgt), I x.dflt]], true, true, none⟩, ⟨29, 2, 0, [[.sl (iR t.r), .sl (iR t.c)]], true, true, none⟩]⟩) (fun k => k ≤ x.cls.length ∧ atK x t k = true) (fun k => x.cls.length - k) 0 ⟨Nat.zero_le _, rfl⟩ (Wk.tl (by simp [hold, upd, tl_cons])) ?_
  rintro k ⟨hk, ha⟩
  by_cases h : k < x.cls.length
  · have hw := w64n (show k < 4611686018427387904 by omega)
    have hr1 : k < t.r.length := by omega
    have hc1 : k < t.c.length := by omega
    have hS := atK_succ x t k h hr1 hc1
    rw [ha, Bool.true_and] at hS
    obtain ⟨y, hy0⟩ : ∃ y, x.cls[k] = y := ⟨_, rfl⟩
    have hy : ∀ h', x.cls[k]'(h') = y := fun _ => hy0
    obtain ⟨r, hr0⟩ : ∃ r, t.r[k] = r := ⟨_, rfl⟩
    have hr : ∀ h', t.r[k]'(h') = r := fun _ => hr0
    obtain ⟨c, hc0⟩ : ∃ c, t.c[k] = c := ⟨_, rfl⟩
    have hc : ∀ h', t.c[k]'(h') = c := fun _ => hc0
    rw [hy0, hr0, hc0] at hS
    simp -implicitDefEqProofs [List.lookup_cons, eS, h, hy]
    refine drawP_all _ (by decide) ?_
    cases q0 : rng 0 y.burst r with
    | false =>
      have hbad : atK x t x.cls.length = false := by
        refine atK_bad ?_ h
        rw [hS]
        simp [rng] at q0
        unfold tkB1
        rw [Bool.eq_false_iff]
        simp
        omega
      simp -implicitDefEqProofs [List.lookup_cons, eS, h, hr1, hc1, hy, hr, hc, F87, q0]
      refine fin_pure (by simp) ?_
      simp -implicitDefEqProofs [fS, rn0, pickObs, deI, hbad]
    | true =>
    cases q1 : rng 0 y.cburst c with
    | false =>
      have hbad : atK x t x.cls.length = false := by
        refine atK_bad ?_ h
        rw [hS]
        simp [rng] at q1
        unfold tkB1
        rw [Bool.eq_false_iff]
        simp
        omega
      simp -implicitDefEqProofs [List.lookup_cons, eS, h, hr1, hc1, hy, hr, hc, F87, q0, q1]
      refine fin_pure (by simp) ?_
      simp -implicitDefEqProofs [fS, rn0, pickObs, deI, hbad]
    | true =>
    have p0 : 0 ≤ r ∧ r ≤ y.burst := by simpa [rng] using q0
    have p1 : 0 ≤ c ∧ c ≤ y.cburst := by simpa [rng] using q1
    have hgood : atK x t (k + 1) = true := by
      rw [hS]
      unfold tkB1
      simp
      omega
    simp -implicitDefEqProofs [List.lookup_cons, eS, h, hr1, hc1, hy, hr, hc, F87, q0, q1]
    refine ⟨k + 1, by omega, hgood, by omega, ?_⟩
    refine Wk.tlP [0, 1] (by simp [pickOk, ok0]) ?_ ?_
    · simp [pickObs]
    · simp [hold, upd, tl_cons, rn1, rn0, hw]
      try exact ⟨rfl, rfl⟩
  · have e : k = x.cls.length := by omega
    subst e
    simp -implicitDefEqProofs [List.lookup_cons, eS]
    refine fin_pure (by simp) ?_
    simp -implicitDefEqProofs [fS, rn0, pickObs, deI, ha]
end Go.Proofs
