/-
  What is proved here: contracts of leaves, depths and what is inside of a loaded configuration. Condition: none.
-/
import Derived.Test.YtdpmlddmdogggaaGreatDoorIL9ij
namespace Go.Proofs
open Go.Abs
set_option linter.unusedSimpArgs false
set_option linter.unnecessarySimpa false
set_option linter.unusedVariables false
set_option maxHeartbeats 16000000
set_option maxRecDepth 20000
def F37 : Fun := ⟨fun xs => xs = [.agg (lX (deL (xs.getD 0 .top) : Ldd)), I (deI (xs.getD 1 .top) : Int), I (deI (xs.getD 2 .top) : Int)] ∧ (fun (x : Ldd) (i : Int) (k : Int) => (okM x)) (deL (xs.getD 0 .top) : Ldd) (deI (xs.getD 1 .top) : Int) (deI (xs.getD 2 .top) : Int), fun xs => (fun (x : Ldd) (i : Int) (k : Int) => ((ibX (isAt x i && rng 0 100000 k) ((atC x.cls i.toNat).ceil * k + (atC x.cls i.toNat).cburst), []) : X × List Ob)) (deL (xs.getD 0 .top) : Ldd) (deI (xs.getD 1 .top) : Int) (deI (xs.getD 2 .top) : Int)⟩
theorem F37_in {xs : List X} (h : F37.pre xs) : ∃ (x : Ldd) (i : Int) (k : Int), xs = [.agg (lX x), I i, I k] ∧ (okM x) := ⟨_, _, _, h.1, h.2⟩
theorem F37_res (x : Ldd) (i : Int) (k : Int) : F37.res [.agg (lX x), I i, I k] = (ibX (isAt x i && rng 0 100000 k) ((atC x.cls i.toNat).ceil * k + (atC x.cls i.toNat).cburst), []) := by simp [F37]
theorem F37_mk (x : Ldd) (i : Int) (k : Int) (h : okM x) : F37.pre [.agg (lX x), I i, I k] := by simpa [F37] using h
def F88 : Fun := ⟨fun xs => xs = [I (deI (xs.getD 0 .top) : Int)] ∧ (fun (n : Int) => (True)) (deI (xs.getD 0 .top) : Int), fun xs => (fun (n : Int) => ((B (rng 0 100000 n), []) : X × List Ob)) (deI (xs.getD 0 .top) : Int)⟩
theorem F88_in {xs : List X} (h : F88.pre xs) : ∃ (n : Int), xs = [I n] ∧ (True) := ⟨_, h.1, h.2⟩
theorem F88_res (n : Int) : F88.res [I n] = (B (rng 0 100000 n), []) := by simp [F88]
theorem c88 : GenCA K Tryz.prog 88 F88 := by
  refine contractA Tryz.mix K [] [] (by simp) (by simp) Tryz.func88 rfl (by decide) ?_
  intro xs hxs
  obtain ⟨n, rfl, hp⟩ := F88_in hxs
  rw [F88_res]
  refine ⟨by rw [Tryz.ntmps88]; simp, ?_⟩
  by_cases h : 0 ≤ n
  · simp -implicitDefEqProofs [Tryz.f88, List.lookup_cons, eS, h]
    refine fin_pure (by simp) ?_
    simp -implicitDefEqProofs [fS, rn0, pickObs, deI, rng, h]
  · simp -implicitDefEqProofs [Tryz.f88, List.lookup_cons, eS, h]
    refine fin_pure (by simp) ?_
    simp -implicitDefEqProofs [fS, rn0, pickObs, deI, rng, h]
theorem prod_bd {a b A B : Int} (h0 : 0 ≤ a) (h1 : a ≤ A) (h2 : 0 ≤ b) (h3 : b ≤ B) (hB : 0 ≤ B) : 0 ≤ a * b ∧ a * b ≤ A * B := by
  refine ⟨Int.mul_nonneg h0 h2, ?_⟩
  exact Int.le_trans (Int.mul_le_mul_of_nonneg_left h3 h0) (Int.mul_le_mul_of_nonneg_right h1 hB)
theorem c37 : GenCA K Tryz.prog 37 F37 := by
  refine contractA Tryz.mix K [(85, F85), (88, F88)] [] (by simp [c85, c88]) (by simp) Tryz.func37 rfl (by decide) ?_
  intro xs hxs
  obtain ⟨x, i, k, rfl, hp⟩ := F37_in hxs
  rw [F37_res]
  refine ⟨by rw [Tryz.ntmps37]; simp, ?_⟩
  by_cases g1 : isAt x i = true
  rotate_left
  · have g1' : isAt x i = false := by simpa using g1
    rw [g1', Bool.false_and, ibX_f]
    simp -implicitDefEqProofs [Tryz.f37, F85, F88, List.lookup_cons, eS, hp, g1']
    refine fin_pure (by simp) ?_
    simp -implicitDefEqProofs [fS, rn0, pickObs, deI]
  cases g2 : rng 0 100000 k with
  | false =>
    rw [Bool.and_false, ibX_f]
    simp -implicitDefEqProofs [Tryz.f37, F85, F88, List.lookup_cons, eS, hp, g1, g2]
    refine fin_pure (by simp) ?_
    simp -implicitDefEqProofs [fS, rn0, pickObs, deI]
  | true =>
  obtain ⟨j, rfl, hj, G⟩ := isAt_nat g1
  rw [g1, Bool.true_and, ibX_t, Int.toNat_natCast, atC_eq hj]
  have hok := G.cls _ (List.getElem_mem hj)
  simp only [Cls.ok, Cls.rateOk, Cls.burstOk, rng, Bool.and_eq_true, decide_eq_true_eq] at hok
  have hk : 0 ≤ k ∧ k ≤ 100000 := by simpa [rng] using g2
  obtain ⟨y, hy0⟩ : ∃ y, x.cls[j] = y := ⟨_, rfl⟩
  have hy : ∀ h', x.cls[j]'(h') = y := fun _ => hy0
  rw [hy0] at hok ⊢
  obtain ⟨q1, q2⟩ := prod_bd (a := y.ceil) (b := k) (A := 100000) (B := 100000) (by omega) (by omega) hk.1 hk.2 (by omega)
  obtain ⟨q, hq⟩ : ∃ q, y.ceil * k = q := ⟨_, rfl⟩
  rw [hq] at q1 q2 ⊢
  have hw1 : IntKind.i64.wrap q = q := w64 (by omega) (by omega)
  have hw2 : IntKind.i64.wrap (q + y.cburst) = q + y.cburst := w64 (by omega) (by omega)
  simp -implicitDefEqProofs [Tryz.f37, F85, F88, List.lookup_cons, eS, hp, g1, g2]
  refine drawP_all _ (by decide) ?_
  simp -implicitDefEqProofs [List.lookup_cons, eS, hj, hy, hq, hw1, hw2]
  refine fin_pure (by simp) ?_
  simp -implicitDefEqProofs [fS, rn0, pickObs, deI]
theorem c36 : GenCA K Tryz.prog 36 F37 := by
  refine contractA Tryz.mix K [(84, F85), (87, F87)] [] (by simp [c84, c87]) (by simp) Tryz.func36 rfl (by decide) ?_
  intro xs hxs
  obtain ⟨x, i, k, rfl, hp⟩ := F37_in hxs
  rw [F37_res]
  refine ⟨by rw [Tryz.ntmps36]; simp, ?_⟩
  by_cases g1 : isAt x i = true
  rotate_left
  · have g1' : isAt x i = false := by simpa using g1
    rw [g1', Bool.false_and, ibX_f]
    simp -implicitDefEqProofs [Tryz.f36, F85, F87, List.lookup_cons, eS, hp, g1']
    refine fin_pure (by simp) ?_
    simp -implicitDefEqProofs [fS, rn0, pickObs, deI]
  cases g2 : rng 0 100000 k with
  | false =>
    rw [Bool.and_false, ibX_f]
    simp -implicitDefEqProofs [Tryz.f36, F85, F87, List.lookup_cons, eS, hp, g1, g2]
    refine fin_pure (by simp) ?_
    simp -implicitDefEqProofs [fS, rn0, pickObs, deI]
  | true =>
  obtain ⟨j, rfl, hj, G⟩ := isAt_nat g1
  rw [g1, Bool.true_and, ibX_t, Int.toNat_natCast, atC_eq hj]
  have hok := G.cls _ (List.getElem_mem hj)
  simp only [Cls.ok, Cls.rateOk, Cls.burstOk, rng, Bool.and_eq_true, decide_eq_true_eq] at hok
  have hk : 0 ≤ k ∧ k ≤ 100000 := by simpa [rng] using g2
  obtain ⟨y, hy0⟩ : ∃ y, x.cls[j] = y := ⟨_, rfl⟩
  have hy : ∀ h', x.cls[j]'(h') = y := fun _ => hy0
  rw [hy0] at hok ⊢
  obtain ⟨q1, q2⟩ := prod_bd (a := y.ceil) (b := k) (A := 100000) (B := 100000) (by omega) (by omega) hk.1 hk.2 (by omega)
  obtain ⟨q, hq⟩ : ∃ q, y.ceil * k = q := ⟨_, rfl⟩
  rw [hq] at q1 q2 ⊢
  have hw1 : IntKind.i64.wrap q = q := w64 (by omega) (by omega)
  have hw2 : IntKind.i64.wrap (q + y.cburst) = q + y.cburst := w64 (by omega) (by omega)
  simp -implicitDefEqProofs [Tryz.f36, F85, F87, List.lookup_cons, eS, hp, g1, g2]
  refine drawP_all _ (by decide) ?_
  simp -implicitDefEqProofs [List.lookup_cons, eS, hj, hy, hq, hw1, hw2]
  refine fin_pure (by simp) ?_
  simp -implicitDefEqProofs [fS, rn0, pickObs, deI]
end Go.Proofs
