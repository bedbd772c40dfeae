/-
  What is proved here: contracts of leaves, depths and what is inside of a loaded configuration. Condition: none.
-/
import Derived.Test.YtdpmlddmdogggaaGreatDoorIL9ij
namespace Go.Proofs
open Go.Abs
set_option linter.unusedSimpArgs false
set_option linter.unnecessarySimpa false
set_option linter.unusedVariables false
set_option maxHeartbeats 16000000
set_option maxRecDepth 20000
def comN (x : Ldd) (k : Int) : List Int → Int
  | [] => -1
  | i :: l => if inB x i k = true then i else comN x k l
theorem com_step {x : Ldd} (G : LdG x) {k : Int} (k0 : 0 ≤ k) (k1 : k < x.cls.length) {j : Nat} (hj : j < x.cls.length) (h : inB x (j : Int) k = false) : ∃ p : Nat, x.par.getD j (-1) = (p : Int) ∧ p < j ∧ comN x k (hop x.par (j : Int)) = comN x k (hop x.par (p : Int)) := by
  have hs := hop_par G hj
  have hj' : j < x.par.length := by rw [G.lp]; exact hj
  rw [getD_at hj'] at hs ⊢
  rcases G.par j hj' with ⟨e, rfl⟩ | ⟨p, e, hp⟩
  · exfalso
    obtain ⟨h0, he⟩ := enD G hj
    have := G.root h0
    simp only [inB, Int.toNat_natCast, he, this, Bool.and_eq_false_iff, decide_eq_false_iff_not] at h
    omega
  · refine ⟨p, e, hp, ?_⟩
    rw [hs, e]
    simp [comN, h]
def F39 : Fun := ⟨fun xs => xs = [.agg (lX (deL (xs.getD 0 .top) : Ldd)), I (deI (xs.getD 1 .top) : Int), I (deI (xs.getD 2 .top) : Int)] ∧ (fun (x : Ldd) (i : Int) (k : Int) => (okM x)) (deL (xs.getD 0 .top) : Ldd) (deI (xs.getD 1 .top) : Int) (deI (xs.getD 2 .top) : Int), fun xs => (fun (x : Ldd) (i : Int) (k : Int) => ((ibX (in2 x i k) (comN x k (hop x.par i)), []) : X × List Ob)) (deL (xs.getD 0 .top) : Ldd) (deI (xs.getD 1 .top) : Int) (deI (xs.getD 2 .top) : Int)⟩
theorem F39_in {xs : List X} (h : F39.pre xs) : ∃ (x : Ldd) (i : Int) (k : Int), xs = [.agg (lX x), I i, I k] ∧ (okM x) := ⟨_, _, _, h.1, h.2⟩
theorem F39_res (x : Ldd) (i : Int) (k : Int) : F39.res [.agg (lX x), I i, I k] = (ibX (in2 x i k) (comN x k (hop x.par i)), []) := by simp [F39]
theorem F39_mk (x : Ldd) (i : Int) (k : Int) (h : okM x) : F39.pre [.agg (lX x), I i, I k] := by simpa [F39] using h
theorem c39 : GenCA K Tryz.prog 39 F39 := by
  refine contractA Tryz.mix K [(85, F85), (86, F86)] [] (by simp [c85, c86]) (by simp) Tryz.func39 rfl (by decide) ?_
  intro xs hxs
  obtain ⟨x, i, k, rfl, hp⟩ := F39_in hxs
  rw [F39_res]
  refine ⟨by rw [Tryz.ntmps39]; simp, ?_⟩
  by_cases g1 : isAt x i = true
  rotate_left
  · have g1' : isAt x i = false := by simpa using g1
    have e : in2 x i k = false := by simp [in2, g1']
    rw [e, ibX_f]
    simp -implicitDefEqProofs [Tryz.f39, F85, F86, List.lookup_cons, eS, hp, g1', e]
    refine fin_pure (by simp) ?_
    simp -implicitDefEqProofs [fS, rn0, pickObs, deI]
  obtain ⟨j, rfl, hj, G⟩ := isAt_nat g1
  by_cases k0 : k < 0
  · have e : in2 x (j : Int) k = false := by simp [in2]; omega
    rw [e, ibX_f]
    simp -implicitDefEqProofs [Tryz.f39, F85, F86, List.lookup_cons, eS, hp, g1, k0]
    refine fin_pure (by simp) ?_
    simp -implicitDefEqProofs [fS, rn0, pickObs, deI]
  by_cases k1 : (x.cls.length : Int) ≤ k
  · have e : in2 x (j : Int) k = false := by simp [in2]; omega
    have k0' : 0 ≤ k := by omega
    rw [e, ibX_f]
    simp -implicitDefEqProofs [Tryz.f39, F85, F86, List.lookup_cons, eS, hp, g1, k0, k0', k1]
    refine fin_pure (by simp) ?_
    simp -implicitDefEqProofs [fS, rn0, pickObs, deI]
  have e : in2 x (j : Int) k = true := by simp [in2, g1]; omega
  have k0' : 0 ≤ k := by omega
  have k1' : k < (x.cls.length : Int) := by omega
  rw [e, ibX_t]
  simp -implicitDefEqProofs [Tryz.f39, F85, F86, List.lookup_cons, eS, hp, g1, k0, k0', k1, k1', hj, G]
  refine loopP_inv (fun m : Nat => ⟨34, tl [(1, I m), (2, I k), (3, .optr 0 0 0 0)], [⟨35, 9, 0, [[.v (.string x.name), .sl (tR x.cls), .sl (iR x.par), .sl (iR x.fst), .sl (iR x.nx), .sl (iR x.en), .sl (tR x.fil), .sl (iR x.tgt), I x.dflt]], true, true, none⟩]⟩) (fun m => m < x.cls.length ∧ comN x k (hop x.par (m : Int)) = comN x k (hop x.par (j : Int))) (fun m => m) j ⟨hj, rfl⟩ (Wk.tl (by simp [hold, upd, tl_cons])) ?_
  rintro m ⟨hm, hc⟩
  rw [← hc]
  have hmp : m < x.par.length := by rw [G.lp]; exact hm
  obtain ⟨hme, hmE⟩ := enD G hm
  have hb : inB x (m : Int) k = (decide ((m : Int) ≤ k) && decide (k < x.en[m])) := by unfold inB; rw [Int.toNat_natCast, hmE]
  cases hI : inB x (m : Int) k with
  | true =>
    have hend : comN x k (hop x.par (m : Int)) = (m : Int) := by rw [hop_par G hm]; simp [comN, hI]
    rw [hend]
    rw [hI] at hb
    have hb' := hb.symm
    simp only [Bool.and_eq_true, decide_eq_true_eq] at hb'
    have hz1 : ¬ k < (m : Int) := by omega
    have hz2 : ¬ x.en[m] ≤ k := by omega
    simp -implicitDefEqProofs [List.lookup_cons, eS, F86, hI, G, hm, hme, hb'.1, hb'.2, hz1, hz2]
    refine fin_pure (by simp) ?_
    simp -implicitDefEqProofs [fS, rn0, pickObs, deI]
  | false =>
    obtain ⟨p, hpv, hpl, hpc⟩ := com_step G k0' k1' hm hI
    rw [getD_at hmp] at hpv
    have hfin : ∀ {P : Prop}, P → P := fun h => h
    simp -implicitDefEqProofs [List.lookup_cons, eS, F86, hI, G, hm, hmp, hpv]
    refine ⟨p, by omega, by rw [← hpc], by omega, ?_⟩
    exact Wk.tl (by simp [hold, upd, tl_cons])
theorem c38 : GenCA K Tryz.prog 38 F39 := by
  refine contractA Tryz.mix K [(84, F85)] [] (by simp [c84]) (by simp) Tryz.func38 rfl (by decide) ?_
  intro xs hxs
  obtain ⟨x, i, k, rfl, hp⟩ := F39_in hxs
  rw [F39_res]
  refine ⟨by rw [Tryz.ntmps38]; simp, ?_⟩
  by_cases g1 : isAt x i = true
  rotate_left
  · have g1' : isAt x i = false := by simpa using g1
    have e : in2 x i k = false := by simp [in2, g1']
    rw [e, ibX_f]
    simp -implicitDefEqProofs [Tryz.f38, F85, List.lookup_cons, eS, hp, g1', e]
    refine fin_pure (by simp) ?_
    simp -implicitDefEqProofs [fS, rn0, pickObs, deI]
  obtain ⟨j, rfl, hj, G⟩ := isAt_nat g1
  have g2 := in2_at (k := k) g1
  cases e : in2 x (j : Int) k with
  | false =>
    rw [e] at g2
    rw [ibX_f]
    simp -implicitDefEqProofs [Tryz.f38, F85, List.lookup_cons, eS, hp, g1, g2]
    refine fin_pure (by simp) ?_
    simp -implicitDefEqProofs [fS, rn0, pickObs, deI]
  | true =>
  rw [e] at g2
  obtain ⟨_, k0', k1'⟩ := (in2_iff x _ _).1 e
  obtain ⟨hj', he⟩ := enD G hj
  rw [ibX_t]
  simp -implicitDefEqProofs [Tryz.f38, F85, List.lookup_cons, eS, hp, g1, g2]
  refine loopP_inv (fun m : Nat => ⟨36, tl [(1, I m), (2, I k), (3, .optr 0 0 0 0)], [⟨35, 9, 0, [[.v (.string x.name), .sl (tR x.cls), .sl (iR x.par), .sl (iR x.fst), .sl (iR x.nx), .sl (iR x.en), .sl (tR x.fil), .sl (iR x.tgt), I x.dflt]], true, true, none⟩]⟩) (fun m => m < x.cls.length ∧ comN x k (hop x.par (m : Int)) = comN x k (hop x.par (j : Int))) (fun m => m) j ⟨hj, rfl⟩ (Wk.tl (by simp [hold, upd, tl_cons])) ?_
  rintro m ⟨hm, hc⟩
  rw [← hc]
  have hmp : m < x.par.length := by rw [G.lp]; exact hm
  obtain ⟨hme, hmE⟩ := enD G hm
  have hb : inB x (m : Int) k = (decide ((m : Int) ≤ k) && decide (k < x.en[m])) := by unfold inB; rw [Int.toNat_natCast, hmE]
  cases hI : inB x (m : Int) k with
  | true =>
    have hend : comN x k (hop x.par (m : Int)) = (m : Int) := by rw [hop_par G hm]; simp [comN, hI]
    rw [hend]
    rw [hI] at hb
    have hb' := hb.symm
    simp only [Bool.and_eq_true, decide_eq_true_eq] at hb'
    have hz1 : ¬ k < (m : Int) := by omega
    have hz2 : ¬ x.en[m] ≤ k := by omega
    simp -implicitDefEqProofs [List.lookup_cons, eS, hI, G, hm, hme, hb'.1, hb'.2, hz1, hz2]
    refine fin_pure (by simp) ?_
    simp -implicitDefEqProofs [fS, rn0, pickObs, deI]
  | false =>
    obtain ⟨p, hpv, hpl, hpc⟩ := com_step G k0' k1' hm hI
    rw [getD_at hmp] at hpv
    have hfin : ∀ {P : Prop}, P → P := fun h => h
    rw [hI] at hb
    by_cases hz1 : k < (m : Int)
    · simp -implicitDefEqProofs [List.lookup_cons, eS, hz1, hm, hme, hmp, hpv]
      refine ⟨p, by omega, by rw [← hpc], by omega, ?_⟩
      exact Wk.tl (by simp [hold, upd, tl_cons])
    · have hz2 : x.en[m] ≤ k := by
        have hb' := hb.symm
        simp only [Bool.and_eq_false_iff, decide_eq_false_iff_not] at hb'
        omega
      have hz1' : (m : Int) ≤ k := by omega
      simp -implicitDefEqProofs [List.lookup_cons, eS, hz1, hz1', hz2, hm, hme, hmp, hpv]
      refine ⟨p, by omega, by rw [← hpc], by omega, ?_⟩
      exact Wk.tl (by simp [hold, upd, tl_cons])
end Go.Proofs
