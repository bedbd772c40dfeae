/-
  What is proved here: contracts of the ways over a loaded configuration. Condition: none.
-/
import Derived.Test.YtdpmlddmdogggaaGreatDoorIlD
import Derived.Test.YtdpmlddmdogggaaGreatDoorIlC
import Derived.Test.YtdpmlddmdogggaaGreatDoorIL8j
import Derived.Test.YtdpmlddmdogggaaGreatDoorLBN
namespace Go.Proofs
open Go.Abs
set_option linter.unusedSimpArgs false
set_option linter.unnecessarySimpa false
set_option linter.unusedVariables false
set_option maxHeartbeats 16000000
set_option maxRecDepth 20000
theorem snocI (d : List Int) (j : Int) : iR d ++ [[I j]] = iR (d ++ [j]) := by simp [← iR_append, iR_cons, iR_nil]
def F95 : Fun := ⟨fun xs => xs = [.agg (lX (deL (xs.getD 0 .top) : Ldd)), I (deI (xs.getD 1 .top) : Int)] ∧ (fun (x : Ldd) (i : Int) => (LdG x ∧ 0 ≤ i ∧ i < x.cls.length)) (deL (xs.getD 0 .top) : Ldd) (deI (xs.getD 1 .top) : Int), fun xs => (fun (x : Ldd) (i : Int) => ((.osl 0 0, [iOb (hop x.par i)]) : X × List Ob)) (deL (xs.getD 0 .top) : Ldd) (deI (xs.getD 1 .top) : Int)⟩
theorem F95_in {xs : List X} (h : F95.pre xs) : ∃ (x : Ldd) (i : Int), xs = [.agg (lX x), I i] ∧ (LdG x ∧ 0 ≤ i ∧ i < x.cls.length) := ⟨_, _, h.1, h.2⟩
theorem F95_res (x : Ldd) (i : Int) : F95.res [.agg (lX x), I i] = (.osl 0 0, [iOb (hop x.par i)]) := by simp [F95]
theorem c95 : GenCA K Tryz.prog 95 F95 := by
  refine contractA Tryz.mix K [] [] (by simp) (by simp) Tryz.func95 rfl (by decide) ?_
  intro xs hxs
  obtain ⟨x, i, rfl, hp⟩ := F95_in hxs
  rw [F95_res]
  refine ⟨by rw [Tryz.ntmps95]; simp, ?_⟩
  obtain ⟨G, h0, h1⟩ := hp
  obtain ⟨j, rfl⟩ := Int.eq_ofNat_of_zero_le h0
  have hj : j < x.cls.length := by omega
  have hll := hop_len x.par (j : Int)
  simp -implicitDefEqProofs [Tryz.f95, List.lookup_cons, eS, eBuildSlice, srcRows, srcOk, chunk]
  refine loopP_inv (fun s : List Int × Int => ⟨19, tl [(1, I s.2), (2, .optr 0 0 0 0), (5, .osl 1 0)], [⟨35, 9, 0, [[.v (.string x.name), .sl (tR x.cls), .sl (iR x.par), .sl (iR x.fst), .sl (iR x.nx), .sl (iR x.en), .sl (tR x.fil), .sl (iR x.tgt), I x.dflt]], true, true, none⟩, iOb s.1]⟩) (fun s => s.1 ++ hop x.par s.2 = hop x.par (j : Int) ∧ (s.2 < 0 ∨ ∃ k : Nat, s.2 = (k : Int) ∧ k < x.cls.length)) (fun s => (if s.2 < 0 then 0 else (s.2 + 1).toNat)) ([], (j : Int)) ?_ ?_ ?_
  · exact ⟨by simp, .inr ⟨j, rfl, hj⟩⟩
  · exact Wk.tl (by simp [hold, upd, tl_cons, iOb, iR_nil])
  rintro ⟨d, k⟩ ⟨hd, hk⟩
  have hdl := congrArg List.length hd
  rw [List.length_append] at hdl
  by_cases h : k < 0
  · have h' : ¬ 0 ≤ k := by omega
    rw [hop_neg _ h, List.append_nil] at hd
    simp only at hd
    simp -implicitDefEqProofs [List.lookup_cons, eS, iOb, h', h]
    refine fin_own [1] (by simp [pickOk, -List.all_eq_true, iR_ok]) ?_
    simp -implicitDefEqProofs [fS, rn0, pickObs, deI, iOb, hd]
  · obtain ⟨k, rfl, hkl⟩ := hk.resolve_left h
    have h0 : (0 : Int) ≤ k := by omega
    have hk' : k < x.par.length := by rw [G.lp]; exact hkl
    have hstep := hop_par G hkl
    have hr := par_rng G k hkl
    rw [getD_at hk'] at hstep hr
    obtain ⟨v, hv⟩ : ∃ v, x.par[k] = v := ⟨_, rfl⟩
    rw [hv] at hstep hr
    simp only at hd hdl
    rw [hstep, List.append_cons] at hd
    simp -implicitDefEqProofs [List.lookup_cons, eS, h0, hk', hv, iOb, eAppend, eBuildSlice, srcRows, srcOk, chunk]
    refine ⟨by omega, by omega, (d ++ [(k : Int)]), v, hd, hr, ?_, ?_⟩
    · have hm : v < (k : Int) := by
        rcases G.par k hk' with ⟨e, _⟩ | ⟨p, e, hp1⟩ <;> omega
      split <;> (try split) <;> omega
    rw [snocI]
    refine Wk.tlP [0, 1] (by simp [pickOk, -List.all_eq_true, iR_ok, ok0]) ?_ ?_
    · simp [pickObs]
    · simp [hold, upd, tl_cons, rn1, rn0]
      try exact ⟨rfl, rfl⟩
theorem c75 : GenCA K Tryz.prog 75 F95 := by
  refine contractA Tryz.mix K [] [] (by simp) (by simp) Tryz.func75 rfl (by decide) ?_
  intro xs hxs
  obtain ⟨x, i, rfl, hp⟩ := F95_in hxs
  rw [F95_res]
  refine ⟨by rw [Tryz.ntmps75]; simp, ?_⟩
  obtain ⟨G, h0, h1⟩ := hp
  obtain ⟨j, rfl⟩ := Int.eq_ofNat_of_zero_le h0
  have hj : j < x.cls.length := by omega
  have hll := hop_len x.par (j : Int)
  simp -implicitDefEqProofs [Tryz.f75, List.lookup_cons, eS, eBuildSlice, srcRows, srcOk, chunk]
  refine loopP_inv (fun s : List Int × Int => ⟨18, tl [(1, I s.2), (2, .optr 0 0 0 0), (5, .osl 1 0)], [⟨35, 9, 0, [[.v (.string x.name), .sl (tR x.cls), .sl (iR x.par), .sl (iR x.fst), .sl (iR x.nx), .sl (iR x.en), .sl (tR x.fil), .sl (iR x.tgt), I x.dflt]], true, true, none⟩, iOb s.1]⟩) (fun s => s.1 ++ hop x.par s.2 = hop x.par (j : Int) ∧ (s.2 < 0 ∨ ∃ k : Nat, s.2 = (k : Int) ∧ k < x.cls.length)) (fun s => (if s.2 < 0 then 0 else (s.2 + 1).toNat)) ([], (j : Int)) ?_ ?_ ?_
  · exact ⟨by simp, .inr ⟨j, rfl, hj⟩⟩
  · exact Wk.tlN 3 1 5 (by simp [upd]) (by simp [hold, upd, tl_cons])
  rintro ⟨d, k⟩ ⟨hd, hk⟩
  have hdl := congrArg List.length hd
  rw [List.length_append] at hdl
  by_cases h : k < 0
  · have h' : ¬ 0 ≤ k := by omega
    rw [hop_neg _ h, List.append_nil] at hd
    simp only at hd
    simp -implicitDefEqProofs [List.lookup_cons, eS, iOb, h', h]
    refine fin_own [1] (by simp [pickOk, -List.all_eq_true, iR_ok]) ?_
    simp -implicitDefEqProofs [fS, rn0, pickObs, deI, iOb, hd]
  · obtain ⟨k, rfl, hkl⟩ := hk.resolve_left h
    have h0 : (0 : Int) ≤ k := by omega
    have hk' : k < x.par.length := by rw [G.lp]; exact hkl
    have hstep := hop_par G hkl
    have hr := par_rng G k hkl
    rw [getD_at hk'] at hstep hr
    obtain ⟨v, hv⟩ : ∃ v, x.par[k] = v := ⟨_, rfl⟩
    rw [hv] at hstep hr
    simp only at hd hdl
    rw [hstep, List.append_cons] at hd
    simp -implicitDefEqProofs [List.lookup_cons, eS, h0, hk', hv, iOb, eAppend, eBuildSlice, srcRows, srcOk, chunk]
    refine ⟨by omega, by omega, (d ++ [(k : Int)]), v, hd, hr, ?_, ?_⟩
    · have hm : v < (k : Int) := by
        rcases G.par k hk' with ⟨e, _⟩ | ⟨p, e, hp1⟩ <;> omega
      split <;> (try split) <;> omega
    rw [snocI]
    refine Wk.tlP [0, 1] (by simp [pickOk, -List.all_eq_true, iR_ok, ok0]) ?_ ?_
    · simp [pickObs]
    · simp [hold, upd, tl_cons, rn1, rn0]
      try exact ⟨rfl, rfl⟩
end Go.Proofs
