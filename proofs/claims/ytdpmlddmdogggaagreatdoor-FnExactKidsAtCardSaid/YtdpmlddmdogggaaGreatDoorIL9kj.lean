/-
  What is proved here: contracts of the ways over a loaded configuration. Condition: none.
-/
import Derived.Test.YtdpmlddmdogggaaGreatDoorIL9aj
namespace Go.Proofs
open Go.Abs
set_option linter.unusedSimpArgs false
set_option linter.unnecessarySimpa false
set_option linter.unusedVariables false
set_option maxHeartbeats 16000000
set_option maxRecDepth 20000
def F46 : Fun := ⟨fun xs => xs = [.agg (lX (deL (xs.getD 0 .top) : Ldd)), I (deI (xs.getD 1 .top) : Int)] ∧ (fun (x : Ldd) (i : Int) => (okM x)) (deL (xs.getD 0 .top) : Ldd) (deI (xs.getD 1 .top) : Int), fun xs => (fun (x : Ldd) (i : Int) => ((ansI (isAt x i) (hop x.nx (x.fst.getD i.toNat (-1)))) : X × List Ob)) (deL (xs.getD 0 .top) : Ldd) (deI (xs.getD 1 .top) : Int)⟩
theorem F46_in {xs : List X} (h : F46.pre xs) : ∃ (x : Ldd) (i : Int), xs = [.agg (lX x), I i] ∧ (okM x) := ⟨_, _, h.1, h.2⟩
theorem F46_res (x : Ldd) (i : Int) : F46.res [.agg (lX x), I i] = (ansI (isAt x i) (hop x.nx (x.fst.getD i.toNat (-1)))) := by simp [F46]
theorem F46_mk (x : Ldd) (i : Int) (h : okM x) : F46.pre [.agg (lX x), I i] := by simpa [F46] using h
theorem c46 : GenCA K Tryz.prog 46 F46 := by
  refine contractA Tryz.mix K [(85, F85)] [] (by simp [c85]) (by simp) Tryz.func46 rfl (by decide) ?_
  intro xs hxs
  obtain ⟨x, i, rfl, hp⟩ := F46_in hxs
  rw [F46_res]
  refine ⟨by rw [Tryz.ntmps46]; simp, ?_⟩
  cases g : isAt x i with
  | false =>
    rw [ansI_f]
    simp -implicitDefEqProofs [Tryz.f46, F85, List.lookup_cons, eS, hp, g]
    refine fin_pure (by simp) ?_
    simp -implicitDefEqProofs [fS, rn0, pickObs, deI]
  | true =>
    rw [ansI_t]
    obtain ⟨j, rfl, hj, G⟩ := isAt_nat g
    have hjf : j < x.fst.length := by rw [G.lf]; exact hj
    have hn := G.n
    have hll := hop_len x.nx x.fst[j]
    rw [Int.toNat_natCast, getD_at hjf]
    simp -implicitDefEqProofs [Tryz.f46, F85, List.lookup_cons, eS, hp, g, hjf, eBuildSlice, srcRows, srcOk, chunk]
    refine loopP_inv (fun s : List Int × Int => ⟨30, tl [(2, .optr 0 0 0 0), (6, .osl 1 0), (7, I s.2)], [⟨35, 9, 0, [[.v (.string x.name), .sl (tR x.cls), .sl (iR x.par), .sl (iR x.fst), .sl (iR x.nx), .sl (iR x.en), .sl (tR x.fil), .sl (iR x.tgt), I x.dflt]], true, true, none⟩, iOb s.1]⟩) (fun s => s.1 ++ hop x.nx s.2 = hop x.nx (x.fst[j]'(by rw [G.lf]; exact hj)) ∧ (s.2 < 0 ∨ ∃ k : Nat, s.2 = (k : Int) ∧ k < x.cls.length)) (fun s => (if s.2 < 0 then 0 else (25 - s.2).toNat)) ([], x.fst[j]'(by rw [G.lf]; exact hj)) ?_ ?_ ?_
    · refine ⟨by simp, ?_⟩
      rcases G.fst j (by rw [G.lf]; exact hj) with e | ⟨k, e, _, hk⟩
      · exact .inl (by rw [e]; omega)
      · exact .inr ⟨k, e, hk⟩
    · exact Wk.tl (by simp [hold, upd, tl_cons, iOb, iR_nil])
    rintro ⟨d, k⟩ ⟨hd, hk⟩
    have hdl := congrArg List.length hd
    rw [List.length_append] at hdl
    by_cases h : k < 0
    · have h' : ¬ 0 ≤ k := by omega
      rw [hop_neg _ h, List.append_nil] at hd
      simp only at hd
      simp -implicitDefEqProofs [List.lookup_cons, eS, iOb, h', h]
      refine fin_own [1] (by simp [pickOk, -List.all_eq_true, iR_ok]) ?_
      simp -implicitDefEqProofs [fS, rn0, pickObs, deI, iOb, hd]
    · obtain ⟨k, rfl, hkl⟩ := hk.resolve_left h
      have h0 : (0 : Int) ≤ k := by omega
      have hk' : k < x.nx.length := by rw [G.ln]; exact hkl
      have hstep := hop_nx G hkl
      have hr := nx_rng2 G k hkl
      rw [getD_at hk'] at hstep hr
      obtain ⟨v, hv⟩ : ∃ v, x.nx[k] = v := ⟨_, rfl⟩
      rw [hv] at hstep hr
      simp only at hd hdl
      rw [hstep, List.append_cons] at hd
      simp -implicitDefEqProofs [List.lookup_cons, eS, h0, hk', hv, iOb, eAppend, eBuildSlice, srcRows, srcOk, chunk]
      refine ⟨by omega, by omega, (d ++ [(k : Int)]), v, hd, hr, ?_, ?_⟩
      · have hm : v < 0 ∨ (k : Int) < v := by
          rcases G.nx k hk' with e | ⟨p, e, hp1, _⟩
          · exact .inl (by omega)
          · exact .inr (by omega)
        split <;> (try split) <;> omega
      rw [snocI]
      refine Wk.tlP [0, 1] (by simp [pickOk, -List.all_eq_true, iR_ok, ok0]) ?_ ?_
      · simp [pickObs]
      · simp [hold, upd, tl_cons, rn1, rn0]
        try exact ⟨rfl, rfl⟩
theorem c45 : GenCA K Tryz.prog 45 F46 := by
  refine contractA Tryz.mix K [(84, F85)] [] (by simp [c84]) (by simp) Tryz.func45 rfl (by decide) ?_
  intro xs hxs
  obtain ⟨x, i, rfl, hp⟩ := F46_in hxs
  rw [F46_res]
  refine ⟨by rw [Tryz.ntmps45]; simp, ?_⟩
  cases g : isAt x i with
  | false =>
    rw [ansI_f]
    simp -implicitDefEqProofs [Tryz.f45, F85, List.lookup_cons, eS, hp, g]
    refine fin_pure (by simp) ?_
    simp -implicitDefEqProofs [fS, rn0, pickObs, deI]
  | true =>
    rw [ansI_t]
    obtain ⟨j, rfl, hj, G⟩ := isAt_nat g
    have hjf : j < x.fst.length := by rw [G.lf]; exact hj
    have hn := G.n
    have hll := hop_len x.nx x.fst[j]
    rw [Int.toNat_natCast, getD_at hjf]
    simp -implicitDefEqProofs [Tryz.f45, F85, List.lookup_cons, eS, hp, g, hjf, eBuildSlice, srcRows, srcOk, chunk]
    refine loopP_inv (fun s : List Int × Int => ⟨29, tl [(2, .optr 0 0 0 0), (6, .osl 1 0), (7, I s.2)], [⟨35, 9, 0, [[.v (.string x.name), .sl (tR x.cls), .sl (iR x.par), .sl (iR x.fst), .sl (iR x.nx), .sl (iR x.en), .sl (tR x.fil), .sl (iR x.tgt), I x.dflt]], true, true, none⟩, iOb s.1]⟩) (fun s => s.1 ++ hop x.nx s.2 = hop x.nx (x.fst[j]'(by rw [G.lf]; exact hj)) ∧ (s.2 < 0 ∨ ∃ k : Nat, s.2 = (k : Int) ∧ k < x.cls.length)) (fun s => (if s.2 < 0 then 0 else (25 - s.2).toNat)) ([], x.fst[j]'(by rw [G.lf]; exact hj)) ?_ ?_ ?_
    · refine ⟨by simp, ?_⟩
      rcases G.fst j (by rw [G.lf]; exact hj) with e | ⟨k, e, _, hk⟩
      · exact .inl (by rw [e]; omega)
      · exact .inr ⟨k, e, hk⟩
    · exact Wk.tlN 3 1 6 (by simp [upd]) (by simp [hold, upd, tl_cons])
    rintro ⟨d, k⟩ ⟨hd, hk⟩
    have hdl := congrArg List.length hd
    rw [List.length_append] at hdl
    by_cases h : k < 0
    · have h' : ¬ 0 ≤ k := by omega
      rw [hop_neg _ h, List.append_nil] at hd
      simp only at hd
      simp -implicitDefEqProofs [List.lookup_cons, eS, iOb, h', h]
      refine fin_own [1] (by simp [pickOk, -List.all_eq_true, iR_ok]) ?_
      simp -implicitDefEqProofs [fS, rn0, pickObs, deI, iOb, hd]
    · obtain ⟨k, rfl, hkl⟩ := hk.resolve_left h
      have h0 : (0 : Int) ≤ k := by omega
      have hk' : k < x.nx.length := by rw [G.ln]; exact hkl
      have hstep := hop_nx G hkl
      have hr := nx_rng2 G k hkl
      rw [getD_at hk'] at hstep hr
      obtain ⟨v, hv⟩ : ∃ v, x.nx[k] = v := ⟨_, rfl⟩
      rw [hv] at hstep hr
      simp only at hd hdl
      rw [hstep, List.append_cons] at hd
      simp -implicitDefEqProofs [List.lookup_cons, eS, h0, hk', hv, iOb, eAppend, eBuildSlice, srcRows, srcOk, chunk]
      refine ⟨by omega, by omega, (d ++ [(k : Int)]), v, hd, hr, ?_, ?_⟩
      · have hm : v < 0 ∨ (k : Int) < v := by
          rcases G.nx k hk' with e | ⟨p, e, hp1, _⟩
          · exact .inl (by omega)
          · exact .inr (by omega)
        split <;> (try split) <;> omega
      rw [snocI]
      refine Wk.tlP [0, 1] (by simp [pickOk, -List.all_eq_true, iR_ok, ok0]) ?_ ?_
      · simp [pickObs]
      · simp [hold, upd, tl_cons, rn1, rn0]
        try exact ⟨rfl, rfl⟩
end Go.Proofs
