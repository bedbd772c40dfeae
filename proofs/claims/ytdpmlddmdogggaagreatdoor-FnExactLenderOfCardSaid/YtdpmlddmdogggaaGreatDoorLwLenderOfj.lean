/-
  What is proved here: the law of LenderOf. Condition: none.
-/
import Derived.Test.YtdpmlddmdogggaaGreatDoorIL10wj
import Derived.Test.YtdpmlddmdogggaaGreatDoorIL8j
namespace Go.Proofs
open Go.Abs
set_option linter.unusedSimpArgs false
set_option linter.unnecessarySimpa false
set_option linter.unusedVariables false
set_option maxHeartbeats 16000000
set_option maxRecDepth 20000
theorem pl2T (h : List Ob) (k ver : Nat) : purN h 2 (.osl k ver) = (match h[k]? with
    | some ob => if ob.ver = ver ∧ ob.bx = false then .sl (ob.rows.map fun r => r.map (purN h 1)) else .top
    | none => .top) := rfl
theorem pnT (h : List Ob) : purN h 2 (.v (.slice none 0 0)) = .sl [] := rfl
def F16 : Fun := ⟨fun xs => xs = [.agg (lX (deL (xs.getD 0 .top) : Ldd)), .agg (tkX (deTk (xs.getD 1 .top) : Tok)), I (deI (xs.getD 2 .top) : Int), I (deI (xs.getD 3 .top) : Int)] ∧ (fun (x : Ldd) (t : Tok) (i : Int) (size : Int) => (bigL x ∧ bigT t)) (deL (xs.getD 0 .top) : Ldd) (deTk (xs.getD 1 .top) : Tok) (deI (xs.getD 2 .top) : Int) (deI (xs.getD 3 .top) : Int), fun xs => (fun (x : Ldd) (t : Tok) (i : Int) (size : Int) => ((B true, []) : X × List Ob)) (deL (xs.getD 0 .top) : Ldd) (deTk (xs.getD 1 .top) : Tok) (deI (xs.getD 2 .top) : Int) (deI (xs.getD 3 .top) : Int)⟩
theorem F16_in {xs : List X} (h : F16.pre xs) : ∃ (x : Ldd) (t : Tok) (i : Int) (size : Int), xs = [.agg (lX x), .agg (tkX t), I i, I size] ∧ (bigL x ∧ bigT t) := ⟨_, _, _, _, h.1, h.2⟩
theorem F16_res (x : Ldd) (t : Tok) (i : Int) (size : Int) : F16.res [.agg (lX x), .agg (tkX t), I i, I size] = (B true, []) := by simp [F16]
theorem F16_mk (x : Ldd) (t : Tok) (i : Int) (size : Int) (h : bigL x ∧ bigT t) : F16.pre [.agg (lX x), .agg (tkX t), I i, I size] := by simpa [F16] using h
theorem c16 : GenCA K Tryz.prog 16 F16 := by
  refine contractAS Tryz.mix K [(17, F17), (19, F19), (22, F22), (26, F26), (28, F28), (21, F21), (56, F57), (57, F57)] [] [] (by simp [c17, c19, c22, c26, c28, c21, c56, c57]) (by simp) (by simp) Tryz.func16 rfl (by decide) ?_
  intro xs hxs
  obtain ⟨x, t, i, size, rfl, hp⟩ := F16_in hxs
  rw [F16_res]
  refine ⟨by rw [Tryz.ntmps16]; simp, ?_⟩
  have hb : bigL x := hp.1
  have ht : bigT t := hp.2
  have hz1 : 0 ≤ lSz x := by unfold lSz; omega
  have hm0 : (0 : Int) ≤ 1048576 := by decide
  have hm1 : (1048576 : Int) ≤ 1048576 := by decide
  have hPz : F17.pre [.agg [.v (.string x.name), .sl (tR x.cls), .sl (iR x.par), .sl (iR x.fst), .sl (iR x.nx), .sl (iR x.en), .sl (tR x.fil), .sl (iR x.tgt), I x.dflt], .v (.int .i64 1048576)] := F17_mk x 1048576 ⟨hb, hm0, hm1⟩
  have hRz0 : F17.res [.agg [.v (.string x.name), .sl (tR x.cls), .sl (iR x.par), .sl (iR x.fst), .sl (iR x.nx), .sl (iR x.en), .sl (tR x.fil), .sl (iR x.tgt), I x.dflt], .v (.int .i64 1048576)] = (I (if (1048576 : Int) < lSz x then -1 else 1048576 - lSz x), []) := F17_res x 1048576
  by_cases h1 : (1048576 : Int) < lSz x
  · have hRz : F17.res [.agg [.v (.string x.name), .sl (tR x.cls), .sl (iR x.par), .sl (iR x.fst), .sl (iR x.nx), .sl (iR x.en), .sl (tR x.fil), .sl (iR x.tgt), I x.dflt], .v (.int .i64 1048576)] = (I (-1), []) := by rw [hRz0, if_pos h1]
    refine Snd.of ?_
    simp -implicitDefEqProofs [Tryz.f16, List.lookup_cons, eS, hPz, hRz]
    refine fin_pure (by simp) ?_
    simp -implicitDefEqProofs [fS, rn0, pickObs, deI]
  have hRz : F17.res [.agg [.v (.string x.name), .sl (tR x.cls), .sl (iR x.par), .sl (iR x.fst), .sl (iR x.nx), .sl (iR x.en), .sl (tR x.fil), .sl (iR x.tgt), I x.dflt], .v (.int .i64 1048576)] = (I (1048576 - lSz x), []) := by rw [hRz0, if_neg h1]
  have e1 : ¬ (1048576 : Int) - lSz x < 0 := by omega
  have e1' : lSz x ≤ 1048576 := by omega
  obtain ⟨n1, hn1⟩ : ∃ n1, (1048576 : Int) - lSz x = n1 := ⟨_, rfl⟩
  have hn0 : 0 ≤ n1 := by omega
  have hn2 : n1 ≤ 1048576 := by omega
  rw [hn1] at e1 hRz
  have hPy : F26.pre [.agg [.sl (iR t.r), .sl (iR t.c)], I n1] := F26_mk t n1 ⟨ht, hn0, hn2⟩
  have hRy0 : F26.res [.agg [.sl (iR t.r), .sl (iR t.c)], I n1] = (I (if n1 < tSz t then -1 else n1 - tSz t), []) := F26_res t n1
  have hz2 : 0 ≤ tSz t := by unfold tSz; omega
  by_cases h2 : n1 < tSz t
  · have hRy : F26.res [.agg [.sl (iR t.r), .sl (iR t.c)], I n1] = (I (-1), []) := by rw [hRy0, if_pos h2]
    refine Snd.of ?_
    simp -implicitDefEqProofs [Tryz.f16, List.lookup_cons, eS, hPz, hRz, hPy, hRy, e1, hn0]
    refine fin_pure (by simp) ?_
    simp -implicitDefEqProofs [fS, rn0, pickObs, deI]
  have hRy : F26.res [.agg [.sl (iR t.r), .sl (iR t.c)], I n1] = (I (n1 - tSz t), []) := by rw [hRy0, if_neg h2]
  have e2 : ¬ n1 - tSz t < 0 := by omega
  have e2' : tSz t ≤ n1 := by omega
  have hokt : okT t := okT_of h2 hn2
  have hPq : F21.pre [.agg [.sl (iR t.r), .sl (iR t.c)], .agg [.sl (iR t.r), .sl (iR t.c)]] := ⟨t, rfl, hokt⟩
  have hRq : F21.res [.agg [.sl (iR t.r), .sl (iR t.c)], .agg [.sl (iR t.r), .sl (iR t.c)]] = (B true, []) := rfl
  have hPk : F28.pre [.agg [.sl (iR t.r), .sl (iR t.c)]] := F28_mk t hokt
  have hRk : F28.res [.agg [.sl (iR t.r), .sl (iR t.c)]] = (kO, kOb t) := F28_res t
  have hok : okM x := okM_of h1 (Int.le_refl _)
  have oe := hok.1
  have hPt : F19.pre [.agg [.v (.string x.name), .sl (tR x.cls), .sl (iR x.par), .sl (iR x.fst), .sl (iR x.nx), .sl (iR x.en), .sl (tR x.fil), .sl (iR x.tgt), I x.dflt]] := F19_mk x oe
  have hRt : F19.res [.agg [.v (.string x.name), .sl (tR x.cls), .sl (iR x.par), .sl (iR x.fst), .sl (iR x.nx), .sl (iR x.en), .sl (tR x.fil), .sl (iR x.tgt), I x.dflt]] = (lO x, lOb x) := F19_res x
  have hPe : F22.pre [.agg [.v (.string x.name), .sl (tR x.cls), .sl (iR x.par), .sl (iR x.fst), .sl (iR x.nx), .sl (iR x.en), .sl (tR x.fil), .sl (iR x.tgt), I x.dflt], .agg [.v (.string x.name), .sl (tR x.cls), .sl (iR x.par), .sl (iR x.fst), .sl (iR x.nx), .sl (iR x.en), .sl (tR x.fil), .sl (iR x.tgt), I x.dflt]] := ⟨x, rfl, oe⟩
  have hRe : F22.res [.agg [.v (.string x.name), .sl (tR x.cls), .sl (iR x.par), .sl (iR x.fst), .sl (iR x.nx), .sl (iR x.en), .sl (tR x.fil), .sl (iR x.tgt), I x.dflt], .agg [.v (.string x.name), .sl (tR x.cls), .sl (iR x.par), .sl (iR x.fst), .sl (iR x.nx), .sl (iR x.en), .sl (tR x.fil), .sl (iR x.tgt), I x.dflt]] = (B true, []) := rfl
  have hPi : F57.pre [.agg [.v (.string x.name), .sl (tR x.cls), .sl (iR x.par), .sl (iR x.fst), .sl (iR x.nx), .sl (iR x.en), .sl (tR x.fil), .sl (iR x.tgt), I x.dflt], .agg [.sl (iR t.r), .sl (iR t.c)], I i, I size] := F57_mk x t i size hok
  have hR0 : ∃ a b, ibX (caB x t i size && decide (0 ≤ lndI x t i size)) (lndI x t i size) = .tup [I a, B b] := by
    unfold ibX
    split
    · exact ⟨_, _, rfl⟩
    · exact ⟨_, _, rfl⟩
  obtain ⟨a, b, hK⟩ := hR0
  have hRi : F57.res [.agg [.v (.string x.name), .sl (tR x.cls), .sl (iR x.par), .sl (iR x.fst), .sl (iR x.nx), .sl (iR x.en), .sl (tR x.fil), .sl (iR x.tgt), I x.dflt], .agg [.sl (iR t.r), .sl (iR t.c)], I i, I size] = (.tup [I a, B b], []) := (F57_res x t i size).trans (by rw [hK])
  simp only [Tryz.f16, bodyOf, Option.getD_some]
  refine Snd.seqpu ?_
  simp -implicitDefEqProofs [List.lookup_cons, eS, lO, lOb, obCls, obFil, iOb, pl2T, pnT, hPz, hRz, hPt, hRt, hPe, hRe, hPi, e1, e1', pur2_tup, pur2_b, pur2_i, pur2_sl, pur_sl, pur_b, pur_v, pur_oslE, kO, kOb, hPy, hRy, hPq, hRq, hPk, hRk, hn0, e2, e2', hRi]
  refine Snd.seqpu ?_
  simp -implicitDefEqProofs [List.lookup_cons, eS, lO, lOb, obCls, obFil, iOb, pl2T, pnT, hPz, hRz, hPt, hRt, hPe, hRe, hPi, e1, e1', pur2_tup, pur2_b, pur2_i, pur2_sl, pur_sl, pur_b, pur_v, pur_oslE, kO, kOb, hPy, hRy, hPq, hRq, hPk, hRk, hn0, e2, e2', hRi]
  refine Snd.seqpu ?_
  simp -implicitDefEqProofs [List.lookup_cons, eS, lO, lOb, obCls, obFil, iOb, pl2T, pnT, hPz, hRz, hPt, hRt, hPe, hRe, hPi, e1, e1', pur2_tup, pur2_b, pur2_i, pur2_sl, pur_sl, pur_b, pur_v, pur_oslE, kO, kOb, hPy, hRy, hPq, hRq, hPk, hRk, hn0, e2, e2', hRi]
  refine Snd.seqpu ?_
  simp -implicitDefEqProofs [List.lookup_cons, eS, lO, lOb, obCls, obFil, iOb, pl2T, pnT, hPz, hRz, hPt, hRt, hPe, hRe, hPi, e1, e1', pur2_tup, pur2_b, pur2_i, pur2_sl, pur_sl, pur_b, pur_v, pur_oslE, kO, kOb, hPy, hRy, hPq, hRq, hPk, hRk, hn0, e2, e2', hRi]
  refine Snd.seqpu ?_
  simp -implicitDefEqProofs [List.lookup_cons, eS, lO, lOb, obCls, obFil, iOb, pl2T, pnT, hPz, hRz, hPt, hRt, hPe, hRe, hPi, e1, e1', pur2_tup, pur2_b, pur2_i, pur2_sl, pur_sl, pur_b, pur_v, pur_oslE, kO, kOb, hPy, hRy, hPq, hRq, hPk, hRk, hn0, e2, e2', hRi]
  refine Snd.seqpu ?_
  simp -implicitDefEqProofs [List.lookup_cons, eS, lO, lOb, obCls, obFil, iOb, pl2T, pnT, hPz, hRz, hPt, hRt, hPe, hRe, hPi, e1, e1', pur2_tup, pur2_b, pur2_i, pur2_sl, pur_sl, pur_b, pur_v, pur_oslE, kO, kOb, hPy, hRy, hPq, hRq, hPk, hRk, hn0, e2, e2', hRi]
  refine Snd.seqpu ?_
  simp -implicitDefEqProofs [List.lookup_cons, eS, lO, lOb, obCls, obFil, iOb, pl2T, pnT, hPz, hRz, hPt, hRt, hPe, hRe, hPi, e1, e1', pur2_tup, pur2_b, pur2_i, pur2_sl, pur_sl, pur_b, pur_v, pur_oslE, kO, kOb, hPy, hRy, hPq, hRq, hPk, hRk, hn0, e2, e2', hRi]
  refine drawP_pu _ (by decide) ?_
  simp -implicitDefEqProofs [List.lookup_cons, eS, lO, lOb, obCls, obFil, iOb, pl2T, pnT, hPz, hRz, hPt, hRt, hPe, hRe, hPi, e1, e1', pur2_tup, pur2_b, pur2_i, pur2_sl, pur_sl, pur_b, pur_v, pur_oslE, kO, kOb, hPy, hRy, hPq, hRq, hPk, hRk, hn0, e2, e2', hRi]
  refine Snd.seqpu ?_
  simp -implicitDefEqProofs [List.lookup_cons, eS, lO, lOb, obCls, obFil, iOb, pl2T, pnT, hPz, hRz, hPt, hRt, hPe, hRe, hPi, e1, e1', pur2_tup, pur2_b, pur2_i, pur2_sl, pur_sl, pur_b, pur_v, pur_oslE, kO, kOb, hPy, hRy, hPq, hRq, hPk, hRk, hn0, e2, e2', hRi]
  refine Snd.seqpu ?_
  simp -implicitDefEqProofs [List.lookup_cons, eS, lO, lOb, obCls, obFil, iOb, pl2T, pnT, hPz, hRz, hPt, hRt, hPe, hRe, hPi, e1, e1', pur2_tup, pur2_b, pur2_i, pur2_sl, pur_sl, pur_b, pur_v, pur_oslE, kO, kOb, hPy, hRy, hPq, hRq, hPk, hRk, hn0, e2, e2', hRi]
  refine Snd.seqpu ?_
  simp -implicitDefEqProofs [List.lookup_cons, eS, lO, lOb, obCls, obFil, iOb, pl2T, pnT, hPz, hRz, hPt, hRt, hPe, hRe, hPi, e1, e1', pur2_tup, pur2_b, pur2_i, pur2_sl, pur_sl, pur_b, pur_v, pur_oslE, kO, kOb, hPy, hRy, hPq, hRq, hPk, hRk, hn0, e2, e2', hRi]
  refine Snd.seqpu ?_
  simp -implicitDefEqProofs [List.lookup_cons, eS, lO, lOb, obCls, obFil, iOb, pl2T, pnT, hPz, hRz, hPt, hRt, hPe, hRe, hPi, e1, e1', pur2_tup, pur2_b, pur2_i, pur2_sl, pur_sl, pur_b, pur_v, pur_oslE, kO, kOb, hPy, hRy, hPq, hRq, hPk, hRk, hn0, e2, e2', hRi]
  refine Snd.seqpu ?_
  simp -implicitDefEqProofs [List.lookup_cons, eS, lO, lOb, obCls, obFil, iOb, pl2T, pnT, hPz, hRz, hPt, hRt, hPe, hRe, hPi, e1, e1', pur2_tup, pur2_b, pur2_i, pur2_sl, pur_sl, pur_b, pur_v, pur_oslE, kO, kOb, hPy, hRy, hPq, hRq, hPk, hRk, hn0, e2, e2', hRi]
  refine drawP_pu _ (by decide) ?_
  simp -implicitDefEqProofs [List.lookup_cons, eS, lO, lOb, obCls, obFil, iOb, pl2T, pnT, hPz, hRz, hPt, hRt, hPe, hRe, hPi, e1, e1', pur2_tup, pur2_b, pur2_i, pur2_sl, pur_sl, pur_b, pur_v, pur_oslE, kO, kOb, hPy, hRy, hPq, hRq, hPk, hRk, hn0, e2, e2', hRi]
  refine Snd.seqpu ?_
  simp -implicitDefEqProofs [List.lookup_cons, eS, lO, lOb, obCls, obFil, iOb, pl2T, pnT, hPz, hRz, hPt, hRt, hPe, hRe, hPi, e1, e1', pur2_tup, pur2_b, pur2_i, pur2_sl, pur_sl, pur_b, pur_v, pur_oslE, kO, kOb, hPy, hRy, hPq, hRq, hPk, hRk, hn0, e2, e2', hRi]
  refine drawP_pu _ (by decide) ?_
  simp -implicitDefEqProofs [List.lookup_cons, eS, lO, lOb, obCls, obFil, iOb, pl2T, pnT, hPz, hRz, hPt, hRt, hPe, hRe, hPi, e1, e1', pur2_tup, pur2_b, pur2_i, pur2_sl, pur_sl, pur_b, pur_v, pur_oslE, kO, kOb, hPy, hRy, hPq, hRq, hPk, hRk, hn0, e2, e2', hRi]
  refine Snd.of ?_
  simp -implicitDefEqProofs [List.lookup_cons, eS, lO, lOb, obCls, obFil, iOb, pl2T, pnT, hPz, hRz, hPt, hRt, hPe, hRe, hPi, e1, e1', pur2_tup, pur2_b, pur2_i, pur2_sl, pur_sl, pur_b, pur_v, pur_oslE, kO, kOb, hPy, hRy, hPq, hRq, hPk, hRk, hn0, e2, e2', hRi]
  refine fin_pure (by simp) ?_
  simp -implicitDefEqProofs [fS, rn0, pickObs, deI]
end Go.Proofs
