/-
  What is proved here: the law of CommonAt. Condition: none.
-/
import Derived.Test.YtdpmlddmdogggaaGreatDoorIL9cj
import Derived.Test.YtdpmlddmdogggaaGreatDoorIL8j
namespace Go.Proofs
open Go.Abs
set_option linter.unusedSimpArgs false
set_option linter.unnecessarySimpa false
set_option linter.unusedVariables false
set_option maxHeartbeats 16000000
set_option maxRecDepth 20000
theorem pl2T (h : List Ob) (k ver : Nat) : purN h 2 (.osl k ver) = (match h[k]? with
    | some ob => if ob.ver = ver ∧ ob.bx = false then .sl (ob.rows.map fun r => r.map (purN h 1)) else .top
    | none => .top) := rfl
theorem pnT (h : List Ob) : purN h 2 (.v (.slice none 0 0)) = .sl [] := rfl
def F9 : Fun := ⟨fun xs => xs = [.agg (lX (deL (xs.getD 0 .top) : Ldd)), I (deI (xs.getD 1 .top) : Int), I (deI (xs.getD 2 .top) : Int)] ∧ (fun (x : Ldd) (i : Int) (k : Int) => (bigL x)) (deL (xs.getD 0 .top) : Ldd) (deI (xs.getD 1 .top) : Int) (deI (xs.getD 2 .top) : Int), fun xs => (fun (x : Ldd) (i : Int) (k : Int) => ((B true, []) : X × List Ob)) (deL (xs.getD 0 .top) : Ldd) (deI (xs.getD 1 .top) : Int) (deI (xs.getD 2 .top) : Int)⟩
theorem F9_in {xs : List X} (h : F9.pre xs) : ∃ (x : Ldd) (i : Int) (k : Int), xs = [.agg (lX x), I i, I k] ∧ (bigL x) := ⟨_, _, _, h.1, h.2⟩
theorem F9_res (x : Ldd) (i : Int) (k : Int) : F9.res [.agg (lX x), I i, I k] = (B true, []) := by simp [F9]
theorem F9_mk (x : Ldd) (i : Int) (k : Int) (h : bigL x) : F9.pre [.agg (lX x), I i, I k] := by simpa [F9] using h
theorem c9 : GenCA K Tryz.prog 9 F9 := by
  refine contractAS Tryz.mix K [(17, F17), (19, F19), (22, F22), (38, F39), (39, F39)] [] [] (by simp [c17, c19, c22, c38, c39]) (by simp) (by simp) Tryz.func9 rfl (by decide) ?_
  intro xs hxs
  obtain ⟨x, i, k, rfl, hp⟩ := F9_in hxs
  rw [F9_res]
  refine ⟨by rw [Tryz.ntmps9]; simp, ?_⟩
  have hb : bigL x := hp
  have hz1 : 0 ≤ lSz x := by unfold lSz; omega
  have hm0 : (0 : Int) ≤ 1048576 := by decide
  have hm1 : (1048576 : Int) ≤ 1048576 := by decide
  have hPz : F17.pre [.agg [.v (.string x.name), .sl (tR x.cls), .sl (iR x.par), .sl (iR x.fst), .sl (iR x.nx), .sl (iR x.en), .sl (tR x.fil), .sl (iR x.tgt), I x.dflt], .v (.int .i64 1048576)] := F17_mk x 1048576 ⟨hb, hm0, hm1⟩
  have hRz0 : F17.res [.agg [.v (.string x.name), .sl (tR x.cls), .sl (iR x.par), .sl (iR x.fst), .sl (iR x.nx), .sl (iR x.en), .sl (tR x.fil), .sl (iR x.tgt), I x.dflt], .v (.int .i64 1048576)] = (I (if (1048576 : Int) < lSz x then -1 else 1048576 - lSz x), []) := F17_res x 1048576
  by_cases h1 : (1048576 : Int) < lSz x
  · have hRz : F17.res [.agg [.v (.string x.name), .sl (tR x.cls), .sl (iR x.par), .sl (iR x.fst), .sl (iR x.nx), .sl (iR x.en), .sl (tR x.fil), .sl (iR x.tgt), I x.dflt], .v (.int .i64 1048576)] = (I (-1), []) := by rw [hRz0, if_pos h1]
    refine Snd.of ?_
    simp -implicitDefEqProofs [Tryz.f9, List.lookup_cons, eS, hPz, hRz]
    refine fin_pure (by simp) ?_
    simp -implicitDefEqProofs [fS, rn0, pickObs, deI]
  have hRz : F17.res [.agg [.v (.string x.name), .sl (tR x.cls), .sl (iR x.par), .sl (iR x.fst), .sl (iR x.nx), .sl (iR x.en), .sl (tR x.fil), .sl (iR x.tgt), I x.dflt], .v (.int .i64 1048576)] = (I (1048576 - lSz x), []) := by rw [hRz0, if_neg h1]
  have e1 : ¬ (1048576 : Int) - lSz x < 0 := by omega
  have e1' : lSz x ≤ 1048576 := by omega
  have hok : okM x := okM_of h1 (Int.le_refl _)
  have oe := hok.1
  have hPt : F19.pre [.agg [.v (.string x.name), .sl (tR x.cls), .sl (iR x.par), .sl (iR x.fst), .sl (iR x.nx), .sl (iR x.en), .sl (tR x.fil), .sl (iR x.tgt), I x.dflt]] := F19_mk x oe
  have hRt : F19.res [.agg [.v (.string x.name), .sl (tR x.cls), .sl (iR x.par), .sl (iR x.fst), .sl (iR x.nx), .sl (iR x.en), .sl (tR x.fil), .sl (iR x.tgt), I x.dflt]] = (lO x, lOb x) := F19_res x
  have hPe : F22.pre [.agg [.v (.string x.name), .sl (tR x.cls), .sl (iR x.par), .sl (iR x.fst), .sl (iR x.nx), .sl (iR x.en), .sl (tR x.fil), .sl (iR x.tgt), I x.dflt], .agg [.v (.string x.name), .sl (tR x.cls), .sl (iR x.par), .sl (iR x.fst), .sl (iR x.nx), .sl (iR x.en), .sl (tR x.fil), .sl (iR x.tgt), I x.dflt]] := ⟨x, rfl, oe⟩
  have hRe : F22.res [.agg [.v (.string x.name), .sl (tR x.cls), .sl (iR x.par), .sl (iR x.fst), .sl (iR x.nx), .sl (iR x.en), .sl (tR x.fil), .sl (iR x.tgt), I x.dflt], .agg [.v (.string x.name), .sl (tR x.cls), .sl (iR x.par), .sl (iR x.fst), .sl (iR x.nx), .sl (iR x.en), .sl (tR x.fil), .sl (iR x.tgt), I x.dflt]] = (B true, []) := rfl
  have hPi : F39.pre [.agg [.v (.string x.name), .sl (tR x.cls), .sl (iR x.par), .sl (iR x.fst), .sl (iR x.nx), .sl (iR x.en), .sl (tR x.fil), .sl (iR x.tgt), I x.dflt], I i, I k] := F39_mk x i k hok
  have hR0 : ∃ a b, ibX (in2 x i k) (comN x k (hop x.par i)) = .tup [I a, B b] := by
    unfold ibX
    split
    · exact ⟨_, _, rfl⟩
    · exact ⟨_, _, rfl⟩
  obtain ⟨a, b, hK⟩ := hR0
  have hRi : F39.res [.agg [.v (.string x.name), .sl (tR x.cls), .sl (iR x.par), .sl (iR x.fst), .sl (iR x.nx), .sl (iR x.en), .sl (tR x.fil), .sl (iR x.tgt), I x.dflt], I i, I k] = (.tup [I a, B b], []) := (F39_res x i k).trans (by rw [hK])
  simp only [Tryz.f9, bodyOf, Option.getD_some]
  refine Snd.seqpu ?_
  simp -implicitDefEqProofs [List.lookup_cons, eS, lO, lOb, obCls, obFil, iOb, pl2T, pnT, hPz, hRz, hPt, hRt, hPe, hRe, hPi, e1, e1', pur2_tup, pur2_b, pur2_i, pur2_sl, pur_sl, pur_b, pur_v, pur_oslE, hRi]
  refine Snd.seqpu ?_
  simp -implicitDefEqProofs [List.lookup_cons, eS, lO, lOb, obCls, obFil, iOb, pl2T, pnT, hPz, hRz, hPt, hRt, hPe, hRe, hPi, e1, e1', pur2_tup, pur2_b, pur2_i, pur2_sl, pur_sl, pur_b, pur_v, pur_oslE, hRi]
  refine Snd.seqpu ?_
  simp -implicitDefEqProofs [List.lookup_cons, eS, lO, lOb, obCls, obFil, iOb, pl2T, pnT, hPz, hRz, hPt, hRt, hPe, hRe, hPi, e1, e1', pur2_tup, pur2_b, pur2_i, pur2_sl, pur_sl, pur_b, pur_v, pur_oslE, hRi]
  refine Snd.seqpu ?_
  simp -implicitDefEqProofs [List.lookup_cons, eS, lO, lOb, obCls, obFil, iOb, pl2T, pnT, hPz, hRz, hPt, hRt, hPe, hRe, hPi, e1, e1', pur2_tup, pur2_b, pur2_i, pur2_sl, pur_sl, pur_b, pur_v, pur_oslE, hRi]
  refine Snd.seqpu ?_
  simp -implicitDefEqProofs [List.lookup_cons, eS, lO, lOb, obCls, obFil, iOb, pl2T, pnT, hPz, hRz, hPt, hRt, hPe, hRe, hPi, e1, e1', pur2_tup, pur2_b, pur2_i, pur2_sl, pur_sl, pur_b, pur_v, pur_oslE, hRi]
  refine Snd.seqpu ?_
  simp -implicitDefEqProofs [List.lookup_cons, eS, lO, lOb, obCls, obFil, iOb, pl2T, pnT, hPz, hRz, hPt, hRt, hPe, hRe, hPi, e1, e1', pur2_tup, pur2_b, pur2_i, pur2_sl, pur_sl, pur_b, pur_v, pur_oslE, hRi]
  refine Snd.seqpu ?_
  simp -implicitDefEqProofs [List.lookup_cons, eS, lO, lOb, obCls, obFil, iOb, pl2T, pnT, hPz, hRz, hPt, hRt, hPe, hRe, hPi, e1, e1', pur2_tup, pur2_b, pur2_i, pur2_sl, pur_sl, pur_b, pur_v, pur_oslE, hRi]
  refine Snd.seqpu ?_
  simp -implicitDefEqProofs [List.lookup_cons, eS, lO, lOb, obCls, obFil, iOb, pl2T, pnT, hPz, hRz, hPt, hRt, hPe, hRe, hPi, e1, e1', pur2_tup, pur2_b, pur2_i, pur2_sl, pur_sl, pur_b, pur_v, pur_oslE, hRi]
  refine Snd.seqpu ?_
  simp -implicitDefEqProofs [List.lookup_cons, eS, lO, lOb, obCls, obFil, iOb, pl2T, pnT, hPz, hRz, hPt, hRt, hPe, hRe, hPi, e1, e1', pur2_tup, pur2_b, pur2_i, pur2_sl, pur_sl, pur_b, pur_v, pur_oslE, hRi]
  refine drawP_pu _ (by decide) ?_
  simp -implicitDefEqProofs [List.lookup_cons, eS, lO, lOb, obCls, obFil, iOb, pl2T, pnT, hPz, hRz, hPt, hRt, hPe, hRe, hPi, e1, e1', pur2_tup, pur2_b, pur2_i, pur2_sl, pur_sl, pur_b, pur_v, pur_oslE, hRi]
  refine Snd.of ?_
  simp -implicitDefEqProofs [List.lookup_cons, eS, lO, lOb, obCls, obFil, iOb, pl2T, pnT, hPz, hRz, hPt, hRt, hPe, hRe, hPi, e1, e1', pur2_tup, pur2_b, pur2_i, pur2_sl, pur_sl, pur_b, pur_v, pur_oslE, hRi]
  refine fin_pure (by simp) ?_
  simp -implicitDefEqProofs [fS, rn0, pickObs, deI]
end Go.Proofs
