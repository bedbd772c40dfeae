/-
  What is proved here: the law of LeafAt. Condition: none.
-/
import Derived.Test.YtdpmlddmdogggaaGreatDoorIL11j
import Derived.Test.YtdpmlddmdogggaaGreatDoorIL8j
namespace Go.Proofs
open Go.Abs
set_option linter.unusedSimpArgs false
set_option linter.unnecessarySimpa false
set_option linter.unusedVariables false
set_option maxHeartbeats 16000000
set_option maxRecDepth 20000
theorem pl2T (h : List Ob) (k ver : Nat) : purN h 2 (.osl k ver) = (match h[k]? with
    | some ob => if ob.ver = ver ∧ ob.bx = false then .sl (ob.rows.map fun r => r.map (purN h 1)) else .top
    | none => .top) := rfl
theorem pnT (h : List Ob) : purN h 2 (.v (.slice none 0 0)) = .sl [] := rfl
def F11 : Fun := ⟨fun xs => xs = [.agg (lX (deL (xs.getD 0 .top) : Ldd)), .agg (rX (deA (xs.getD 1 .top) : Pkt))] ∧ (fun (x : Ldd) (p : Pkt) => (bigL x)) (deL (xs.getD 0 .top) : Ldd) (deA (xs.getD 1 .top) : Pkt), fun xs => (fun (x : Ldd) (p : Pkt) => ((B true, []) : X × List Ob)) (deL (xs.getD 0 .top) : Ldd) (deA (xs.getD 1 .top) : Pkt)⟩
theorem F11_in {xs : List X} (h : F11.pre xs) : ∃ (x : Ldd) (p : Pkt), xs = [.agg (lX x), .agg (rX p)] ∧ (bigL x) := ⟨_, _, h.1, h.2⟩
theorem F11_res (x : Ldd) (p : Pkt) : F11.res [.agg (lX x), .agg (rX p)] = (B true, []) := by simp [F11]
theorem F11_mk (x : Ldd) (p : Pkt) (h : bigL x) : F11.pre [.agg (lX x), .agg (rX p)] := by simpa [F11] using h
theorem c11 : GenCA K Tryz.prog 11 F11 := by
  refine contractAS Tryz.mix K [(17, F17), (19, F19), (22, F22), (43, F43), (42, F44), (44, F44)] [] [] (by simp [c17, c19, c22, c43, c42, c44]) (by simp) (by simp) Tryz.func11 rfl (by decide) ?_
  intro xs hxs
  obtain ⟨x, p, rfl, hp⟩ := F11_in hxs
  rw [F11_res]
  refine ⟨by rw [Tryz.ntmps11]; simp, ?_⟩
  have hb : bigL x := hp
  have hz1 : 0 ≤ lSz x := by unfold lSz; omega
  have hm0 : (0 : Int) ≤ 1048576 := by decide
  have hm1 : (1048576 : Int) ≤ 1048576 := by decide
  have hPz : F17.pre [.agg [.v (.string x.name), .sl (tR x.cls), .sl (iR x.par), .sl (iR x.fst), .sl (iR x.nx), .sl (iR x.en), .sl (tR x.fil), .sl (iR x.tgt), I x.dflt], .v (.int .i64 1048576)] := F17_mk x 1048576 ⟨hb, hm0, hm1⟩
  have hRz0 : F17.res [.agg [.v (.string x.name), .sl (tR x.cls), .sl (iR x.par), .sl (iR x.fst), .sl (iR x.nx), .sl (iR x.en), .sl (tR x.fil), .sl (iR x.tgt), I x.dflt], .v (.int .i64 1048576)] = (I (if (1048576 : Int) < lSz x then -1 else 1048576 - lSz x), []) := F17_res x 1048576
  by_cases h1 : (1048576 : Int) < lSz x
  · have hRz : F17.res [.agg [.v (.string x.name), .sl (tR x.cls), .sl (iR x.par), .sl (iR x.fst), .sl (iR x.nx), .sl (iR x.en), .sl (tR x.fil), .sl (iR x.tgt), I x.dflt], .v (.int .i64 1048576)] = (I (-1), []) := by rw [hRz0, if_pos h1]
    refine Snd.of ?_
    simp -implicitDefEqProofs [Tryz.f11, List.lookup_cons, eS, hPz, hRz]
    refine fin_pure (by simp) ?_
    simp -implicitDefEqProofs [fS, rn0, pickObs, deI]
  have hRz : F17.res [.agg [.v (.string x.name), .sl (tR x.cls), .sl (iR x.par), .sl (iR x.fst), .sl (iR x.nx), .sl (iR x.en), .sl (tR x.fil), .sl (iR x.tgt), I x.dflt], .v (.int .i64 1048576)] = (I (1048576 - lSz x), []) := by rw [hRz0, if_neg h1]
  have e1 : ¬ (1048576 : Int) - lSz x < 0 := by omega
  have e1' : lSz x ≤ 1048576 := by omega
  have hok : okM x := okM_of h1 (Int.le_refl _)
  have oe := hok.1
  have hPt : F19.pre [.agg [.v (.string x.name), .sl (tR x.cls), .sl (iR x.par), .sl (iR x.fst), .sl (iR x.nx), .sl (iR x.en), .sl (tR x.fil), .sl (iR x.tgt), I x.dflt]] := F19_mk x oe
  have hRt : F19.res [.agg [.v (.string x.name), .sl (tR x.cls), .sl (iR x.par), .sl (iR x.fst), .sl (iR x.nx), .sl (iR x.en), .sl (tR x.fil), .sl (iR x.tgt), I x.dflt]] = (lO x, lOb x) := F19_res x
  have hPe : F22.pre [.agg [.v (.string x.name), .sl (tR x.cls), .sl (iR x.par), .sl (iR x.fst), .sl (iR x.nx), .sl (iR x.en), .sl (tR x.fil), .sl (iR x.tgt), I x.dflt], .agg [.v (.string x.name), .sl (tR x.cls), .sl (iR x.par), .sl (iR x.fst), .sl (iR x.nx), .sl (iR x.en), .sl (tR x.fil), .sl (iR x.tgt), I x.dflt]] := ⟨x, rfl, oe⟩
  have hRe : F22.res [.agg [.v (.string x.name), .sl (tR x.cls), .sl (iR x.par), .sl (iR x.fst), .sl (iR x.nx), .sl (iR x.en), .sl (tR x.fil), .sl (iR x.tgt), I x.dflt], .agg [.v (.string x.name), .sl (tR x.cls), .sl (iR x.par), .sl (iR x.fst), .sl (iR x.nx), .sl (iR x.en), .sl (tR x.fil), .sl (iR x.tgt), I x.dflt]] = (B true, []) := rfl
  have hPi : F44.pre [.agg [.v (.string x.name), .sl (tR x.cls), .sl (iR x.par), .sl (iR x.fst), .sl (iR x.nx), .sl (iR x.en), .sl (tR x.fil), .sl (iR x.tgt), I x.dflt], .agg [I p.id, I p.src, I p.dst, I p.port, I p.mark, I p.size]] := F44_mk x p hok
  have hR0 : ∃ a b, ibX (isLd x && (pkOk p && decide (0 ≤ lfI x p))) (lfI x p) = .tup [I a, B b] := by
    unfold ibX
    split
    · exact ⟨_, _, rfl⟩
    · exact ⟨_, _, rfl⟩
  obtain ⟨a, b, hK⟩ := hR0
  have hRi : F44.res [.agg [.v (.string x.name), .sl (tR x.cls), .sl (iR x.par), .sl (iR x.fst), .sl (iR x.nx), .sl (iR x.en), .sl (tR x.fil), .sl (iR x.tgt), I x.dflt], .agg [I p.id, I p.src, I p.dst, I p.port, I p.mark, I p.size]] = (.tup [I a, B b], []) := (F44_res x p).trans (by rw [hK])
  simp only [Tryz.f11, bodyOf, Option.getD_some]
  refine Snd.seqpu ?_
  simp -implicitDefEqProofs [List.lookup_cons, eS, lO, lOb, obCls, obFil, iOb, pl2T, pnT, hPz, hRz, hPt, hRt, hPe, hRe, hPi, e1, e1', pur2_tup, pur2_b, pur2_i, pur2_sl, pur_sl, pur_b, pur_v, pur_oslE, F43, hRi]
  refine Snd.seqpu ?_
  simp -implicitDefEqProofs [List.lookup_cons, eS, lO, lOb, obCls, obFil, iOb, pl2T, pnT, hPz, hRz, hPt, hRt, hPe, hRe, hPi, e1, e1', pur2_tup, pur2_b, pur2_i, pur2_sl, pur_sl, pur_b, pur_v, pur_oslE, F43, hRi]
  refine Snd.seqpu ?_
  simp -implicitDefEqProofs [List.lookup_cons, eS, lO, lOb, obCls, obFil, iOb, pl2T, pnT, hPz, hRz, hPt, hRt, hPe, hRe, hPi, e1, e1', pur2_tup, pur2_b, pur2_i, pur2_sl, pur_sl, pur_b, pur_v, pur_oslE, F43, hRi]
  refine Snd.seqpu ?_
  simp -implicitDefEqProofs [List.lookup_cons, eS, lO, lOb, obCls, obFil, iOb, pl2T, pnT, hPz, hRz, hPt, hRt, hPe, hRe, hPi, e1, e1', pur2_tup, pur2_b, pur2_i, pur2_sl, pur_sl, pur_b, pur_v, pur_oslE, F43, hRi]
  refine Snd.seqpu ?_
  simp -implicitDefEqProofs [List.lookup_cons, eS, lO, lOb, obCls, obFil, iOb, pl2T, pnT, hPz, hRz, hPt, hRt, hPe, hRe, hPi, e1, e1', pur2_tup, pur2_b, pur2_i, pur2_sl, pur_sl, pur_b, pur_v, pur_oslE, F43, hRi]
  refine drawP_pu _ (by decide) ?_
  simp -implicitDefEqProofs [List.lookup_cons, eS, lO, lOb, obCls, obFil, iOb, pl2T, pnT, hPz, hRz, hPt, hRt, hPe, hRe, hPi, e1, e1', pur2_tup, pur2_b, pur2_i, pur2_sl, pur_sl, pur_b, pur_v, pur_oslE, F43, hRi]
  refine Snd.seqpu ?_
  simp -implicitDefEqProofs [List.lookup_cons, eS, lO, lOb, obCls, obFil, iOb, pl2T, pnT, hPz, hRz, hPt, hRt, hPe, hRe, hPi, e1, e1', pur2_tup, pur2_b, pur2_i, pur2_sl, pur_sl, pur_b, pur_v, pur_oslE, F43, hRi]
  refine Snd.seqpu ?_
  simp -implicitDefEqProofs [List.lookup_cons, eS, lO, lOb, obCls, obFil, iOb, pl2T, pnT, hPz, hRz, hPt, hRt, hPe, hRe, hPi, e1, e1', pur2_tup, pur2_b, pur2_i, pur2_sl, pur_sl, pur_b, pur_v, pur_oslE, F43, hRi]
  refine drawP_pu _ (by decide) ?_
  simp -implicitDefEqProofs [List.lookup_cons, eS, lO, lOb, obCls, obFil, iOb, pl2T, pnT, hPz, hRz, hPt, hRt, hPe, hRe, hPi, e1, e1', pur2_tup, pur2_b, pur2_i, pur2_sl, pur_sl, pur_b, pur_v, pur_oslE, F43, hRi]
  refine Snd.seqpu ?_
  simp -implicitDefEqProofs [List.lookup_cons, eS, lO, lOb, obCls, obFil, iOb, pl2T, pnT, hPz, hRz, hPt, hRt, hPe, hRe, hPi, e1, e1', pur2_tup, pur2_b, pur2_i, pur2_sl, pur_sl, pur_b, pur_v, pur_oslE, F43, hRi]
  refine Snd.seqpu ?_
  simp -implicitDefEqProofs [List.lookup_cons, eS, lO, lOb, obCls, obFil, iOb, pl2T, pnT, hPz, hRz, hPt, hRt, hPe, hRe, hPi, e1, e1', pur2_tup, pur2_b, pur2_i, pur2_sl, pur_sl, pur_b, pur_v, pur_oslE, F43, hRi]
  refine drawP_pu _ (by decide) ?_
  simp -implicitDefEqProofs [List.lookup_cons, eS, lO, lOb, obCls, obFil, iOb, pl2T, pnT, hPz, hRz, hPt, hRt, hPe, hRe, hPi, e1, e1', pur2_tup, pur2_b, pur2_i, pur2_sl, pur_sl, pur_b, pur_v, pur_oslE, F43, hRi]
  refine Snd.of ?_
  simp -implicitDefEqProofs [List.lookup_cons, eS, lO, lOb, obCls, obFil, iOb, pl2T, pnT, hPz, hRz, hPt, hRt, hPe, hRe, hPi, e1, e1', pur2_tup, pur2_b, pur2_i, pur2_sl, pur_sl, pur_b, pur_v, pur_oslE, F43, hRi]
  refine fin_pure (by simp) ?_
  simp -implicitDefEqProofs [fS, rn0, pickObs, deI]
end Go.Proofs
