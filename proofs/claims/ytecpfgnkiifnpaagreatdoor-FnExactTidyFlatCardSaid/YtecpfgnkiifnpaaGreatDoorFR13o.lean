/-
  What is proved here: the contract of the reference's reading of the words of a line. Condition: none.
-/
import Derived.Test.YtecpfgnkiifnpaaGreatDoorFRe
import Derived.Test.YtecpfgnkiifnpaaGreatDoorLBN
import Derived.Test.YtecpfgnkiifnpaaGreatDoorFP4b
namespace Go.Proofs
open Go.Abs Go.Flat
set_option linter.unusedSimpArgs false
set_option linter.unnecessarySimpa false
set_option linter.unusedVariables false
set_option maxHeartbeats 8000000
set_option maxRecDepth 20000
def nmF : ByteArray → Bool := nmOk
def okW (w : ByteArray) : Prop := True
def rsX : Rs (List Int) → X × List Ob
  | .ok l => (.tup [.sl (iR l), .agg [I 0, I 0]], [])
  | .er k a => (.tup [.sl [], .agg [I k, I a]], [])
def F48 : Fun := ⟨fun xs => ∃ (w : ByteArray) (gs : List ByteArray) (a : Nat), xs = [.sl (sR (w :: gs)), I a] ∧ okW w ∧ a ≤ 1048576 ∧ w.size ≤ 1048576 ∧ gs.length ≤ 1048576 ∧ ∀ g ∈ gs, g.size ≤ 1048576,
  fun xs => rsX (lgR nmF (wordsW ((deSs (xs.getD 0 .top)).getD 0 noW)) ((deSs (xs.getD 0 .top)).drop 1) (deI (xs.getD 1 .top) + ((deSs (xs.getD 0 .top)).getD 0 noW).size) [])⟩
theorem lgRead_res (w : ByteArray) (gs : List ByteArray) (a : Nat) : F48.res [.sl (sR (w :: gs)), I a] = rsX (lgR nmF (wordsW w) gs ((a : Int) + w.size) []) := by simp [F48, deSs_sl, deI]
theorem c48 : GenCA K Tryz.prog 48 F48 := by
  refine contractA Tryz.mix K [(82, Fr82), (25, F25), (83, F83), (28, F71)] [] (by simp [cr82, c25, c83, c28]) (by simp) Tryz.func48 rfl (by decide) ?_
  rintro xs ⟨w, gs, a, rfl, hW, ha, hwz, hgl, hgs⟩
  rw [lgRead_res]
  refine ⟨by rw [Tryz.ntmps48]; simp, ?_⟩
  have pl : Fr82.pre [.v (.string w)] := ⟨w, rfl⟩
  have ql : Fr82.res [.v (.string w)] = (.sl (sR (wordsW w)), []) := rfl
  have pv : ∀ k b : Int, F25.pre [I k, I b] := fun k b => ⟨k, b, rfl⟩
  have qv : ∀ k b : Int, F25.res [I k, I b] = (.agg [I k, I b], []) := fun k b => rfl
  have hWl := wordsW_len w
  have hWA : okW w → wA ∈ wordsW w → okW w := fun h _ => h
  generalize hWs : wordsW w = W at *
  generalize hT : lgR nmF W gs ((a : Int) + w.size) [] = T
  have hw0 : IntKind.i64.wrap ((a : Int) + w.size) = ((a + w.size : Nat) : Int) := by rw [w64 (by omega) (by omega)]; omega
  simp -implicitDefEqProofs [Tryz.f48, List.lookup_cons, eS, pl, ql, sR_length, hw0]
  refine loopP_inv (fun p : Nat × List Int × Nat => ⟨100, tl [(0, .sl (sR (w :: gs))), (5, .optr 0 0 0 0), (6, .osl 1 0), (7, I p.2.2), (20, .sl (sR W)), (21, I W.length), (22, I p.1)], [⟨35, 2, 0, [[I 0, I 0]], true, true, none⟩, ⟨3, 1, 0, iR p.2.1, false, true, none⟩]⟩)
    (fun p => p.1 ≤ W.length ∧ p.1 ≤ gs.length ∧ p.2.1.length ≤ p.1 ∧ p.2.2 ≤ 2097152 + p.1 * 1048577 ∧ lgR nmF (W.drop p.1) (gs.drop p.1) (p.2.2 : Int) p.2.1 = T) (fun p => W.length - p.1) (0, [], a + w.size) ⟨Nat.zero_le _, Nat.zero_le _, Nat.zero_le _, (by dsimp only; omega), (by rw [← hT]; simp)⟩ (Wk.tlN 3 1 6 (by simp [upd]) (by simp [hold, upd, tl_cons])) ?_
  rintro ⟨k, out, p⟩ ⟨h1, h2, h3, h4, h5⟩
  dsimp only at h1 h2 h3 h4 h5 ⊢
  by_cases h : k < W.length
  · have hk14 : k ≤ 14 := by omega
    have hk1 : (0 : Int) ≤ (k : Int) + 1 := by omega
    have hp : p ≤ 20000000 := by omega
    have hw1 := w64n (show k < 4611686018427387904 by omega)
    have hwp : IntKind.i64.wrap ((p : Int) + 1) = (p : Int) + 1 := w64 (by omega) (by omega)
    have hWd : W.drop k = W[k] :: W.drop (k + 1) := List.drop_eq_getElem_cons h
    rw [hWd] at h5
    by_cases hg : k < gs.length
    · have hgd : gs.drop k = gs[k] :: gs.drop (k + 1) := List.drop_eq_getElem_cons hg
      have hgk := hgs _ (List.getElem_mem hg)
      rw [hgd] at h5
      have hgW : (w :: gs)[k + 1]? = some gs[k] := by simp [hg]
      have hle : ¬ gs.length + 1 ≤ k + 1 := by omega
      have hlei : ¬ ((gs.length : Int) + 1 ≤ (k : Int) + 1) := by omega
      generalize hgot : gs[k] = got at h5 hgk hgW
      have hwq : IntKind.i64.wrap (1 + (got.size : Int)) = 1 + (got.size : Int) := w64 (by omega) (by omega)
      have hwr : IntKind.i64.wrap ((p : Int) + (1 + (got.size : Int))) = ((p + 1 + got.size : Nat) : Int) := by rw [w64 (by omega) (by omega)]; omega
      have pa : F83.pre [.v (.string got)] := ⟨got, rfl, hgk⟩
      have qa : F83.res [.v (.string got)] = (I (rdAny got), []) := rfl
      have hWg : W[k]? = some W[k] := List.getElem?_eq_getElem h
      generalize hwant : W[k] = want at *
      by_cases hA : want = wA
      · subst hA
        have pn : F71.pre [.v (.string got)] := ⟨got, rfl, hgk⟩
        have qn : F71.res [.v (.string got)] = (B (nmOk got), []) := rfl
        rw [lgR_cons] at h5
        cases hn : nmOk got with
        | false =>
          rw [if_pos ⟨rfl, hn⟩] at h5
          rw [← h5]
          rw [hn] at qn
          simp -implicitDefEqProofs [List.lookup_cons, eS, h, hwant, hgot, hk1, hWg, hgW, hle, hlei, hg, wA, pn, qn, pv, qv, hw1, hwp, sR_get, sR_getE]
          refine fin_pure (by simp) ?_
          simp -implicitDefEqProofs [fS, rn0, pickObs, deI, rsX]
        | true =>
          rw [if_neg (fun e => by have := e.2; rw [show nmF got = nmOk got from rfl, hn] at this; cases this), if_neg (fun e => wNA e.1.symm), if_neg (fun e => wNA e.symm), if_neg (fun e => e.1 rfl)] at h5
          rw [hn] at qn
          simp -implicitDefEqProofs [List.lookup_cons, eS, h, hwant, hgot, hk1, hWg, hgW, hle, hlei, hg, wA, pn, qn, pv, qv, hw1, hwp, hwq, hwr, sR_get, sR_getE]
          refine ⟨k + 1, by omega, by omega, out, by omega, p + 1 + got.size, by omega, by rw [← h5]; congr 1, by omega, ?_⟩
          exact Wk.tl (by simp [hold, upd, tl_cons, hw1, hwr])
      by_cases hN : want = wN
      · subst hN
        simp only [lgR] at h5
        rw [if_neg (fun e => wNA e.1)] at h5
        simp only [true_and, if_true] at h5
        by_cases hv : rdAny got < 0
        · rw [if_pos hv] at h5
          rw [← h5]
          simp -implicitDefEqProofs [List.lookup_cons, eS, h, hwant, hgot, hk1, hWg, hgW, hle, hlei, hg, wN, pa, qa, hv, pv, qv, hw1, hwp, sR_get, sR_getE]
          refine fin_pure (by simp) ?_
          simp -implicitDefEqProofs [fS, rn0, pickObs, deI, rsX]
        · rw [if_neg hv] at h5
          have hv0 : 0 ≤ rdAny got := by omega
          simp -implicitDefEqProofs [List.lookup_cons, eS, h, hwant, hgot, hk1, hWg, hgW, hle, hlei, hg, wN, pa, qa, hv, hv0, pv, qv, hw1, hwp, hwq, hwr, sR_get, sR_getE, eAppend, eBuildSlice, srcRows, srcOk, chunk]
          refine ⟨by omega, by omega, k + 1, by omega, by omega, out ++ [rdAny got], by simp; omega, p + 1 + got.size, by omega, by rw [← h5]; congr 1, by omega, ?_⟩
          refine Wk.tlP [0, 1] (by simp [pickOk, -List.all_eq_true, iR_ok, ok0]) ?_ ?_
          · simp [pickObs, iR]
          · simp [hold, upd, tl_cons, rn1, rn0, hw1, hwr]
      · have gA : (want.toList == [65]) = false := by simpa using (toL_ne hA : ¬ want.toList = [65])
        have gN : (want.toList == [78]) = false := by simpa using (toL_ne hN : ¬ want.toList = [78])
        simp only [lgR] at h5
        rw [if_neg (fun e => hA e.1), if_neg (fun e => hN e.1), if_neg hN] at h5
        by_cases hq : got = want
        · rw [if_neg (fun e => e.2 hq)] at h5
          subst hq
          simp -implicitDefEqProofs [List.lookup_cons, eS, h, hwant, hgot, hk1, hWg, hgW, hle, hlei, hg, gA, gN, pv, qv, hw1, hwp, hwq, hwr, sR_get, sR_getE]
          refine ⟨k + 1, by omega, by omega, out, by omega, p + 1 + got.size, by omega, by rw [← h5]; congr 1, by omega, ?_⟩
          exact Wk.tl (by simp [hold, upd, tl_cons, hw1, hwr])
        · rw [if_pos ⟨hA, hq⟩] at h5
          rw [← h5]
          have gq : (got.toList == want.toList) = false := by simpa using (fun e => hq (toL_inj.1 e) : ¬ got.toList = want.toList)
          simp -implicitDefEqProofs [List.lookup_cons, eS, h, hwant, hgot, hk1, hWg, hgW, hle, hlei, hg, gA, gN, hq, gq, pv, qv, hw1, hwp, sR_get, sR_getE]
          refine fin_pure (by simp) ?_
          simp -implicitDefEqProofs [fS, rn0, pickObs, deI, rsX]
    · have hgd : gs.drop k = [] := List.drop_eq_nil_iff.2 (by omega)
      rw [hgd] at h5
      simp only [lgR] at h5
      rw [← h5]
      have hge : gs.length + 1 ≤ k + 1 := by omega
      have hgei : (gs.length : Int) + 1 ≤ (k : Int) + 1 := by omega
      simp -implicitDefEqProofs [List.lookup_cons, eS, h, hk1, hge, hgei, sR_get, sR_getE, hw1, pv, qv]
      refine fin_pure (by simp) ?_
      simp -implicitDefEqProofs [fS, rn0, pickObs, deI, rsX]
  · have ek : k = W.length := by omega
    subst ek
    rw [List.drop_length] at h5
    have hwp : IntKind.i64.wrap ((p : Int) + 1) = (p : Int) + 1 := w64 (by omega) (by omega)
    have hwW : IntKind.i64.wrap ((W.length : Int) + 1) = (W.length : Int) + 1 := w64 (by omega) (by omega)
    by_cases hg : W.length < gs.length
    · have hgd : gs.drop W.length = gs[W.length] :: gs.drop (W.length + 1) := List.drop_eq_getElem_cons hg
      rw [hgd] at h5
      simp only [lgR] at h5
      rw [← h5]
      have hgi : ((W.length : Int) + 1 < (gs.length : Int) + 1) := by omega
      simp -implicitDefEqProofs [List.lookup_cons, eS, hg, hgi, hwp, hwW, pl, ql, pv, qv, sR_get, sR_getE]
      refine fin_pure (by simp) ?_
      simp -implicitDefEqProofs [fS, rn0, pickObs, deI, rsX]
    · have hgd : gs.drop W.length = [] := List.drop_eq_nil_iff.2 (by omega)
      rw [hgd] at h5
      simp only [lgR] at h5
      rw [← h5]
      have hgi : ¬ ((W.length : Int) + 1 < (gs.length : Int) + 1) := by omega
      simp -implicitDefEqProofs [List.lookup_cons, eS, hg, hgi, hwp, hwW, pl, ql, pv, qv, sR_get, sR_getE]
      refine fin_pure (by simp) ?_
      simp -implicitDefEqProofs [fS, rn0, pickObs, deI, rsX]
end Go.Proofs
