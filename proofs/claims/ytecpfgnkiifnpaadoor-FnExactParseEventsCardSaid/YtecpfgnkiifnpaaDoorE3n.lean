/-
  What is proved here: the contract of the check of lists of events that keeps tables. Condition: none.
-/
import Derived.Test.YtecpfgnkiifnpaaDoorE2n
namespace Go.Proofs
open Go.Abs
set_option linter.unusedSimpArgs false
set_option linter.unnecessarySimpa false
set_option linter.unusedVariables false
set_option maxHeartbeats 8000000
set_option maxRecDepth 20000
def F61 : Fun := ⟨fun xs => xs = [.sl (tR (deT (xs.getD 0 .top) : List Evt))] ∧ (fun (l : List Evt) => (l.length ≤ 1048576)) (deT (xs.getD 0 .top) : List Evt), fun xs => (fun (l : List Evt) => ((B (evsOk l), []) : X × List Ob)) (deT (xs.getD 0 .top) : List Evt)⟩
theorem F61_in {xs : List X} (h : F61.pre xs) : ∃ (l : List Evt), xs = [.sl (tR l)] ∧ (l.length ≤ 1048576) := ⟨_, h.1, h.2⟩
theorem F61_res (l : List Evt) : F61.res [.sl (tR l)] = (B (evsOk l), []) := by simp [F61]
theorem F61_mk (l : List Evt) (h : l.length ≤ 1048576) : F61.pre [.sl (tR l)] := by simpa [F61] using h
theorem c61 : GenCA K Tryd.prog 61 F61 := by
  refine contractA Tryd.mix K [(84, F84)] [] (by simp [c84]) (by simp) Tryd.func61 rfl (by decide) ?_
  intro xs hxs
  obtain ⟨l, rfl, hp⟩ := F61_in hxs
  rw [F61_res]
  refine ⟨by rw [Tryd.ntmps61]; simp, ?_⟩
  by_cases h80 : (80 : Int) < (l.length : Int)
  · have e : evsOk l = false := by simp [evsOk]; omega
    simp -implicitDefEqProofs [Tryd.f61, F84, List.lookup_cons, eS, h80]
    refine fin_pure (by simp) ?_
    simp -implicitDefEqProofs [fS, rn0, pickObs, deI, e]
  simp -implicitDefEqProofs [Tryd.f61, F84, List.lookup_cons, eS, h80]
  refine loopP_inv (fun k : Nat => ⟨85, tl [(0, .sl (tR l)), (3, .osl 0 0), (4, .osl 1 0), (14, .sl (tR l)), (15, I l.length), (16, I k)], [⟨0, 0, 0, [], true, true, some (cameL (l.take k))⟩, ⟨0, 0, 0, [], true, true, some (sentL (l.take k))⟩]⟩) (fun k => k ≤ l.length ∧ okUp l k = true) (fun k => l.length - k) 0 (by simp [okUp_zero]) (Wk.tl (by simp [hold, upd, tl_cons, cameL, sentL])) ?_
  rintro k ⟨hk, ha⟩
  by_cases h : k < l.length
  · cases hok : l[k].ok with
    | false =>
      have hbad := evsOk_bad l k h (by simp [stepOk, hok])
      simp -implicitDefEqProofs [List.lookup_cons, eS, h]
      refine drawP_all _ (by decide) ?_
      simp -implicitDefEqProofs [List.lookup_cons, eS, h, F84, hok]
      refine fin_pure (by simp) ?_
      simp -implicitDefEqProofs [fS, rn0, pickObs, deI, hbad]
    | true =>
      have hok4 : l[k].kind = 4 → (⟨l[k].tick, 4, l[k].cls, l[k].pkt, l[k].size⟩ : Evt).ok = true := fun hz => (congrArg (fun z => Evt.ok ⟨l[k].tick, z, l[k].cls, l[k].pkt, l[k].size⟩) hz).symm.trans hok
      have go : stepOk (l.take k) l[k] = true → okUp l (k + 1) = true := fun hs => by rw [okUp_succ l k h, ha, hs]; rfl
      have hT := takeS l k h
      have hw1 := w64n (show k < 4611686018427387904 by omega)
      rcases k with _ | j
      · by_cases hk4 : l[0].kind = 4
        · have hbad := evsOk_bad l 0 h (by simp [stepOk, hok, hk4, fstIn_nil])
          simp -implicitDefEqProofs [List.lookup_cons, eS, h]
          refine drawP_all _ (by decide) ?_
          simp -implicitDefEqProofs [List.lookup_cons, eS, h, F84, hok, cameL_lookup, fstIn_nil, cst_ev0, sentL_lookup, outIn_nil, hk4, hok4 hk4]
          refine fin_pure (by simp) ?_
          simp -implicitDefEqProofs [fS, rn0, pickObs, deI, hbad]
        · simp -implicitDefEqProofs [List.lookup_cons, eS, h]
          refine drawP_all _ (by decide) ?_
          simp -implicitDefEqProofs [List.lookup_cons, eS, h, F84, hok, cameL_lookup, fstIn_nil, cst_ev0, sentL_lookup, outIn_nil, hk4]
          have hC := cameL_in (l.take 0) l[0] hk4 rfl
          have hS := sentL_in (l.take 0) l[0] hk4
          rw [← hT] at hC hS
          refine ⟨1, by omega, go (by simp [stepOk, hok, hk4, fstIn_nil]), by omega, ?_⟩
          rw [← hC, hS]
          exact Wk.tlD (m := 2) rfl (by simp [hold, upd, tl_cons, show IntKind.i64.wrap 1 = 1 from rfl]) (by simp [okL_cons, okL_nil, ok1, ok0]) (okH_em _ _ _ _ _ _ _ _ (okH_em _ _ _ _ _ _ _ _ (by simp [okH_nil])))
      · have hj : j < l.length := by omega
        have hw : IntKind.i64.wrap (j : Int) = (j : Int) := w64 (by omega) (by omega)
        have h' : (j : Int) + 1 < (l.length : Int) := by omega
        have h0 : (0 : Int) ≤ (j : Int) + 1 := by omega
        have h0' : (0 : Int) < (j : Int) + 1 := by omega
        have hw2 : IntKind.i64.wrap ((j : Int) + 1 + 1) = (j : Int) + 2 := w64 (by omega) (by omega)
        have hla : (l.take (j + 1)).getLast? = some l[j] := by simp [List.getLast?_take, hj]
        by_cases ht : l[j + 1].tick < l[j].tick
        · simp -implicitDefEqProofs [List.lookup_cons, eS, h, h', h0]
          refine drawP_all _ (by decide) ?_
          simp -implicitDefEqProofs [List.lookup_cons, eS, h, F84, hok, hw, hj, h', h0, h0', ht]
          refine fin_pure (by simp) ?_
          have hbad := evsOk_bad l (j + 1) h (by simp [stepOk, hok, hla]; omega)
          simp -implicitDefEqProofs [fS, rn0, pickObs, deI, hbad]
        · have ht' : l[j].tick ≤ l[j + 1].tick := by omega
          by_cases hk4 : l[j + 1].kind = 4
          · cases hf : fstIn (l.take (j + 1)) l[j + 1].pkt with
            | none =>
              have hbad := evsOk_bad l (j + 1) h (by simp [stepOk, hok, hk4, hf])
              simp -implicitDefEqProofs [List.lookup_cons, eS, h, h', h0]
              refine drawP_all _ (by decide) ?_
              simp -implicitDefEqProofs [List.lookup_cons, eS, h, F84, hok, hw, hj, h', h0, h0', ht, cameL_lookup, cst_look, cst_ev0, sentL_lookup, hk4, hok4 hk4, hf]
              refine fin_pure (by simp) ?_
              simp -implicitDefEqProofs [fS, rn0, pickObs, deI, hbad]
            | some x =>
              simp -implicitDefEqProofs [List.lookup_cons, eS, h, h', h0]
              refine drawP_all _ (by decide) ?_
              by_cases hm : x.kind = 1 ∧ x.cls = l[j + 1].cls ∧ x.size = l[j + 1].size
              · obtain ⟨m1, m2, m3⟩ := hm
                cases ho : outIn (l.take (j + 1)) l[j + 1].pkt with
                | true =>
                  have hbad := evsOk_bad l (j + 1) h (by simp [stepOk, hok, hk4, hf, ho])
                  simp -implicitDefEqProofs [List.lookup_cons, eS, h, F84, hok, hw, hj, h', h0, h0', ht, cameL_lookup, cst_look, Evt.cstV, sentL_lookup, hk4, hok4 hk4, hf, m1, m2, m3, ho]
                  refine fin_pure (by simp) ?_
                  simp -implicitDefEqProofs [fS, rn0, pickObs, deI, hbad]
                | false =>
                  simp -implicitDefEqProofs [List.lookup_cons, eS, h, F84, hok, hw, hj, h', h0, h0', ht, cameL_lookup, cst_look, Evt.cstV, sentL_lookup, hk4, hok4 hk4, hf, m1, m2, m3, ho]
                  have hC := cameL_out (l.take (j + 1)) l[j + 1] hk4
                  have hS := sentL_out (l.take (j + 1)) l[j + 1] hk4 ho
                  rw [← hT] at hC hS
                  refine ⟨j + 2, by omega, go (by simp [stepOk, hok, hk4, hla, ht', hf, m1, m2, m3, ho]), by omega, ?_⟩
                  rw [hC, ← hS]
                  exact Wk.tlD (m := 2) rfl (by simp [hold, upd, tl_cons, hw2]) (by simp [okL_cons, okL_nil, ok1, ok0]) (okH_em _ _ _ _ _ _ _ _ (okH_em _ _ _ _ _ _ _ _ (by simp [okH_nil])))
              · have hm' : (!decide (x.kind = 1) || !decide (x.cls = l[j + 1].cls) || x.size != l[j + 1].size) = true := by
                  simp; omega
                have hbad := evsOk_bad l (j + 1) h (by simp [stepOk, hok, hk4, hf]; omega)
                simp -implicitDefEqProofs [List.lookup_cons, eS, h, F84, hok, hw, hj, h', h0, h0', ht, cameL_lookup, cst_look, Evt.cstV, sentL_lookup, hk4, hok4 hk4, hf, hm']
                refine fin_pure (by simp) ?_
                simp -implicitDefEqProofs [fS, rn0, pickObs, deI, hbad]
          · cases hf : fstIn (l.take (j + 1)) l[j + 1].pkt with
            | none =>
              simp -implicitDefEqProofs [List.lookup_cons, eS, h, h', h0]
              refine drawP_all _ (by decide) ?_
              simp -implicitDefEqProofs [List.lookup_cons, eS, h, F84, hok, hw, hj, h', h0, h0', ht, cameL_lookup, cst_look, cst_ev0, sentL_lookup, hk4, hf]
              have hC := cameL_in (l.take (j + 1)) l[j + 1] hk4 hf
              have hS := sentL_in (l.take (j + 1)) l[j + 1] hk4
              rw [← hT] at hC hS
              refine ⟨j + 2, by omega, go (by simp [stepOk, hok, hk4, hla, ht', hf]), by omega, ?_⟩
              rw [← hC, hS]
              exact Wk.tlD (m := 2) rfl (by simp [hold, upd, tl_cons, hw2]) (by simp [okL_cons, okL_nil, ok1, ok0]) (okH_em _ _ _ _ _ _ _ _ (okH_em _ _ _ _ _ _ _ _ (by simp [okH_nil])))
            | some x =>
              have hbad := evsOk_bad l (j + 1) h (by simp [stepOk, hok, hk4, hf])
              simp -implicitDefEqProofs [List.lookup_cons, eS, h, h', h0]
              refine drawP_all _ (by decide) ?_
              simp -implicitDefEqProofs [List.lookup_cons, eS, h, F84, hok, hw, hj, h', h0, h0', ht, cameL_lookup, cst_look, Evt.cstV, sentL_lookup, hk4, hf]
              refine fin_pure (by simp) ?_
              simp -implicitDefEqProofs [fS, rn0, pickObs, deI, hbad]
  · have e : k = l.length := by omega
    subst e
    simp -implicitDefEqProofs [List.lookup_cons, eS]
    refine fin_pure (by simp) ?_
    simp -implicitDefEqProofs [fS, rn0, pickObs, deI, evsOk, ha]
    omega
end Go.Proofs
