/-
  What is proved here: contracts of the program's account, which adds to what it is handed, and of the two checks that events fit a configuration. Condition: none.
-/
import Derived.Test.YtglbimhhiikkpaaDoorE3r
import Derived.Test.YtglbimhhiikkpaaDoorE6ar
import Derived.Test.YtglbimhhiikkpaaDoorW2r
namespace Go.Proofs
open Go.Abs
set_option linter.unusedSimpArgs false
set_option linter.unnecessarySimpa false
set_option linter.unusedVariables false
set_option maxHeartbeats 8000000
set_option maxRecDepth 20000

def addL (a b : List Int) : List Int := List.zipWith (· + ·) a b
def smallL (a : List Int) : Prop := ∀ x ∈ a, -4000000 ≤ x ∧ x ≤ 4000000
def obI : List Ob → List Int
  | [ob] => deIs (.sl ob.rows)
  | _ => []
@[simp] theorem obI_one (l : List Int) : obI [iOb l] = l := by simp [obI, iOb]
def M74 : MFun := ⟨[true], fun xs obs => ∃ (l : List Evt) (c a0 a1 a2 a3 : Int), xs = [.osl 0 0, .sl (tR l), I c] ∧ obs = [iOb [a0, a1, a2, a3]] ∧ smallL [a0, a1, a2, a3] ∧ l.length ≤ 80 ∧ ∀ e ∈ l, e.ok = true,
  fun xs obs => (.tup [], [iOb (addL (obI obs) (acc4 (deT (xs.getD 1 .top)) (deI (xs.getD 2 .top))))])⟩
theorem m74 : GenMA K Tryd.prog 74 M74 := by
  refine contractMA Tryd.mix K [] [] (by simp) (by simp) Tryd.func74 rfl (by decide) ?_
  rintro xs obs us ⟨l, c, a0, a1, a2, a3, rfl, rfl, hsm, hl, hok⟩ hu
  obtain ⟨u, rfl⟩ : ∃ u, us = [u] := by simpa [List.length_eq_one_iff] using hu
  refine ⟨⟨by rw [Tryd.ntmps74]; simp, by simp, ?_⟩, ?_⟩
  · rintro (_ | j) ob hob
    · simp at hob; subst hob; exact ⟨_, rfl, rfl, rfl, rfl, rfl, rfl⟩
    · simp at hob
  simp [smallL] at hsm
  obtain ⟨⟨s0, s0'⟩, ⟨s1, s1'⟩, ⟨s2, s2'⟩, ⟨s3, s3'⟩⟩ := hsm
  simp -implicitDefEqProofs [Tryd.f74, List.lookup_cons, and_assoc, pick_and, pick_or, if_and, if_or]
  refine loopP_inv (fun k : Nat => ⟨62, tl [(0, .osl 0 0), (2, I c), (8, .sl (tR l)), (9, I l.length), (10, I k), (1000, .pin 0 0 u)], [iOb [a0 + sk (l.take k) c 1, a1 + sk (l.take k) c 2, a2 + sk (l.take k) c 4, a3 + (sk (l.take k) c 1 - sk (l.take k) c 4)]]⟩) (fun k => k ≤ l.length) (fun k => l.length - k) 0 (Nat.zero_le _) ?_ ?_
  · rw [show iOb [a0 + sk (l.take 0) c 1, a1 + sk (l.take 0) c 2, a2 + sk (l.take 0) c 4, a3 + (sk (l.take 0) c 1 - sk (l.take 0) c 4)] = iOb [a0, a1, a2, a3] by simp [sk]]
    exact Wk.tl (by simp [hold, upd, tl_cons])
  intro k hk
  by_cases h : k < l.length
  · have hT := takeS l k h
    have hw1 := w64n (show k < 4611686018427387904 by omega)
    have hke := hok l[k] (List.getElem_mem h)
    rw [Evt.ok_iff] at hke
    obtain ⟨_, _, k1, k2, _, _, z1, z2, _⟩ := hke
    have hs : ∀ q, sk (l.take (k + 1)) c q = _ := fun q => by rw [hT, sk_step]
    have hb : ∀ q, 0 ≤ sk (l.take k) c q ∧ sk (l.take k) c q ≤ 120000 := fun q => by
      have := sk_nn (l.take k) c q fun e he => hok e (List.mem_of_mem_take he)
      have h2 : ((l.take k).length : Int) ≤ 80 := by simp; omega
      omega
    have b1 := hb 1
    have b2 := hb 2
    have b4 := hb 4
    by_cases hc : l[k].cls = c
    · have hcases : l[k].kind = 1 ∨ l[k].kind = 2 ∨ l[k].kind = 3 ∨ l[k].kind = 4 := by omega
      generalize hq1 : sk (l.take k) c 1 = q1 at b1
      generalize hq2 : sk (l.take k) c 2 = q2 at b2
      generalize hq4 : sk (l.take k) c 4 = q4 at b4
      have w1 : IntKind.i64.wrap (a0 + q1 + l[k].size) = a0 + q1 + l[k].size := w64 (by omega) (by omega)
      have w2 : IntKind.i64.wrap (a1 + q2 + l[k].size) = a1 + q2 + l[k].size := w64 (by omega) (by omega)
      have w3 : IntKind.i64.wrap (a2 + q4 + l[k].size) = a2 + q4 + l[k].size := w64 (by omega) (by omega)
      have w4 : IntKind.i64.wrap (a3 + (q1 - q4) + l[k].size) = a3 + (q1 - q4) + l[k].size := w64 (by omega) (by omega)
      have w5 : IntKind.i64.wrap (a3 + (q1 - q4) - l[k].size) = a3 + (q1 - q4) - l[k].size := w64 (by omega) (by omega)
      rcases hcases with hq | hq | hq | hq
      · simp -implicitDefEqProofs [List.lookup_cons, and_assoc, pick_and, pick_or, if_and, if_or, h, hc, hq]
        refine drawP_cut _ 7 (by decide) ?_
        simp -implicitDefEqProofs [List.lookup_cons, and_assoc, pick_and, pick_or, if_and, if_or, h, hc, hq, iOb, w1, iR_cons, iR_nil]
        refine drawP_cut _ 7 (by decide) ?_
        simp -implicitDefEqProofs [List.lookup_cons, and_assoc, pick_and, pick_or, if_and, if_or, h, hc, hq, w4]
        refine ⟨k + 1, by omega, by omega, ?_⟩
        simp only [hs, hc, hq, hq1, hq2, hq4]
        simp
        rw [show a0 + (q1 + l[k].size) = a0 + q1 + l[k].size by omega, show a3 + (q1 + l[k].size - q4) = a3 + (q1 - q4) + l[k].size by omega]
        exact Wk.tlD (m := 1) rfl (by simp [hold, upd, tl_cons, hw1]) (by simp [okL_cons, okL_nil, ok1, ok0]) (by simp [okH_cons, okH_nil, ok0])
      · simp -implicitDefEqProofs [List.lookup_cons, and_assoc, pick_and, pick_or, if_and, if_or, h, hc, hq]
        refine drawP_cut _ 7 (by decide) ?_
        simp -implicitDefEqProofs [List.lookup_cons, and_assoc, pick_and, pick_or, if_and, if_or, h, hc, hq, iOb, w2, iR_cons, iR_nil]
        refine ⟨k + 1, by omega, by omega, ?_⟩
        simp only [hs, hc, hq, hq1, hq2, hq4]
        simp
        rw [show a1 + (q2 + l[k].size) = a1 + q2 + l[k].size by omega]
        exact Wk.tlD (m := 1) rfl (by simp [hold, upd, tl_cons, hw1]) (by simp [okL_cons, okL_nil, ok1, ok0]) (by simp [okH_cons, okH_nil, ok0])
      · simp -implicitDefEqProofs [List.lookup_cons, and_assoc, pick_and, pick_or, if_and, if_or, h, hc, hq]
        refine ⟨k + 1, by omega, by omega, ?_⟩
        simp only [hs, hc, hq, hq1, hq2, hq4]
        simp
        exact Wk.tlD (m := 1) rfl (by simp [hold, upd, tl_cons, hw1]) (by simp [okL_cons, okL_nil, ok1, ok0]) (okH_iR _ _ _ _ _ _ _ _ _ (by simp [okH_nil]))
      · simp -implicitDefEqProofs [List.lookup_cons, and_assoc, pick_and, pick_or, if_and, if_or, h, hc, hq]
        refine drawP_cut _ 7 (by decide) ?_
        simp -implicitDefEqProofs [List.lookup_cons, and_assoc, pick_and, pick_or, if_and, if_or, h, hc, hq, iOb, w3, iR_cons, iR_nil]
        refine drawP_cut _ 7 (by decide) ?_
        simp -implicitDefEqProofs [List.lookup_cons, and_assoc, pick_and, pick_or, if_and, if_or, h, hc, hq, w5]
        refine ⟨k + 1, by omega, by omega, ?_⟩
        simp only [hs, hc, hq, hq1, hq2, hq4]
        simp
        rw [show a2 + (q4 + l[k].size) = a2 + q4 + l[k].size by omega, show a3 + (q1 - (q4 + l[k].size)) = a3 + (q1 - q4) - l[k].size by omega]
        exact Wk.tlD (m := 1) rfl (by simp [hold, upd, tl_cons, hw1]) (by simp [okL_cons, okL_nil, ok1, ok0]) (by simp [okH_cons, okH_nil, ok0])
    · simp -implicitDefEqProofs [List.lookup_cons, and_assoc, pick_and, pick_or, if_and, if_or, h, hc]
      refine ⟨k + 1, by omega, by omega, ?_⟩
      simp only [hs, hc]
      simp
      exact Wk.tlD (m := 1) rfl (by simp [hold, upd, tl_cons, hw1]) (by simp [okL_cons, okL_nil, ok1, ok0]) (okH_iR _ _ _ _ _ _ _ _ _ (by simp [okH_nil]))
  · have e : k = l.length := by omega
    subst e
    rw [List.take_length]
    simp -implicitDefEqProofs [List.lookup_cons, and_assoc, pick_and, pick_or, if_and, if_or, iOb]
    refine finM1 0 [] (iOb [a0 + sk l c 1, a1 + sk l c 2, a2 + sk l c 4, a3 + (sk l c 1 - sk l c 4)]) (by simp [pickOk, -List.all_eq_true, iR_ok]) (by simp [iOb]) (by simp [iOb, upd, tl_cons]) ?_
    simp -implicitDefEqProofs [pur2_i, pur2_b, pur2_s, pur2_nil, pur2_sl, pur2_tup, rn2_tup, rn2_agg, rn2_osl, rn1_v, rn1_osl, rn1_agg, rn0_v, rn0_sl, rn0, pickObs, pur_v, pur_b, pur_s, pur_nil, pur_sl, deI, deIs_sl, M74, iOb, one_nil, addL, acc4, obI]

/-! ### events that fit a configuration -/
def fitB (c : Cfg) (l : List Evt) : Bool := isCfg c && evsOk l && l.all fun e => decide (e.cls = 0) || targetOk c.cls e.cls
end Go.Proofs
