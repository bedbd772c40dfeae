/-
  What is proved here: contracts of all ten conditions, and of IsConfig. Condition: none.
-/
import Derived.Test.YtglbimhhiikkpaaDoorC5r
namespace Go.Proofs
open Go.Abs
set_option linter.unusedSimpArgs false
set_option linter.unnecessarySimpa false
set_option linter.unusedVariables false
set_option maxHeartbeats 8000000
set_option maxRecDepth 20000

@[simp] theorem isName_pre (b : ByteArray) : F99.pre [.v (.string b)] = (b.size ≤ 1048576) := by
  refine propext ⟨?_, fun h => ⟨b, rfl, h⟩⟩
  rintro ⟨s, hs, h⟩
  simp [Sx] at hs
  subst hs; exact h
@[simp] theorem isName_res (b : ByteArray) : F99.res [.v (.string b)] = (B (nmOk b), []) := rfl
/-! ### one function, called with this or that function value -/
def fnOf : X → Nat
  | .fn g _ => g
  | _ => 0
@[simp] theorem fnOf_fn (g : Nat) (c : List X) : fnOf (.fn g c) = g := rfl
def FOr (g : Nat) (F1 F2 : Fun) : Fun := ⟨fun xs => (fnOf (xs.getD 1 .top) = g ∧ F1.pre xs) ∨ (fnOf (xs.getD 1 .top) ≠ g ∧ F2.pre xs), fun xs => if fnOf (xs.getD 1 .top) = g then F1.res xs else F2.res xs⟩
theorem genOr {A : List (Nat × List X)} {P : Program} {f g : Nat} {F1 F2 : Fun} (h1 : GenCA A P f F1) (h2 : GenCA A P f F2) : GenCA A P f (FOr g F1 F2) := by
  refine ⟨h1.1, fun w S vs xs hpre hl hr hS hA => ?_⟩
  rcases hpre with ⟨e, h⟩ | ⟨e, h⟩
  · have e2 : (FOr g F1 F2).res xs = F1.res xs := if_pos e
    rw [e2]; exact h1.2 w S vs xs h hl hr hS hA
  · have e2 : (FOr g F1 F2).res xs = F2.res xs := if_neg e
    rw [e2]; exact h2.2 w S vs xs h hl hr hS hA
def FH : Fun := FOr 124 (FCt 124 cp0 prR1) (FCt 127 cp0 prR2)
theorem cH : GenCA K Tryd.prog 123 FH := genOr (cCtCls 124 cp0 prR1 cp0_pu c124) (cCtCls 127 cp0 prR2 cp0_pu c127)
theorem anyR1 (l : List Cls) : l.any (prR1 []) = !l.all Cls.rateOk := by simp [List.not_all_eq_any_not]; rfl
theorem anyR2 (l : List Cls) : l.any (prR2 []) = !l.all Cls.burstOk := by simp [List.not_all_eq_any_not]; rfl
def F80 : Fun := ⟨fun xs => xs = [.agg (cX (deC (xs.getD 0 .top) : Cfg)), I (deI (xs.getD 1 .top) : Int)] ∧ (fun (c : Cfg) (k : Int) => (okC c)) (deC (xs.getD 0 .top) : Cfg) (deI (xs.getD 1 .top) : Int), fun xs => (fun (c : Cfg) (k : Int) => ((B (hc c k), []) : X × List Ob)) (deC (xs.getD 0 .top) : Cfg) (deI (xs.getD 1 .top) : Int)⟩
theorem F80_in {xs : List X} (h : F80.pre xs) : ∃ (c : Cfg) (k : Int), xs = [.agg (cX c), I k] ∧ (okC c) := ⟨_, _, h.1, h.2⟩
theorem F80_res (c : Cfg) (k : Int) : F80.res [.agg (cX c), I k] = (B (hc c k), []) := by simp [F80]
theorem F80_mk (c : Cfg) (k : Int) (h : okC c) : F80.pre [.agg (cX c), I k] := by simpa [F80] using h
theorem c80 : GenCA K Tryd.prog 80 F80 := by
  refine contractA Tryd.mix K [(99, F99), (120, F120), (121, F121), (122, F122), (125, F125), (126, F126.pu), (128, F128), (129, F129), (89, F89), (123, FH)] [] (by simp [c99, c120, c121, c122, c125, c126.pu, c128, c129, c89, cH]) (by simp) Tryd.func80 rfl (by decide) ?_
  intro xs hxs
  obtain ⟨c, k, rfl, hp⟩ := F80_in hxs
  rw [F80_res]
  refine ⟨by rw [Tryd.ntmps80]; simp, ?_⟩
  by_cases h1 : k = 1
  · subst h1
    simp -implicitDefEqProofs [Tryd.f80, List.lookup_cons, and_assoc, pick_and, pick_or, if_and, if_or, hp.2.2]
    refine fin_pure (by simp) ?_
    simp -implicitDefEqProofs [pur2_i, pur2_b, pur2_s, pur2_nil, pur2_sl, pur2_tup, rn2_tup, rn2_agg, rn2_osl, rn1_v, rn1_osl, rn1_agg, rn0_v, rn0_sl, rn0, pickObs, pur_v, pur_b, pur_s, pur_nil, pur_sl, deI, deIs_sl, hc]
  by_cases h2 : k = 2
  · subst h2
    simp -implicitDefEqProofs [Tryd.f80, List.lookup_cons, and_assoc, pick_and, pick_or, if_and, if_or, F120, hp]
    refine fin_pure (by simp) ?_
    simp -implicitDefEqProofs [pur2_i, pur2_b, pur2_s, pur2_nil, pur2_sl, pur2_tup, rn2_tup, rn2_agg, rn2_osl, rn1_v, rn1_osl, rn1_agg, rn0_v, rn0_sl, rn0, pickObs, pur_v, pur_b, pur_s, pur_nil, pur_sl, deI, deIs_sl, hc]
  by_cases h3 : k = 3
  · subst h3
    simp -implicitDefEqProofs [Tryd.f80, List.lookup_cons, and_assoc, pick_and, pick_or, if_and, if_or, F121, hp]
    refine fin_pure (by simp) ?_
    simp -implicitDefEqProofs [pur2_i, pur2_b, pur2_s, pur2_nil, pur2_sl, pur2_tup, rn2_tup, rn2_agg, rn2_osl, rn1_v, rn1_osl, rn1_agg, rn0_v, rn0_sl, rn0, pickObs, pur_v, pur_b, pur_s, pur_nil, pur_sl, deI, deIs_sl, hc]
  by_cases h4 : k = 4
  · subst h4
    simp -implicitDefEqProofs [Tryd.f80, List.lookup_cons, and_assoc, pick_and, pick_or, if_and, if_or, F122, hp]
    refine fin_pure (by simp) ?_
    simp -implicitDefEqProofs [pur2_i, pur2_b, pur2_s, pur2_nil, pur2_sl, pur2_tup, rn2_tup, rn2_agg, rn2_osl, rn1_v, rn1_osl, rn1_agg, rn0_v, rn0_sl, rn0, pickObs, pur_v, pur_b, pur_s, pur_nil, pur_sl, deI, deIs_sl, hc]
  by_cases h5 : k = 5
  · subst h5
    simp -implicitDefEqProofs [Tryd.f80, List.lookup_cons, and_assoc, pick_and, pick_or, if_and, if_or, FH, FOr, FCt, FIx, anyR1, anyR2, hp.1]
    refine fin_pure (by simp) ?_
    simp -implicitDefEqProofs [pur2_i, pur2_b, pur2_s, pur2_nil, pur2_sl, pur2_tup, rn2_tup, rn2_agg, rn2_osl, rn1_v, rn1_osl, rn1_agg, rn0_v, rn0_sl, rn0, pickObs, pur_v, pur_b, pur_s, pur_nil, pur_sl, deI, deIs_sl, hc]
  by_cases h6 : k = 6
  · subst h6
    have h6e := c6_eq c.cls
    cases hr : rtsOk c.cls with
    | false =>
      simp -implicitDefEqProofs [Tryd.f80, List.lookup_cons, and_assoc, pick_and, pick_or, if_and, if_or, F125, F126, hp, hr]
      refine fin_pure (by simp) ?_
      simp -implicitDefEqProofs [pur2_i, pur2_b, pur2_s, pur2_nil, pur2_sl, pur2_tup, rn2_tup, rn2_agg, rn2_osl, rn1_v, rn1_osl, rn1_agg, rn0_v, rn0_sl, rn0, pickObs, pur_v, pur_b, pur_s, pur_nil, pur_sl, deI, deIs_sl, hc, h6e, hr]
    | true =>
      simp -implicitDefEqProofs [Tryd.f80, List.lookup_cons, and_assoc, pick_and, pick_or, if_and, if_or, F125, F126, hp, hr, iOb]
      refine fin_pure (by simp) ?_
      simp -implicitDefEqProofs [pur2_i, pur2_b, pur2_s, pur2_nil, pur2_sl, pur2_tup, rn2_tup, rn2_agg, rn2_osl, rn1_v, rn1_osl, rn1_agg, rn0_v, rn0_sl, rn0, pickObs, pur_v, pur_b, pur_s, pur_nil, pur_sl, deI, deIs_sl, hc, h6e, hr]
      rw [Bool.eq_iff_iff]
      simp
  by_cases h7 : k = 7
  · subst h7
    simp -implicitDefEqProofs [Tryd.f80, List.lookup_cons, and_assoc, pick_and, pick_or, if_and, if_or, FH, FOr, FCt, FIx, anyR1, anyR2, hp.1]
    refine fin_pure (by simp) ?_
    simp -implicitDefEqProofs [pur2_i, pur2_b, pur2_s, pur2_nil, pur2_sl, pur2_tup, rn2_tup, rn2_agg, rn2_osl, rn1_v, rn1_osl, rn1_agg, rn0_v, rn0_sl, rn0, pickObs, pur_v, pur_b, pur_s, pur_nil, pur_sl, deI, deIs_sl, hc]
  by_cases h9 : k = 9
  · subst h9
    simp -implicitDefEqProofs [Tryd.f80, List.lookup_cons, and_assoc, pick_and, pick_or, if_and, if_or, F129, hp]
    refine fin_pure (by simp) ?_
    simp -implicitDefEqProofs [pur2_i, pur2_b, pur2_s, pur2_nil, pur2_sl, pur2_tup, rn2_tup, rn2_agg, rn2_osl, rn1_v, rn1_osl, rn1_agg, rn0_v, rn0_sl, rn0, pickObs, pur_v, pur_b, pur_s, pur_nil, pur_sl, deI, deIs_sl, hc]
  by_cases h8 : k = 8
  · subst h8
    have hl := hp.1
    simp -implicitDefEqProofs [Tryd.f80, List.lookup_cons, and_assoc, pick_and, pick_or, if_and, if_or, F128]
    refine loopP_inv (fun n : Nat => ⟨72, tl [(2, .optr 0 0 0 0), (49, .sl (tR c.cls)), (50, I c.cls.length), (51, I n)], [cBx c]⟩) (fun n => n ≤ c.cls.length ∧ (List.range n).all (limOk c.cls) = true) (fun n => c.cls.length - n) 0 (by simp) (Wk.tl (by simp [hold, upd, tl_cons])) ?_
    rintro n ⟨hn, ha⟩
    by_cases h : n < c.cls.length
    · have hw1 := w64n (show n < 4611686018427387904 by omega)
      have hokI : okI c n := ⟨hp, by omega, by omega⟩
      cases hr : limOk c.cls n with
      | false =>
        have hb : cn8 c.cls = false := all_rb _ _ n h hr
        simp -implicitDefEqProofs [List.lookup_cons, and_assoc, pick_and, pick_or, if_and, if_or, h, cBx, hokI, hr]
        refine fin_pure (by simp) ?_
        simp -implicitDefEqProofs [pur2_i, pur2_b, pur2_s, pur2_nil, pur2_sl, pur2_tup, rn2_tup, rn2_agg, rn2_osl, rn1_v, rn1_osl, rn1_agg, rn0_v, rn0_sl, rn0, pickObs, pur_v, pur_b, pur_s, pur_nil, pur_sl, deI, deIs_sl, hc, hb]
      | true =>
        have hg : (List.range (n + 1)).all (limOk c.cls) = true := by rw [all_r, ha, hr]; rfl
        simp -implicitDefEqProofs [List.lookup_cons, and_assoc, pick_and, pick_or, if_and, if_or, h, cBx, hokI, hr]
        refine ⟨n + 1, by omega, by simpa using hg, by omega, ?_⟩
        exact Wk.tl (by simp [hold, upd, tl_cons, hw1])
    · have e : n = c.cls.length := by omega
      subst e
      have hb : cn8 c.cls = true := ha
      simp -implicitDefEqProofs [List.lookup_cons, and_assoc, pick_and, pick_or, if_and, if_or, cBx]
      refine fin_pure (by simp) ?_
      simp -implicitDefEqProofs [pur2_i, pur2_b, pur2_s, pur2_nil, pur2_sl, pur2_tup, rn2_tup, rn2_agg, rn2_osl, rn1_v, rn1_osl, rn1_agg, rn0_v, rn0_sl, rn0, pickObs, pur_v, pur_b, pur_s, pur_nil, pur_sl, deI, deIs_sl, hc, hb]
  by_cases hd : c.dflt = 0
  · simp -implicitDefEqProofs [Tryd.f80, List.lookup_cons, and_assoc, pick_and, pick_or, if_and, if_or, F89, h1, h2, h3, h4, h5, h6, h7, h8, h9, hd]
    refine fin_pure (by simp) ?_
    simp -implicitDefEqProofs [pur2_i, pur2_b, pur2_s, pur2_nil, pur2_sl, pur2_tup, rn2_tup, rn2_agg, rn2_osl, rn1_v, rn1_osl, rn1_agg, rn0_v, rn0_sl, rn0, pickObs, pur_v, pur_b, pur_s, pur_nil, pur_sl, deI, deIs_sl, hc, h1, h2, h3, h4, h5, h6, h7, h8, h9, hd]
  · simp -implicitDefEqProofs [Tryd.f80, List.lookup_cons, and_assoc, pick_and, pick_or, if_and, if_or, F89, h1, h2, h3, h4, h5, h6, h7, h8, h9, hd, hp]
    refine fin_pure (by simp) ?_
    simp -implicitDefEqProofs [pur2_i, pur2_b, pur2_s, pur2_nil, pur2_sl, pur2_tup, rn2_tup, rn2_agg, rn2_osl, rn1_v, rn1_osl, rn1_agg, rn0_v, rn0_sl, rn0, pickObs, pur_v, pur_b, pur_s, pur_nil, pur_sl, deI, deIs_sl, hc, h1, h2, h3, h4, h5, h6, h7, h8, h9, hd]
def F44 : Fun := ⟨fun xs => xs = [.agg (cX (deC (xs.getD 0 .top) : Cfg))] ∧ (fun (c : Cfg) => (okC c)) (deC (xs.getD 0 .top) : Cfg), fun xs => (fun (c : Cfg) => ((B (isCfg c), []) : X × List Ob)) (deC (xs.getD 0 .top) : Cfg)⟩
theorem F44_in {xs : List X} (h : F44.pre xs) : ∃ (c : Cfg), xs = [.agg (cX c)] ∧ (okC c) := ⟨_, h.1, h.2⟩
theorem F44_res (c : Cfg) : F44.res [.agg (cX c)] = (B (isCfg c), []) := by simp [F44]
theorem F44_mk (c : Cfg) (h : okC c) : F44.pre [.agg (cX c)] := by simpa [F44] using h
theorem c44 : GenCA K Tryd.prog 44 F44 := by
  refine contractA Tryd.mix K [(80, F80)] [] (by simp [c80]) (by simp) Tryd.func44 rfl (by decide) ?_
  intro xs hxs
  obtain ⟨c, rfl, hp⟩ := F44_in hxs
  rw [F44_res]
  refine ⟨by rw [Tryd.ntmps44]; simp, ?_⟩
  by_cases h24 : (24 : Int) < (c.cls.length : Int)
  · have e : isCfg c = false := by
      have : ¬ c.cls.length ≤ 24 := by omega
      simp [isCfg, this]
    simp -implicitDefEqProofs [Tryd.f44, F80, List.lookup_cons, and_assoc, pick_and, pick_or, if_and, if_or, h24]
    refine fin_pure (by simp) ?_
    simp -implicitDefEqProofs [pur2_i, pur2_b, pur2_s, pur2_nil, pur2_sl, pur2_tup, rn2_tup, rn2_agg, rn2_osl, rn1_v, rn1_osl, rn1_agg, rn0_v, rn0_sl, rn0, pickObs, pur_v, pur_b, pur_s, pur_nil, pur_sl, deI, deIs_sl, e]
  by_cases h16 : (16 : Int) < (c.fil.length : Int)
  · have e : isCfg c = false := by
      have : ¬ c.fil.length ≤ 16 := by omega
      simp [isCfg, this]
    simp -implicitDefEqProofs [Tryd.f44, F80, List.lookup_cons, and_assoc, pick_and, pick_or, if_and, if_or, h24, h16]
    refine fin_pure (by simp) ?_
    simp -implicitDefEqProofs [pur2_i, pur2_b, pur2_s, pur2_nil, pur2_sl, pur2_tup, rn2_tup, rn2_agg, rn2_osl, rn1_v, rn1_osl, rn1_agg, rn0_v, rn0_sl, rn0, pickObs, pur_v, pur_b, pur_s, pur_nil, pur_sl, deI, deIs_sl, e]
  simp -implicitDefEqProofs [Tryd.f44, List.lookup_cons, and_assoc, pick_and, pick_or, if_and, if_or, h24, h16]
  refine loopP_inv (fun n : Nat => ⟨22, tl [(1, .optr 0 0 0 0), (3, I ((n : Int) + 1))], [cBx c]⟩) (fun n => n ≤ 10 ∧ hcUp c n = true) (fun n => 10 - n) 0 (by simp [hcUp]) (Wk.tl (by simp [hold, upd, tl_cons])) ?_
  rintro n ⟨hn, ha⟩
  by_cases h : n < 10
  · have hw2 : IntKind.i64.wrap ((n : Int) + 1 + 1) = (n : Int) + 1 + 1 := w64 (by omega) (by omega)
    have hi : (n : Int) + 1 ≤ 10 := by omega
    cases hr : hc c ((n : Int) + 1) with
    | false =>
      have hb := hcUp_bad c n h hr
      simp -implicitDefEqProofs [List.lookup_cons, and_assoc, pick_and, pick_or, if_and, if_or, hi, cBx, hp, F80, hr]
      refine fin_pure (by simp) ?_
      simp -implicitDefEqProofs [pur2_i, pur2_b, pur2_s, pur2_nil, pur2_sl, pur2_tup, rn2_tup, rn2_agg, rn2_osl, rn1_v, rn1_osl, rn1_agg, rn0_v, rn0_sl, rn0, pickObs, pur_v, pur_b, pur_s, pur_nil, pur_sl, deI, deIs_sl, hb]
    | true =>
      have hg : hcUp c (n + 1) = true := by rw [hcUp_succ, ha, hr]; rfl
      simp -implicitDefEqProofs [List.lookup_cons, and_assoc, pick_and, pick_or, if_and, if_or, hi, cBx, hp, F80, hr]
      refine ⟨n + 1, by omega, hg, by omega, ?_⟩
      exact Wk.tl (by simp [hold, upd, tl_cons, hw2])
  · have e : n = 10 := by omega
    subst e
    have e : isCfg c = true := by
      have e1 : c.cls.length ≤ 24 := by omega
      have e2 : c.fil.length ≤ 16 := by omega
      simp [isCfg, e1, e2, ha]
    simp -implicitDefEqProofs [List.lookup_cons, and_assoc, pick_and, pick_or, if_and, if_or, cBx]
    refine fin_pure (by simp) ?_
    simp -implicitDefEqProofs [pur2_i, pur2_b, pur2_s, pur2_nil, pur2_sl, pur2_tup, rn2_tup, rn2_agg, rn2_osl, rn1_v, rn1_osl, rn1_agg, rn0_v, rn0_sl, rn0, pickObs, pur_v, pur_b, pur_s, pur_nil, pur_sl, deI, deIs_sl, e]
end Go.Proofs
