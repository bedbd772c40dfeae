/-
  What is proved here: contracts of all ten conditions, and of IsConfig. Condition: none.
  What is proved here: contracts of the reference's functions by which a configuration is judged. Condition: none.
  What is proved here: contracts of the reference's judgement of a configuration. Condition: none.
  What is proved here: contracts of the reference's judgement of filters and of a configuration. Condition: none.
-/
import Derived.Test.YtecpfgnkiifnpaaGreatDoorCfB
set_option linter.unusedVariables false
set_option linter.unusedSimpArgs false
set_option linter.unnecessarySimpa false
set_option maxHeartbeats 8000000
set_option maxRecDepth 20000
namespace Go.Proofs
open Go.Abs
@[simp] theorem isName_pre (b : ByteArray) : F71.pre [.v (.string b)] = (b.size ≤ 1048576) := by
  refine propext ⟨?_, fun h => ⟨b, rfl, h⟩⟩
  rintro ⟨s, hs, h⟩
  simp [Sx] at hs
  subst hs; exact h
@[simp] theorem isName_res (b : ByteArray) : F71.res [.v (.string b)] = (B (nmOk b), []) := rfl
/-! ### one function, called with this or that function value -/
def fnOf : X → Nat
  | .fn g _ => g
  | _ => 0
@[simp] theorem fnOf_fn (g : Nat) (c : List X) : fnOf (.fn g c) = g := rfl
def FOr (g : Nat) (F1 F2 : Fun) : Fun := ⟨fun xs => (fnOf (xs.getD 1 .top) = g ∧ F1.pre xs) ∨ (fnOf (xs.getD 1 .top) ≠ g ∧ F2.pre xs), fun xs => if fnOf (xs.getD 1 .top) = g then F1.res xs else F2.res xs⟩
theorem genOr {A : List (Nat × List X)} {P : Program} {f g : Nat} {F1 F2 : Fun} (h1 : GenCA A P f F1) (h2 : GenCA A P f F2) : GenCA A P f (FOr g F1 F2) := by
  refine ⟨h1.1, fun w S vs xs hpre hl hr hS hA => ?_⟩
  rcases hpre with ⟨e, h⟩ | ⟨e, h⟩
  · have e2 : (FOr g F1 F2).res xs = F1.res xs := if_pos e
    rw [e2]; exact h1.2 w S vs xs h hl hr hS hA
  · have e2 : (FOr g F1 F2).res xs = F2.res xs := if_neg e
    rw [e2]; exact h2.2 w S vs xs h hl hr hS hA
def FH : Fun := FOr 98 (FCt 98 cp0 prR1) (FCt 102 cp0 prR2)
theorem cH : GenCA K Tryz.prog 97 FH := genOr (cCtCls 98 cp0 prR1 cp0_pu c98) (cCtCls 102 cp0 prR2 cp0_pu c102)
theorem anyR1 (l : List Cls) : l.any (prR1 []) = !l.all Cls.rateOk := by simp [List.not_all_eq_any_not]; rfl
theorem anyR2 (l : List Cls) : l.any (prR2 []) = !l.all Cls.burstOk := by simp [List.not_all_eq_any_not]; rfl
def F63 : Fun := ⟨fun xs => xs = [.agg (cX (deC (xs.getD 0 .top) : Cfg)), I (deI (xs.getD 1 .top) : Int)] ∧ (fun (c : Cfg) (k : Int) => (okC c)) (deC (xs.getD 0 .top) : Cfg) (deI (xs.getD 1 .top) : Int), fun xs => (fun (c : Cfg) (k : Int) => ((B (hc c k), []) : X × List Ob)) (deC (xs.getD 0 .top) : Cfg) (deI (xs.getD 1 .top) : Int)⟩
theorem F63_in {xs : List X} (h : F63.pre xs) : ∃ (c : Cfg) (k : Int), xs = [.agg (cX c), I k] ∧ (okC c) := ⟨_, _, h.1, h.2⟩
theorem F63_res (c : Cfg) (k : Int) : F63.res [.agg (cX c), I k] = (B (hc c k), []) := by simp [F63]
theorem F63_mk (c : Cfg) (k : Int) (h : okC c) : F63.pre [.agg (cX c), I k] := by simpa [F63] using h
theorem c63 : GenCA K Tryz.prog 63 F63 := by
  refine contractA Tryz.mix K [(71, F71), (94, F94), (95, F95), (96, F96), (100, F100), (101, F101.pu), (104, F104), (105, F105), (106, F106), (97, FH)] [] (by simp [c71, c94, c95, c96, c100, c101.pu, c104, c105, c106, cH]) (by simp) Tryz.func63 rfl (by decide) ?_
  intro xs hxs
  obtain ⟨c, k, rfl, hp⟩ := F63_in hxs
  rw [F63_res]
  refine ⟨by rw [Tryz.ntmps63]; simp, ?_⟩
  by_cases h1 : k = 1
  · subst h1
    simp -implicitDefEqProofs [Tryz.f63, List.lookup_cons, eS, hp.2.2]
    refine fin_pure (by simp) ?_
    simp -implicitDefEqProofs [fS, rn0, pickObs, deI, hc]
  by_cases h2 : k = 2
  · subst h2
    simp -implicitDefEqProofs [Tryz.f63, List.lookup_cons, eS, F94, hp]
    refine fin_pure (by simp) ?_
    simp -implicitDefEqProofs [fS, rn0, pickObs, deI, hc]
  by_cases h3 : k = 3
  · subst h3
    simp -implicitDefEqProofs [Tryz.f63, List.lookup_cons, eS, F95, hp]
    refine fin_pure (by simp) ?_
    simp -implicitDefEqProofs [fS, rn0, pickObs, deI, hc]
  by_cases h4 : k = 4
  · subst h4
    simp -implicitDefEqProofs [Tryz.f63, List.lookup_cons, eS, F96, hp]
    refine fin_pure (by simp) ?_
    simp -implicitDefEqProofs [fS, rn0, pickObs, deI, hc]
  by_cases h5 : k = 5
  · subst h5
    simp -implicitDefEqProofs [Tryz.f63, List.lookup_cons, eS, FH, FOr, FCt, FIx, anyR1, anyR2, hp.1]
    refine fin_pure (by simp) ?_
    simp -implicitDefEqProofs [fS, rn0, pickObs, deI, hc]
  by_cases h6 : k = 6
  · subst h6
    have h6e := c6_eq c.cls
    cases hr : rtsOk c.cls with
    | false =>
      simp -implicitDefEqProofs [Tryz.f63, List.lookup_cons, eS, F100, F101, hp, hr]
      refine fin_pure (by simp) ?_
      simp -implicitDefEqProofs [fS, rn0, pickObs, deI, hc, h6e, hr]
    | true =>
      simp -implicitDefEqProofs [Tryz.f63, List.lookup_cons, eS, F100, F101, hp, hr, iOb]
      refine fin_pure (by simp) ?_
      simp -implicitDefEqProofs [fS, rn0, pickObs, deI, hc, h6e, hr]
      rw [Bool.eq_iff_iff]
      simp
  by_cases h7 : k = 7
  · subst h7
    simp -implicitDefEqProofs [Tryz.f63, List.lookup_cons, eS, FH, FOr, FCt, FIx, anyR1, anyR2, hp.1]
    refine fin_pure (by simp) ?_
    simp -implicitDefEqProofs [fS, rn0, pickObs, deI, hc]
  by_cases h9 : k = 9
  · subst h9
    simp -implicitDefEqProofs [Tryz.f63, List.lookup_cons, eS, F105, hp]
    refine fin_pure (by simp) ?_
    simp -implicitDefEqProofs [fS, rn0, pickObs, deI, hc]
  by_cases h8 : k = 8
  · subst h8
    have hl := hp.1
    simp -implicitDefEqProofs [Tryz.f63, List.lookup_cons, eS, F104]
    refine loopP_inv (fun n : Nat => ⟨72, tl [(2, .optr 0 0 0 0), (49, .sl (tR c.cls)), (50, I c.cls.length), (51, I n)], [cBx c]⟩) (fun n => n ≤ c.cls.length ∧ (List.range n).all (limOk c.cls) = true) (fun n => c.cls.length - n) 0 (by simp) (Wk.tl (by simp [hold, upd, tl_cons])) ?_
    rintro n ⟨hn, ha⟩
    by_cases h : n < c.cls.length
    · have hw1 := w64n (show n < 4611686018427387904 by omega)
      have hokI : okI c n := ⟨hp, by omega, by omega⟩
      cases hr : limOk c.cls n with
      | false =>
        have hb : cn8 c.cls = false := all_rb _ _ n h hr
        simp -implicitDefEqProofs [List.lookup_cons, eS, h, cBx, hokI, hr]
        refine fin_pure (by simp) ?_
        simp -implicitDefEqProofs [fS, rn0, pickObs, deI, hc, hb]
      | true =>
        have hg : (List.range (n + 1)).all (limOk c.cls) = true := by rw [all_r, ha, hr]; rfl
        simp -implicitDefEqProofs [List.lookup_cons, eS, h, cBx, hokI, hr]
        refine ⟨n + 1, by omega, by simpa using hg, by omega, ?_⟩
        exact Wk.tl (by simp [hold, upd, tl_cons, hw1])
    · have e : n = c.cls.length := by omega
      subst e
      have hb : cn8 c.cls = true := ha
      simp -implicitDefEqProofs [List.lookup_cons, eS, cBx]
      refine fin_pure (by simp) ?_
      simp -implicitDefEqProofs [fS, rn0, pickObs, deI, hc, hb]
  by_cases hd : c.dflt = 0
  · simp -implicitDefEqProofs [Tryz.f63, List.lookup_cons, eS, F106, h1, h2, h3, h4, h5, h6, h7, h8, h9, hd]
    refine fin_pure (by simp) ?_
    simp -implicitDefEqProofs [fS, rn0, pickObs, deI, hc, h1, h2, h3, h4, h5, h6, h7, h8, h9, hd]
  · simp -implicitDefEqProofs [Tryz.f63, List.lookup_cons, eS, F106, h1, h2, h3, h4, h5, h6, h7, h8, h9, hd, hp]
    refine fin_pure (by simp) ?_
    simp -implicitDefEqProofs [fS, rn0, pickObs, deI, hc, h1, h2, h3, h4, h5, h6, h7, h8, h9, hd]
def F34 : Fun := ⟨fun xs => xs = [.agg (cX (deC (xs.getD 0 .top) : Cfg))] ∧ (fun (c : Cfg) => (okC c)) (deC (xs.getD 0 .top) : Cfg), fun xs => (fun (c : Cfg) => ((B (isCfg c), []) : X × List Ob)) (deC (xs.getD 0 .top) : Cfg)⟩
theorem F34_in {xs : List X} (h : F34.pre xs) : ∃ (c : Cfg), xs = [.agg (cX c)] ∧ (okC c) := ⟨_, h.1, h.2⟩
theorem F34_res (c : Cfg) : F34.res [.agg (cX c)] = (B (isCfg c), []) := by simp [F34]
theorem F34_mk (c : Cfg) (h : okC c) : F34.pre [.agg (cX c)] := by simpa [F34] using h
theorem c34 : GenCA K Tryz.prog 34 F34 := by
  refine contractA Tryz.mix K [(63, F63)] [] (by simp [c63]) (by simp) Tryz.func34 rfl (by decide) ?_
  intro xs hxs
  obtain ⟨c, rfl, hp⟩ := F34_in hxs
  rw [F34_res]
  refine ⟨by rw [Tryz.ntmps34]; simp, ?_⟩
  by_cases h24 : (24 : Int) < (c.cls.length : Int)
  · have e : isCfg c = false := by
      have : ¬ c.cls.length ≤ 24 := by omega
      simp [isCfg, this]
    simp -implicitDefEqProofs [Tryz.f34, F63, List.lookup_cons, eS, h24]
    refine fin_pure (by simp) ?_
    simp -implicitDefEqProofs [fS, rn0, pickObs, deI, e]
  by_cases h16 : (16 : Int) < (c.fil.length : Int)
  · have e : isCfg c = false := by
      have : ¬ c.fil.length ≤ 16 := by omega
      simp [isCfg, this]
    simp -implicitDefEqProofs [Tryz.f34, F63, List.lookup_cons, eS, h24, h16]
    refine fin_pure (by simp) ?_
    simp -implicitDefEqProofs [fS, rn0, pickObs, deI, e]
  simp -implicitDefEqProofs [Tryz.f34, List.lookup_cons, eS, h24, h16]
  refine loopP_inv (fun n : Nat => ⟨22, tl [(1, .optr 0 0 0 0), (3, I ((n : Int) + 1))], [cBx c]⟩) (fun n => n ≤ 10 ∧ hcUp c n = true) (fun n => 10 - n) 0 (by simp [hcUp]) (Wk.tl (by simp [hold, upd, tl_cons])) ?_
  rintro n ⟨hn, ha⟩
  by_cases h : n < 10
  · have hw2 : IntKind.i64.wrap ((n : Int) + 1 + 1) = (n : Int) + 1 + 1 := w64 (by omega) (by omega)
    have hi : (n : Int) + 1 ≤ 10 := by omega
    cases hr : hc c ((n : Int) + 1) with
    | false =>
      have hb := hcUp_bad c n h hr
      simp -implicitDefEqProofs [List.lookup_cons, eS, hi, cBx, hp, F63, hr]
      refine fin_pure (by simp) ?_
      simp -implicitDefEqProofs [fS, rn0, pickObs, deI, hb]
    | true =>
      have hg : hcUp c (n + 1) = true := by rw [hcUp_succ, ha, hr]; rfl
      simp -implicitDefEqProofs [List.lookup_cons, eS, hi, cBx, hp, F63, hr]
      refine ⟨n + 1, by omega, hg, by omega, ?_⟩
      exact Wk.tl (by simp [hold, upd, tl_cons, hw2])
  · have e : n = 10 := by omega
    subst e
    have e : isCfg c = true := by
      have e1 : c.cls.length ≤ 24 := by omega
      have e2 : c.fil.length ≤ 16 := by omega
      simp [isCfg, e1, e2, ha]
    simp -implicitDefEqProofs [List.lookup_cons, eS, cBx]
    refine fin_pure (by simp) ?_
    simp -implicitDefEqProofs [fS, rn0, pickObs, deI, e]
end Go.Proofs
namespace Go.Proofs
open Go.Abs
theorem all_stepC (l : List Cls) (p : Cls → Bool) (k : Nat) (h : k < l.length) (h1 : (l.take k).all p = true) (h2 : p l[k] = true) : (l.take (k + 1)).all p = true := by
  rw [takeS l k h, List.all_append, h1]; simp [h2]
theorem c57 : GenCA K Tryz.prog 57 F129 := by
  refine contractA Tryz.mix K [] [] (by simp) (by simp) Tryz.func57 rfl (by decide) ?_
  intro xs hxs
  obtain ⟨c, id, rfl, hp⟩ := F129_in hxs
  rw [F129_res]
  refine ⟨by rw [Tryz.ntmps57]; simp, ?_⟩
  have hl := hp.1
  simp -implicitDefEqProofs [Tryz.f57, List.lookup_cons, eS]
  refine loopP_inv (fun k : Nat => ⟨21, tl [(1, I id), (2, .optr 0 0 0 0), (8, .sl (tR c.cls)), (9, I c.cls.length), (10, I k)], [cBx c]⟩) (fun k => k ≤ c.cls.length ∧ (c.cls.take k).all (fun x => !decide (x.id = id)) = true) (fun k => c.cls.length - k) 0 (by simp) (Wk.tl (by simp [hold, upd, tl_cons])) ?_
  rintro k ⟨hk, ha⟩
  by_cases h : k < c.cls.length
  · have hw1 := w64n (show k < 4611686018427387904 by omega)
    by_cases hq : c.cls[k].id = id
    · have hf := fidx_found c.cls id k h ha hq
      simp -implicitDefEqProofs [List.lookup_cons, eS, h, hq, cBx]
      refine fin_pure (by simp) ?_
      simp -implicitDefEqProofs [fS, rn0, pickObs, deI, hf]
    · have hg := all_stepC c.cls (fun x => !decide (x.id = id)) k h ha (by simp [hq])
      simp -implicitDefEqProofs [List.lookup_cons, eS, h, hq, cBx]
      refine ⟨k + 1, by omega, by simpa using hg, by omega, ?_⟩
      exact Wk.tlD (m := 1) rfl (by simp [hold, upd, tl_cons, hw1]) (by simp [okL_cons, okL_nil, ok1, ok0]) (okH_cBx _ _ _ (by simp [okH_nil]))
  · have e : k = c.cls.length := by omega
    subst e
    rw [List.take_length] at ha
    have hf := fidx_none c.cls id ha
    simp -implicitDefEqProofs [List.lookup_cons, eS, cBx]
    refine fin_pure (by simp) ?_
    simp -implicitDefEqProofs [fS, rn0, pickObs, deI, hf]
theorem c86 : GenCA K Tryz.prog 86 F137 := by
  refine contractA Tryz.mix K [] [] (by simp) (by simp) Tryz.func86 rfl (by decide) ?_
  intro xs hxs
  obtain ⟨c, i, rfl, hp⟩ := F137_in hxs
  rw [F137_res]
  refine ⟨by rw [Tryz.ntmps86]; simp, ?_⟩
  obtain ⟨i, rfl⟩ := Int.eq_ofNat_of_zero_le hp.2.1
  have hi : i < c.cls.length := by have := hp.2.2; omega
  have hl := hp.1.1
  simp -implicitDefEqProofs [Tryz.f86, List.lookup_cons, eS]
  refine loopP_inv (fun k : Nat => ⟨31, tl [(1, I i), (2, .optr 0 0 0 0), (5, .osl 1 0), (9, .sl (tR c.cls)), (10, I c.cls.length), (11, I k)], [cBx c, iOb (nI (kids c.cls i k))]⟩) (fun k => k ≤ c.cls.length) (fun k => c.cls.length - k) 0 (Nat.zero_le _) (Wk.tlN (h := [cBx c]) 3 1 5 (by simp [upd]) (by simp [hold, upd, tl_cons])) ?_
  intro k hk
  by_cases h : k < c.cls.length
  · have hw1 := w64n (show k < 4611686018427387904 by omega)
    have hS := kids_succ c.cls i k h
    have hln := kids_len c.cls i k
    rw [atC_eq hi] at hS
    simp -implicitDefEqProofs [List.lookup_cons, eS, h, cBx, iOb, eAppend, eBuildSlice, srcRows, srcOk, chunk]
    refine drawP_all _ (by decide) ?_
    by_cases he : c.cls[k].par = c.cls[i].id
    · rw [if_pos he] at hS
      simp -implicitDefEqProofs [List.lookup_cons, eS, h, hi, he, cBx, iOb, eAppend, eBuildSlice, srcRows, srcOk, chunk]
      have hln2 := nI_len (kids c.cls i k)
      refine ⟨by omega, by omega, k + 1, by omega, by omega, ?_⟩
      have hN : iR (nI (kids c.cls i k)) ++ [[I (k : Int)]] = iR (nI (kids c.cls i (k + 1))) := by rw [hS]; simp [nI, ← iR_append, iR_cons, iR_nil]
      rw [hN]
      refine Wk.tlP [0, 1] (by simp [pickOk, -List.all_eq_true, iR_ok, ok0]) ?_ ?_
      · simp [pickObs]
      · simp [hold, upd, tl_cons, rn1, rn0, hw1]
        exact ⟨rfl, rfl⟩
    · rw [if_neg he, List.append_nil] at hS
      simp -implicitDefEqProofs [List.lookup_cons, eS, h, hi, he, cBx, iOb, eAppend, eBuildSlice, srcRows, srcOk, chunk]
      refine ⟨k + 1, by omega, by omega, ?_⟩
      rw [hS]
      exact Wk.tlD (m := 2) rfl (by simp [hold, upd, tl_cons, hw1]) (by simp [okL_cons, okL_nil, ok1, ok0]) (okH_cBx _ _ _ (okH_iR _ _ _ _ _ _ _ _ _ (by simp [okH_nil])))
  · have e : k = c.cls.length := by omega
    subst e
    simp -implicitDefEqProofs [List.lookup_cons, eS, iOb, cBx]
    refine fin_own [1] (by simp [pickOk, -List.all_eq_true, iR_ok]) ?_
    simp -implicitDefEqProofs [fS, rn0, pickObs, deI, iOb]
theorem kids_leaf (l : List Cls) (i : Nat) : decide ((kids l i l.length).length = 0) = leafB l i := by
  rw [Bool.eq_iff_iff, decide_eq_true_eq, List.length_eq_zero_iff, kids, List.filter_eq_nil_iff, leafB]
  have h := @all_atC l (fun x => !decide (x.par = (atC l i).id))
  have e : (l.all fun x => !decide (x.par = (atC l i).id)) = !l.any fun x => decide (x.par = (atC l i).id) := by rw [List.not_any_eq_all_not]
  rw [← e, h]
  simp
theorem c55 : GenCA K Tryz.prog 55 F127 := by
  refine contractA Tryz.mix K [(86, F137)] [] (by simp [c86]) (by simp) Tryz.func55 rfl (by decide) ?_
  intro xs hxs
  obtain ⟨c, i, rfl, hp⟩ := F127_in hxs
  rw [F127_res]
  refine ⟨by rw [Tryz.ntmps55]; simp, ?_⟩
  obtain ⟨i, rfl⟩ := Int.eq_ofNat_of_zero_le hp.2.1
  have hk := kids_leaf c.cls i
  simp -implicitDefEqProofs [Tryz.f55, F137, List.lookup_cons, eS, hp, iOb, nI_len]
  refine fin_pure (by simp) ?_
  simp -implicitDefEqProofs [fS, rn0, pickObs, deI, ← hk]
  rw [Bool.eq_iff_iff]
  simp
theorem chain_step (l : List Cls) (out : List Int) (j : Int) (h0 : 0 ≤ j) (hm : out.length ≤ 8) : out ++ chain l (9 - out.length) j = (out ++ [j]) ++ chain l (9 - (out ++ [j]).length) (nxt l j) := by
  obtain ⟨m, hm'⟩ : ∃ m, 9 - out.length = m + 1 := ⟨8 - out.length, by omega⟩
  have e2 : 9 - (out ++ [j]).length = m := by simp; omega
  rw [hm', e2, chain, if_neg (by omega)]
  simp
def F53 : Fun := ⟨fun xs => xs = [.agg (cX (deC (xs.getD 0 .top) : Cfg)), I (deI (xs.getD 1 .top) : Int)] ∧ (fun (c : Cfg) (i : Int) => (okI c i)) (deC (xs.getD 0 .top) : Cfg) (deI (xs.getD 1 .top) : Int), fun xs => (fun (c : Cfg) (i : Int) => ((.osl 0 0, [iOb (chain c.cls 9 i)]) : X × List Ob)) (deC (xs.getD 0 .top) : Cfg) (deI (xs.getD 1 .top) : Int)⟩
theorem F53_in {xs : List X} (h : F53.pre xs) : ∃ (c : Cfg) (i : Int), xs = [.agg (cX c), I i] ∧ (okI c i) := ⟨_, _, h.1, h.2⟩
theorem F53_res (c : Cfg) (i : Int) : F53.res [.agg (cX c), I i] = (.osl 0 0, [iOb (chain c.cls 9 i)]) := by simp [F53]
theorem F53_mk (c : Cfg) (i : Int) (h : okI c i) : F53.pre [.agg (cX c), I i] := by simpa [F53] using h
theorem c53 : GenCA K Tryz.prog 53 F53 := by
  refine contractA Tryz.mix K [(57, F129)] [] (by simp [c57]) (by simp) Tryz.func53 rfl (by decide) ?_
  intro xs hxs
  obtain ⟨c, i, rfl, hp⟩ := F53_in hxs
  rw [F53_res]
  refine ⟨by rw [Tryz.ntmps53]; simp, ?_⟩
  have hl := hp.1.1
  simp -implicitDefEqProofs [Tryz.f53, F129, List.lookup_cons, eS]
  refine loopP_inv (fun a : List Int × Int => ⟨26, tl [(1, I a.2), (2, .optr 0 0 0 0), (5, .osl 1 0)], [cBx c, iOb a.1]⟩) (fun a => a.1 ++ chain c.cls (9 - a.1.length) a.2 = chain c.cls 9 i ∧ a.2 < c.cls.length ∧ a.1.length ≤ 9) (fun a => 9 - a.1.length) ([], i) ⟨rfl, hp.2.2, by simp⟩ (Wk.tlN (h := [cBx c]) 3 1 5 (by simp [upd]) (by simp [hold, upd, tl_cons])) ?_
  rintro ⟨out, j⟩ ⟨hR, hj, hf⟩
  simp only at hR hj hf
  by_cases h0 : 0 ≤ j
  · by_cases h8 : (out.length : Int) ≤ 8
    · have h8' : out.length ≤ 8 := by omega
      have hst := chain_step c.cls out j h0 h8'
      obtain ⟨j, rfl⟩ := Int.eq_ofNat_of_zero_le h0
      have hj' : j < c.cls.length := by omega
      have hnx : fidx c.cls c.cls[j].par = nxt c.cls (j : Int) := by simp [nxt, atC_eq hj']
      have hnr : nxt c.cls (j : Int) < c.cls.length := (fidx_rng c.cls _).2
      simp -implicitDefEqProofs [List.lookup_cons, eS, cBx, iOb, h8, h8', eAppend, eBuildSlice, srcRows, srcOk, chunk]
      refine ⟨by omega, by omega, drawP_all _ (by decide) ?_⟩
      simp -implicitDefEqProofs [List.lookup_cons, eS, cBx, iOb, hj', hp.1, F129, hnx]
      refine ⟨out ++ [(j : Int)], nxt c.cls j, by rw [← hst, hR], hnr, by simp; omega, by simp; omega, ?_⟩
      rw [show iR out ++ [[I (j : Int)]] = iR (out ++ [(j : Int)]) by simp [← iR_append, iR_cons, iR_nil]]
      refine Wk.tlP [0, 1] (by simp [pickOk, -List.all_eq_true, iR_ok, ok0]) ?_ ?_
      · simp [pickObs]
      · simp [hold, upd, tl_cons, rn1, rn0]
        exact ⟨rfl, rfl⟩
    · have h8' : ¬ out.length ≤ 8 := by omega
      have e9 : out.length = 9 := by omega
      have e : chain c.cls 9 i = out := by rw [← hR, e9]; simp [chain]
      simp -implicitDefEqProofs [List.lookup_cons, eS, cBx, iOb, h0, h8, h8']
      refine fin_own [1] (by simp [pickOk, -List.all_eq_true, iR_ok]) ?_
      simp -implicitDefEqProofs [fS, rn0, pickObs, deI, iOb, e]
  · have e : chain c.cls 9 i = out := by
      rw [← hR]
      cases 9 - out.length with
      | zero => simp [chain]
      | succ n => rw [chain, if_pos (by omega)]; simp
    simp -implicitDefEqProofs [List.lookup_cons, eS, cBx, iOb, h0]
    refine fin_own [1] (by simp [pickOk, -List.all_eq_true, iR_ok]) ?_
    simp -implicitDefEqProofs [fS, rn0, pickObs, deI, iOb, e]
theorem c32 : GenCA K Tryz.prog 32 F106 := by
  refine contractA Tryz.mix K [(57, F129), (55, F127)] [] (by simp [c57, c55]) (by simp) Tryz.func32 rfl (by decide) ?_
  intro xs hxs
  obtain ⟨c, id, rfl, hp⟩ := F106_in hxs
  rw [F106_res]
  refine ⟨by rw [Tryz.ntmps32]; simp, ?_⟩
  have hf := fidx_rng c.cls id
  by_cases h : 0 ≤ fidx c.cls id
  · have hokI : okI c (fidx c.cls id) := ⟨hp, h, hf.2⟩
    simp -implicitDefEqProofs [Tryz.f32, F129, F127, List.lookup_cons, eS, hp, h, hokI]
    refine fin_pure (by simp) ?_
    simp -implicitDefEqProofs [fS, rn0, pickObs, deI, targetOk, h]
  · have h' : fidx c.cls id < 0 := by omega
    simp -implicitDefEqProofs [Tryz.f32, F129, F127, List.lookup_cons, eS, hp, h, h']
    refine fin_pure (by simp) ?_
    simp -implicitDefEqProofs [fS, rn0, pickObs, deI, targetOk, h]
def F54 : Fun := ⟨fun xs => xs = [.agg (cX (deC (xs.getD 0 .top) : Cfg)), I (deI (xs.getD 1 .top) : Int)] ∧ (fun (c : Cfg) (i : Int) => (okI c i ∧ rtsOk c.cls = true)) (deC (xs.getD 0 .top) : Cfg) (deI (xs.getD 1 .top) : Int), fun xs => (fun (c : Cfg) (i : Int) => ((I ((atC c.cls i.toNat).rate - rateSum c.cls (kids c.cls i.toNat c.cls.length)), []) : X × List Ob)) (deC (xs.getD 0 .top) : Cfg) (deI (xs.getD 1 .top) : Int)⟩
theorem F54_in {xs : List X} (h : F54.pre xs) : ∃ (c : Cfg) (i : Int), xs = [.agg (cX c), I i] ∧ (okI c i ∧ rtsOk c.cls = true) := ⟨_, _, h.1, h.2⟩
theorem F54_res (c : Cfg) (i : Int) : F54.res [.agg (cX c), I i] = (I ((atC c.cls i.toNat).rate - rateSum c.cls (kids c.cls i.toNat c.cls.length)), []) := by simp [F54]
theorem F54_mk (c : Cfg) (i : Int) (h : okI c i ∧ rtsOk c.cls = true) : F54.pre [.agg (cX c), I i] := by simpa [F54] using h
theorem c54 : GenCA K Tryz.prog 54 F54 := by
  refine contractA Tryz.mix K [(86, F137)] [] (by simp [c86]) (by simp) Tryz.func54 rfl (by decide) ?_
  intro xs hxs
  obtain ⟨c, i, rfl, hp⟩ := F54_in hxs
  rw [F54_res]
  refine ⟨by rw [Tryz.ntmps54]; simp, ?_⟩
  obtain ⟨hI, hr⟩ := hp
  obtain ⟨i, rfl⟩ := Int.eq_ofNat_of_zero_le hI.2.1
  have hi : i < c.cls.length := by have := hI.2.2; omega
  have hl := hI.1.1
  have hlt := kids_lt c.cls i c.cls.length
  have hkl := kids_len c.cls i c.cls.length
  have hb0 := rt_bd hr i
  rw [Int.toNat_natCast, atC_eq hi] 
  rw [atC_eq hi] at hb0
  simp -implicitDefEqProofs [Tryz.f54, F137, List.lookup_cons, eS, hI, hi, iOb]
  generalize hK : kids c.cls i c.cls.length = ks at hlt hkl
  have hnl := nI_len ks
  refine loopP_inv (fun k : Nat => ⟨32, tl [(2, .optr 0 0 0 0), (5, I (c.cls[i].rate - rateSum c.cls (ks.take k))), (16, .osl 1 0), (17, I ks.length), (18, I k)], [cBx c, iOb (nI ks)]⟩) (fun k => k ≤ ks.length) (fun k => ks.length - k) 0 (Nat.zero_le _) (Wk.tl (by simp [hold, upd, tl_cons, rateSum, hnl])) ?_
  intro k hk
  by_cases h : k < ks.length
  · have hw1 := w64n (show k < 4611686018427387904 by omega)
    have hkc : ks[k] < c.cls.length := hlt _ (List.getElem_mem h)
    have hb1 := rateSum_bd hr (ks.take k)
    have hb2 := rt_bd hr ks[k]
    rw [atC_eq hkc] at hb2
    have hb3 : (ks.take k).length ≤ 1048576 := by simp; omega
    have hT : rateSum c.cls (ks.take (k + 1)) = rateSum c.cls (ks.take k) + c.cls[ks[k]].rate := by rw [takeS ks k h, rateSum_app, atC_eq hkc]
    have hw2 : IntKind.i64.wrap (c.cls[i].rate - rateSum c.cls (ks.take k) - c.cls[ks[k]].rate) = c.cls[i].rate - rateSum c.cls (ks.take (k + 1)) := by rw [hT, w64 (by omega) (by omega)]; omega
    simp -implicitDefEqProofs [List.lookup_cons, eS, h, cBx, iOb, hnl, nI_get, hkc, hw2]
    refine ⟨k + 1, by omega, by omega, ?_⟩
    exact Wk.tl (by simp [hold, upd, tl_cons, hw1])
  · have e : k = ks.length := by omega
    subst e
    rw [List.take_length]
    simp -implicitDefEqProofs [List.lookup_cons, eS, cBx, iOb]
    refine fin_pure (by simp) ?_
    simp -implicitDefEqProofs [fS, rn0, pickObs, deI]
end Go.Proofs
namespace Go.Proofs
open Go.Abs
theorem chain_len (l : List Cls) : ∀ (n : Nat) (i : Int), (chain l n i).length ≤ n
  | 0, i => by simp [chain]
  | n + 1, i => by
    simp only [chain]
    by_cases h : i < 0
    · simp [h]
    · have := chain_len l n (nxt l i)
      simp [h]; omega
theorem chain_at (l : List Cls) (i : Nat) (hi : i < l.length) : ∃ n : Nat, ∃ h : n < (chain l 9 i).length, n + 1 = (chain l 9 i).length ∧ (chain l 9 i).getLast?.getD 0 = (chain l 9 i)[n] ∧ ∃ a : Nat, (chain l 9 i)[n] = a ∧ a < l.length := by
  have hr := chain_mem l 9 (i : Int)
  have h0 : ¬ (i : Int) < 0 := by omega
  have he : chain l 9 (i : Int) = (i : Int) :: chain l 8 (nxt l i) := by rw [chain, if_neg h0]
  generalize chain l 9 (i : Int) = r at hr he
  have hlen : 0 < r.length := by rw [he]; simp
  have hn : r.length - 1 < r.length := by omega
  have h2 := hr _ (List.getElem_mem hn)
  have h3 : r[r.length - 1] < (l.length : Int) := by
    rcases h2.2 with e | e
    · rw [e]; omega
    · exact e
  refine ⟨r.length - 1, hn, by omega, ?_, (r[r.length - 1]).toNat, by omega, by omega⟩
  rw [List.getLast?_eq_getElem?, List.getElem?_eq_getElem hn, Option.getD_some]
def upP (l : List Cls) (i : Nat) : Bool := decide (i = 0) || decide ((atC l (i - 1)).id < (atC l i).id)
def nodeOk (l : List Cls) (i : Nat) : Bool := wayOk l i && spareOk l i && limOk l i
theorem treeOk_def (l : List Cls) : treeOk l = (l.all Cls.ok && (List.range l.length).all (upP l) && decide (tops l = 1) && (List.range l.length).all (nodeOk l)) := rfl
theorem rts_of_ok {l : List Cls} (h : l.all Cls.ok = true) : rtsOk l = true := by
  rw [rtsOk, List.all_eq_true]
  intro x hx
  have := List.all_eq_true.1 h x hx
  simp [Cls.ok, Cls.rateOk, rng] at this
  simp [rng]; omega
def F30 : Fun := ⟨fun xs => xs = [.agg (cX (deC (xs.getD 0 .top) : Cfg))] ∧ (fun (c : Cfg) => (okC c)) (deC (xs.getD 0 .top) : Cfg), fun xs => (fun (c : Cfg) => ((B (treeOk c.cls), []) : X × List Ob)) (deC (xs.getD 0 .top) : Cfg)⟩
theorem F30_in {xs : List X} (h : F30.pre xs) : ∃ (c : Cfg), xs = [.agg (cX c)] ∧ (okC c) := ⟨_, h.1, h.2⟩
theorem F30_res (c : Cfg) : F30.res [.agg (cX c)] = (B (treeOk c.cls), []) := by simp [F30]
theorem F30_mk (c : Cfg) (h : okC c) : F30.pre [.agg (cX c)] := by simpa [F30] using h
theorem c30 : GenCA K Tryz.prog 30 F30 := by
  refine contractA Tryz.mix K [(52, F52), (53, F53), (54, F54), (55, F127), (29, F29)] [] (by simp [c52, c53, c54, c55, c29]) (by simp) Tryz.func30 rfl (by decide) ?_
  intro xs hxs
  obtain ⟨c, rfl, hp⟩ := F30_in hxs
  rw [F30_res]
  refine ⟨by rw [Tryz.ntmps30]; simp, ?_⟩
  have hl := hp.1
  have htd := treeOk_def c.cls
  simp -implicitDefEqProofs [Tryz.f30, List.lookup_cons, eS]
  refine loopP_inv (fun k : Nat => ⟨99, tl [(1, .optr 0 0 0 0), (3, I (topsU c.cls k)), (10, .sl (tR c.cls)), (11, I c.cls.length), (12, I k)], [cBx c]⟩) (fun k => k ≤ c.cls.length ∧ (c.cls.take k).all Cls.ok = true ∧ (List.range k).all (upP c.cls) = true) (fun k => c.cls.length - k) 0 (by simp) (Wk.tl (by simp [hold, upd, tl_cons, topsU])) ?_
  rintro k ⟨hk, ha, hu⟩
  by_cases h : k < c.cls.length
  · have hw1 := w64n (show k < 4611686018427387904 by omega)
    have hS := topsU_succ c.cls k h
    have hb := topsU_le c.cls k
    have hw2 : IntKind.i64.wrap (topsU c.cls k + 1) = topsU c.cls k + 1 := w64 (by omega) (by omega)
    simp -implicitDefEqProofs [List.lookup_cons, eS, h, cBx]
    refine drawP_all _ (by decide) ?_
    cases hok : c.cls[k].ok with
    | false =>
      have hb2 : c.cls.all Cls.ok = false := not_true fun h3 => by
        rw [List.all_eq_true] at h3
        rw [h3 _ (List.getElem_mem h)] at hok; cases hok
      simp -implicitDefEqProofs [List.lookup_cons, eS, h, cBx, F52, hok]
      refine fin_pure (by simp) ?_
      simp -implicitDefEqProofs [fS, rn0, pickObs, deI, htd, hb2, -List.all_eq_true]
    | true =>
      have ha' := all_stepC c.cls Cls.ok k h ha hok
      have hend : ∀ (hup : upP c.cls k = true), (List.range (k + 1)).all (upP c.cls) = true := fun hup => by rw [all_r, hu, hup]; rfl
      by_cases hk0 : k = 0
      · subst hk0
        have hu' := hend (by simp [upP])
        simp -implicitDefEqProofs [List.lookup_cons, eS, h, cBx, F52, hok]
        refine ⟨fun hz => ?_, fun hz => ?_⟩
        · rw [if_pos hz] at hS
          refine ⟨1, by omega, by simpa using ha', by simpa using hu', by omega, ?_⟩
          rw [show topsU c.cls 1 = topsU c.cls 0 + 1 from hS]
          exact Wk.tlD (m := 1) rfl (by simp [hold, upd, tl_cons, hw2, show IntKind.i64.wrap (1 : Int) = 1 from by decide]) (by simp [okL_cons, okL_nil, ok1, ok0]) (okH_cBx _ _ _ (by simp [okH_nil]))
        · rw [if_neg hz, Int.add_zero] at hS
          refine ⟨1, by omega, by simpa using ha', by simpa using hu', by omega, ?_⟩
          rw [show topsU c.cls 1 = topsU c.cls 0 from hS]
          exact Wk.tlD (m := 1) rfl (by simp [hold, upd, tl_cons, show IntKind.i64.wrap (1 : Int) = 1 from by decide]) (by simp [okL_cons, okL_nil, ok1, ok0]) (okH_cBx _ _ _ (by simp [okH_nil]))
      · obtain ⟨j, hjk⟩ : ∃ j, k - 1 = j := ⟨_, rfl⟩
        have hj : j < c.cls.length := by omega
        have hw0 : IntKind.i64.wrap ((k : Int) - 1) = j := by rw [w64 (by omega) (by omega)]; omega
        have hp0 : 0 < k := by omega
        by_cases hlt : c.cls[j].id < c.cls[k].id
        · have hn : ¬ c.cls[k].id ≤ c.cls[j].id := by omega
          have hu' := hend (by simp [upP, hjk, atC_eq h, atC_eq hj, hlt])
          simp -implicitDefEqProofs [List.lookup_cons, eS, h, hj, cBx, F52, hok, hw0, hp0, hn]
          refine ⟨fun hz => ?_, fun hz => ?_⟩
          · rw [if_pos hz] at hS
            refine ⟨k + 1, by omega, by simpa using ha', by simpa using hu', by omega, ?_⟩
            rw [hS]
            exact Wk.tlD (m := 1) rfl (by simp [hold, upd, tl_cons, hw1, hw2]) (by simp [okL_cons, okL_nil, ok1, ok0]) (okH_cBx _ _ _ (by simp [okH_nil]))
          · rw [if_neg hz, Int.add_zero] at hS
            refine ⟨k + 1, by omega, by simpa using ha', by simpa using hu', by omega, ?_⟩
            rw [hS]
            exact Wk.tlD (m := 1) rfl (by simp [hold, upd, tl_cons, hw1]) (by simp [okL_cons, okL_nil, ok1, ok0]) (okH_cBx _ _ _ (by simp [okH_nil]))
        · have hn : c.cls[k].id ≤ c.cls[j].id := by omega
          have hb2 : (List.range c.cls.length).all (upP c.cls) = false := all_rb _ _ k h (by simp [upP, hk0, hjk, atC_eq h, atC_eq hj, hlt])
          simp -implicitDefEqProofs [List.lookup_cons, eS, h, hj, cBx, F52, hok, hw0, hp0, hn]
          refine fin_pure (by simp) ?_
          simp -implicitDefEqProofs [fS, rn0, pickObs, deI, htd, hb2, -List.all_eq_true]
  have e : k = c.cls.length := by omega
  subst e
  rw [List.take_length] at ha
  have hts : topsU c.cls c.cls.length = (tops c.cls : Nat) := by simp [topsU, tops]
  by_cases h1 : topsU c.cls c.cls.length = 1
  case neg =>
    have h1' : ¬ tops c.cls = 1 := by omega
    simp -implicitDefEqProofs [List.lookup_cons, eS, cBx, h1]
    refine fin_pure (by simp) ?_
    simp -implicitDefEqProofs [fS, rn0, pickObs, deI, htd, h1']
  have h1' : tops c.cls = 1 := by omega
  have hrt := rts_of_ok ha
  simp -implicitDefEqProofs [List.lookup_cons, eS, cBx, h1]
  refine loopP_inv (fun k : Nat => ⟨99, tl [(1, .optr 0 0 0 0), (45, .sl (tR c.cls)), (46, I c.cls.length), (47, I k)], [cBx c]⟩) (fun k => k ≤ c.cls.length ∧ (List.range k).all (nodeOk c.cls) = true) (fun k => c.cls.length - k) 0 (by simp) (Wk.tl (by simp [hold, upd, tl_cons])) ?_
  rintro k ⟨hk, hn⟩
  by_cases h : k < c.cls.length
  · have hw1 := w64n (show k < 4611686018427387904 by omega)
    have hokI : okI c k := ⟨hp, by omega, by omega⟩
    have hcl := chain_len c.cls 9 k
    have hbad : nodeOk c.cls k = false → treeOk c.cls = false := fun hb => by rw [htd, all_rb _ _ k h hb, Bool.and_false]
    have hgood : nodeOk c.cls k = true → (List.range (k + 1)).all (nodeOk c.cls) = true := fun hb => by rw [all_r, hn, hb]; rfl
    obtain ⟨n, hn0, hn1, hlast, a, ha1, ha2⟩ := chain_at c.cls k h
    have hwo : wayOk c.cls k = (decide (n + 1 ≤ 8) && decide (c.cls[a].par = 0)) := by rw [wayOk, hlast, ha1, ← hn1, Int.toNat_natCast, atC_eq ha2]
    simp -implicitDefEqProofs [List.lookup_cons, eS, h, cBx, iOb, F53, hokI]
    refine drawP_all _ (by decide) ?_
    generalize hr : chain c.cls 9 (k : Int) = w at hn0 hn1 hlast ha1 hwo hcl
    have hw0 : IntKind.i64.wrap ((w.length : Int) - 1) = n := by rw [← hn1]; rw [w64 (by omega) (by omega)]; omega
    by_cases h8 : (8 : Int) < (w.length : Int)
    · have hb := hbad (by rw [nodeOk, hwo]; simp; omega)
      have h8' : 8 < w.length := by omega
      simp -implicitDefEqProofs [List.lookup_cons, eS, h, cBx, iOb, F54, h8, h8']
      refine fin_pure (by simp) ?_
      simp -implicitDefEqProofs [fS, rn0, pickObs, deI, hb]
    have h8' : ¬ 8 < w.length := by omega
    have h9 : n + 1 ≤ 8 := by omega
    by_cases hz : c.cls[a].par = 0
    case neg =>
      have hb := hbad (by rw [nodeOk, hwo]; simp [hz])
      simp -implicitDefEqProofs [List.lookup_cons, eS, h, cBx, iOb, F54, h8, h8', hw0, hn0, ha1, ha2, hz]
      refine fin_pure (by simp) ?_
      simp -implicitDefEqProofs [fS, rn0, pickObs, deI, hb]
    have hsp : spareOk c.cls k = decide (0 ≤ c.cls[k].rate - rateSum c.cls (kids c.cls k c.cls.length)) := by rw [spareOk, atC_eq h]
    by_cases hs : c.cls[k].rate - rateSum c.cls (kids c.cls k c.cls.length) < 0
    · have hs' : ¬ 0 ≤ c.cls[k].rate - rateSum c.cls (kids c.cls k c.cls.length) := by omega
      have hb := hbad (by rw [nodeOk, hsp]; simp; omega)
      simp -implicitDefEqProofs [List.lookup_cons, eS, h, cBx, iOb, F54, h8, h8', hw0, hn0, ha1, ha2, hz, hokI, hrt, atC_eq h, hs]
      refine fin_pure (by simp) ?_
      simp -implicitDefEqProofs [fS, rn0, pickObs, deI, hb]
    have hs' : 0 ≤ c.cls[k].rate - rateSum c.cls (kids c.cls k c.cls.length) := by omega
    have hlm : nodeOk c.cls k = limOk c.cls k := by rw [nodeOk, hwo, hsp, decide_eq_true h9, decide_eq_true hz, decide_eq_true hs']; rfl
    cases hlf : leafB c.cls k with
    | true =>
      cases hlr : rng 1 60 c.cls[k].lim with
      | true =>
        have hg := hgood (by rw [hlm]; simp [limOk, hlf, atC_eq h, hlr])
        simp -implicitDefEqProofs [List.lookup_cons, eS, h, cBx, iOb, F54, F127, F29, h8, h8', hw0, hn0, ha1, ha2, hz, hokI, hrt, atC_eq h, hs, hs', hlf, hlr]
        refine ⟨k + 1, by omega, by simpa using hg, by omega, ?_⟩
        exact Wk.tlD (m := 1) rfl (by simp [hold, upd, tl_cons, hw1]) (by simp [okL_cons, okL_nil, ok1, ok0]) (okH_cBx _ _ _ (by simp [okH_nil]))
      | false =>
        have hb := hbad (by rw [hlm]; simp [limOk, hlf, atC_eq h, hlr])
        simp -implicitDefEqProofs [List.lookup_cons, eS, h, cBx, iOb, F54, F127, F29, h8, h8', hw0, hn0, ha1, ha2, hz, hokI, hrt, atC_eq h, hs, hs', hlf, hlr]
        refine fin_pure (by simp) ?_
        simp -implicitDefEqProofs [fS, rn0, pickObs, deI, hb]
    | false =>
      by_cases hl0 : c.cls[k].lim = 0
      · have hg := hgood (by rw [hlm]; simp [limOk, hlf, atC_eq h, hl0])
        simp -implicitDefEqProofs [List.lookup_cons, eS, h, cBx, iOb, F54, F127, F29, h8, h8', hw0, hn0, ha1, ha2, hz, hokI, hrt, atC_eq h, hs, hs', hlf, hl0]
        refine ⟨k + 1, by omega, by simpa using hg, by omega, ?_⟩
        exact Wk.tlD (m := 1) rfl (by simp [hold, upd, tl_cons, hw1]) (by simp [okL_cons, okL_nil, ok1, ok0]) (okH_cBx _ _ _ (by simp [okH_nil]))
      · have hb := hbad (by rw [hlm]; simp [limOk, hlf, atC_eq h, hl0])
        simp -implicitDefEqProofs [List.lookup_cons, eS, h, cBx, iOb, F54, F127, F29, h8, h8', hw0, hn0, ha1, ha2, hz, hokI, hrt, atC_eq h, hs, hs', hlf, hl0]
        refine fin_pure (by simp) ?_
        simp -implicitDefEqProofs [fS, rn0, pickObs, deI, hb]
  · have e : k = c.cls.length := by omega
    subst e
    have ht : treeOk c.cls = true := by rw [htd, ha, hu, hn, h1']; rfl
    simp -implicitDefEqProofs [List.lookup_cons, eS, cBx]
    refine fin_pure (by simp) ?_
    simp -implicitDefEqProofs [fS, rn0, pickObs, deI, ht]
end Go.Proofs
namespace Go.Proofs
open Go.Abs
theorem c31 : GenCA K Tryz.prog 31 F105 := by
  refine contractA Tryz.mix K [(56, F56), (32, F106)] [] (by simp [c56, c32]) (by simp) Tryz.func31 rfl (by decide) ?_
  intro xs hxs
  obtain ⟨c, rfl, hp⟩ := F105_in hxs
  rw [F105_res]
  refine ⟨by rw [Tryz.ntmps31]; simp, ?_⟩
  have hl := hp.2.1
  simp -implicitDefEqProofs [Tryz.f31, List.lookup_cons, eS]
  refine loopP_inv (fun k : Nat => ⟨44, tl [(1, .optr 0 0 0 0), (6, .sl (tR c.fil)), (7, I c.fil.length), (8, I k)], [cBx c]⟩) (fun k => k ≤ c.fil.length ∧ (List.range k).all (filP c.cls c.fil) = true) (fun k => c.fil.length - k) 0 (by simp) (Wk.tl (by simp [hold, upd, tl_cons])) ?_
  rintro k ⟨hk, ha⟩
  by_cases h : k < c.fil.length
  · have hw1 := w64n (show k < 4611686018427387904 by omega)
    have hbad : filP c.cls c.fil k = false → filOk c.cls c.fil = false := fun hb => by
      have := all_rb (filP c.cls c.fil) c.fil.length k h hb
      show ((List.range c.fil.length).all (filP c.cls c.fil) && _) = false
      rw [this]; rfl
    have hgood : filP c.cls c.fil k = true → (List.range (k + 1)).all (filP c.cls c.fil) = true := fun hb => by rw [all_r, ha, hb]; rfl
    cases hr : c.fil[k].ok with
    | false =>
      have hb := hbad (by simp [filP, atF_eq h, hr])
      simp -implicitDefEqProofs [List.lookup_cons, eS, h, cBx]
      refine drawP_all _ (by decide) ?_
      simp -implicitDefEqProofs [List.lookup_cons, eS, h, cBx, F56, F106, hr]
      refine fin_pure (by simp) ?_
      simp -implicitDefEqProofs [fS, rn0, pickObs, deI, hb]
    | true =>
      by_cases hk0 : k = 0
      · subst hk0
        cases ht : targetOk c.cls c.fil[0].target with
        | true =>
          have hg := hgood (by simp [filP, atF_eq h, hr, ht])
          simp -implicitDefEqProofs [List.lookup_cons, eS, h, cBx]
          refine drawP_all _ (by decide) ?_
          simp -implicitDefEqProofs [List.lookup_cons, eS, h, cBx, F56, F106, hr, hp, ht]
          refine ⟨1, by omega, by simpa using hg, by omega, ?_⟩
          exact Wk.tlD (m := 1) rfl (by simp [hold, upd, tl_cons, show IntKind.i64.wrap (1 : Int) = 1 from by decide]) (by simp [okL_cons, okL_nil, ok1, ok0]) (okH_cBx _ _ _ (by simp [okH_nil]))
        | false =>
          have hb := hbad (by simp [filP, atF_eq h, hr, ht])
          simp -implicitDefEqProofs [List.lookup_cons, eS, h, cBx]
          refine drawP_all _ (by decide) ?_
          simp -implicitDefEqProofs [List.lookup_cons, eS, h, cBx, F56, F106, hr, hp, ht]
          refine fin_pure (by simp) ?_
          simp -implicitDefEqProofs [fS, rn0, pickObs, deI, hb]
      · obtain ⟨j, hjk⟩ : ∃ j, k - 1 = j := ⟨_, rfl⟩
        have hj : j < c.fil.length := by omega
        have hw0 : IntKind.i64.wrap ((k : Int) - 1) = j := by rw [w64 (by omega) (by omega)]; omega
        have hp0 : 0 < k := by omega
        by_cases hlt : c.fil[j].prio < c.fil[k].prio
        · have hn : ¬ c.fil[k].prio ≤ c.fil[j].prio := by omega
          cases ht : targetOk c.cls c.fil[k].target with
          | true =>
            have hg := hgood (by simp [filP, hjk, atF_eq h, atF_eq hj, hr, hlt, ht])
            simp -implicitDefEqProofs [List.lookup_cons, eS, h, cBx]
            refine drawP_all _ (by decide) ?_
            simp -implicitDefEqProofs [List.lookup_cons, eS, h, hj, cBx, F56, F106, hr, hp, ht, hw0, hp0, hn]
            refine ⟨k + 1, by omega, by simpa using hg, by omega, ?_⟩
            exact Wk.tlD (m := 1) rfl (by simp [hold, upd, tl_cons, hw1]) (by simp [okL_cons, okL_nil, ok1, ok0]) (okH_cBx _ _ _ (by simp [okH_nil]))
          | false =>
            have hb := hbad (by simp [filP, hjk, atF_eq h, atF_eq hj, hr, hlt, ht])
            simp -implicitDefEqProofs [List.lookup_cons, eS, h, cBx]
            refine drawP_all _ (by decide) ?_
            simp -implicitDefEqProofs [List.lookup_cons, eS, h, hj, cBx, F56, F106, hr, hp, ht, hw0, hp0, hn]
            refine fin_pure (by simp) ?_
            simp -implicitDefEqProofs [fS, rn0, pickObs, deI, hb]
        · have hb := hbad (by simp [filP, hk0, hjk, atF_eq h, atF_eq hj, hlt])
          have hn : c.fil[k].prio ≤ c.fil[j].prio := by omega
          simp -implicitDefEqProofs [List.lookup_cons, eS, h, cBx]
          refine drawP_all _ (by decide) ?_
          simp -implicitDefEqProofs [List.lookup_cons, eS, h, hj, cBx, F56, F106, hr, hp, hw0, hp0, hn]
          refine fin_pure (by simp) ?_
          simp -implicitDefEqProofs [fS, rn0, pickObs, deI, hb]
  · have e : k = c.fil.length := by omega
    subst e
    have h2 : filOk c.cls c.fil = decide (c.fil.length ≤ 16) := by
      show ((List.range c.fil.length).all (filP c.cls c.fil) && _) = _
      rw [ha]; rfl
    simp -implicitDefEqProofs [List.lookup_cons, eS, cBx]
    refine fin_pure (by simp) ?_
    simp -implicitDefEqProofs [fS, rn0, pickObs, deI, h2]
    omega
theorem c13 : GenCA K Tryz.prog 13 F34 := by
  refine contractA Tryz.mix K [(28, F71), (29, F29), (30, F30), (31, F105), (32, F106)] [] (by simp [c28, c29, c30, c31, c32]) (by simp) Tryz.func13 rfl (by decide) ?_
  intro xs hxs
  obtain ⟨c, rfl, hp⟩ := F34_in hxs
  rw [F34_res, isCfg_eq]
  refine ⟨by rw [Tryz.ntmps13]; simp, ?_⟩
  cases h1 : nmOk c.name with
  | false =>
    simp -implicitDefEqProofs [Tryz.f13, List.lookup_cons, eS, F29, F30, F105, F106, hp, hp.2.2, h1]
    refine fin_pure (by simp) ?_
    simp -implicitDefEqProofs [fS, rn0, pickObs, deI, cfgOk, h1]
  | true =>
  cases h2 : rng 1 24 (c.cls.length : Int) with
  | false =>
    simp -implicitDefEqProofs [Tryz.f13, List.lookup_cons, eS, F29, F30, F105, F106, hp, hp.2.2, h1, h2]
    refine fin_pure (by simp) ?_
    simp -implicitDefEqProofs [fS, rn0, pickObs, deI, cfgOk, h2]
  | true =>
  cases h3 : treeOk c.cls with
  | false =>
    simp -implicitDefEqProofs [Tryz.f13, List.lookup_cons, eS, F29, F30, F105, F106, hp, hp.2.2, h1, h2, h3]
    refine fin_pure (by simp) ?_
    simp -implicitDefEqProofs [fS, rn0, pickObs, deI, cfgOk, h3]
  | true =>
  cases h4 : filOk c.cls c.fil with
  | false =>
    simp -implicitDefEqProofs [Tryz.f13, List.lookup_cons, eS, F29, F30, F105, F106, hp, hp.2.2, h1, h2, h3, h4]
    refine fin_pure (by simp) ?_
    simp -implicitDefEqProofs [fS, rn0, pickObs, deI, cfgOk, h4]
  | true =>
  by_cases hd : c.dflt = 0
  · have hp0 : okC ⟨c.name, c.cls, c.fil, 0⟩ := hp
    simp -implicitDefEqProofs [Tryz.f13, List.lookup_cons, eS, F29, F30, F105, F106, hp, hp.2.2, h1, h2, h3, h4, hd, hp0]
    refine fin_pure (by simp) ?_
    simp -implicitDefEqProofs [fS, rn0, pickObs, deI, cfgOk, h1, h2, h3, h4, hd]
  · simp -implicitDefEqProofs [Tryz.f13, List.lookup_cons, eS, F29, F30, F105, F106, hp, hp.2.2, h1, h2, h3, h4, hd]
    refine fin_pure (by simp) ?_
    simp -implicitDefEqProofs [fS, rn0, pickObs, deI, cfgOk, h1, h2, h3, h4, hd]
end Go.Proofs
