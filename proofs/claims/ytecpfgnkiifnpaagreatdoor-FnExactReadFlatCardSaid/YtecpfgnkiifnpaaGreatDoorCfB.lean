/-
  What is proved here: contracts of the conditions on a configuration, and of IsConfig. Condition: none.
  What is proved here: contracts of the ways up, the rates, the limits. Condition: none.
  What is proved here: contracts of the condition on the filters, of all ten conditions, and of IsConfig. Condition: none.
-/
import Derived.Test.YtecpfgnkiifnpaaGreatDoorC2m
import Derived.Test.YtecpfgnkiifnpaaGreatDoorI1m
set_option linter.unusedVariables false
set_option linter.unusedSimpArgs false
set_option linter.unnecessarySimpa false
set_option maxHeartbeats 4000000
set_option maxRecDepth 20000
namespace Go.Proofs
open Go.Abs
/-! ### places with a mark -/
def fl (p : Nat → Bool) (n : Nat) : List Int := nI ((List.range n).filter p)
theorem fl_succ (p : Nat → Bool) (n : Nat) : fl p (n + 1) = fl p n ++ (if p n = true then [(n : Int)] else []) := by
  unfold fl nI
  rw [List.range_succ, List.filter_append]
  cases h : p n <;> simp [h]
theorem fl_len (p : Nat → Bool) (n : Nat) : (fl p n).length ≤ n := by
  unfold fl
  rw [nI_len]
  exact Nat.le_trans (List.length_filter_le _ _) (by simp)
theorem fl_app {p : Nat → Bool} {k : Nat} (h : p k = true) : iR (fl p k) ++ [[I (k : Int)]] = iR (fl p (k + 1)) := by
  rw [fl_succ, if_pos h]; simp [← iR_append, iR_cons, iR_nil]
theorem fl_same {p : Nat → Bool} {k : Nat} (h : p k = false) : fl p (k + 1) = fl p k := by
  rw [fl_succ, if_neg (by simp [h])]; simp
theorem fl_nil (p : Nat → Bool) (n : Nat) : decide ((fl p n).length = 0) = (List.range n).all fun i => !p i := by
  rw [Bool.eq_iff_iff, decide_eq_true_eq, fl, nI_len]
  simp [List.length_eq_zero_iff, List.filter_eq_nil_iff]
theorem all_r (p : Nat → Bool) (n : Nat) : (List.range (n + 1)).all p = ((List.range n).all p && p n) := by simp [List.range_succ]
theorem all_rb (p : Nat → Bool) (n k : Nat) (h : k < n) (hp : p k = false) : (List.range n).all p = false := not_true fun h3 => by
  rw [all_range.1 h3 k h] at hp; cases hp
/-! ### parents -/
def badP (l : List Cls) (k : Nat) : Bool := !decide ((atC l k).par = 0) && decide (fidx l (atC l k).par < 0)
def F122 : Fun := ⟨fun xs => xs = [.agg (cX (deC (xs.getD 0 .top) : Cfg))] ∧ (fun (c : Cfg) => (okC c)) (deC (xs.getD 0 .top) : Cfg), fun xs => (fun (c : Cfg) => ((.osl 0 0, [iOb (fl (badP c.cls) c.cls.length)]) : X × List Ob)) (deC (xs.getD 0 .top) : Cfg)⟩
theorem F122_in {xs : List X} (h : F122.pre xs) : ∃ (c : Cfg), xs = [.agg (cX c)] ∧ (okC c) := ⟨_, h.1, h.2⟩
theorem F122_res (c : Cfg) : F122.res [.agg (cX c)] = (.osl 0 0, [iOb (fl (badP c.cls) c.cls.length)]) := by simp [F122]
theorem F122_mk (c : Cfg) (h : okC c) : F122.pre [.agg (cX c)] := by simpa [F122] using h
theorem c122 : GenCA K Tryz.prog 122 F122 := by
  refine contractA Tryz.mix K [(129, F129)] [] (by simp [c129]) (by simp) Tryz.func122 rfl (by decide) ?_
  intro xs hxs
  obtain ⟨c, rfl, hp⟩ := F122_in hxs
  rw [F122_res]
  refine ⟨by rw [Tryz.ntmps122]; simp, ?_⟩
  have hl := hp.1
  simp -implicitDefEqProofs [Tryz.f122, F129, List.lookup_cons, eS, eBuildSlice, srcRows, srcOk, chunk]
  refine loopP_inv (fun k : Nat => ⟨31, tl [(1, .optr 0 0 0 0), (3, .osl 1 0), (8, .sl (tR c.cls)), (9, I c.cls.length), (10, I k)], [cBx c, iOb (fl (badP c.cls) k)]⟩) (fun k => k ≤ c.cls.length) (fun k => c.cls.length - k) 0 (Nat.zero_le _) (Wk.tl (by simp [hold, upd, tl_cons])) ?_
  intro k hk
  by_cases h : k < c.cls.length
  · have hw1 := w64n (show k < 4611686018427387904 by omega)
    have hln := fl_len (badP c.cls) k
    by_cases hz : c.cls[k].par = 0
    · have hb : badP c.cls k = false := by simp [badP, atC_eq h, hz]
      simp -implicitDefEqProofs [List.lookup_cons, eS, h, hz, cBx, iOb, eAppend, eBuildSlice, srcRows, srcOk, chunk]
      refine ⟨k + 1, by omega, by omega, ?_⟩
      rw [fl_same hb]
      exact Wk.tlD (m := 2) rfl (by simp [hold, upd, tl_cons, hw1]) (by simp [okL_cons, okL_nil, ok1, ok0]) (okH_cBx _ _ _ (okH_iR _ _ _ _ _ _ _ _ _ (by simp [okH_nil])))
    · by_cases hf : fidx c.cls c.cls[k].par < 0
      · have hb : badP c.cls k = true := by simp [badP, atC_eq h, hz, hf]
        have hf2 : ¬ 0 ≤ fidx c.cls c.cls[k].par := by omega
        simp -implicitDefEqProofs [List.lookup_cons, eS, h, hz, hf, hf2, hp, F129, cBx, iOb, eAppend, eBuildSlice, srcRows, srcOk, chunk]
        refine ⟨by omega, by omega, k + 1, by omega, by omega, ?_⟩
        rw [fl_app hb]
        refine Wk.tlP [0, 1] (by simp [pickOk, -List.all_eq_true, iR_ok, ok0, Sx]) ?_ ?_
        · simp [pickObs, Sx]
        · simp [hold, upd, tl_cons, rn1, rn0, hw1]
          exact ⟨rfl, rfl⟩
      · have hb : badP c.cls k = false := by simp [badP, atC_eq h, hf]
        have hf2 : 0 ≤ fidx c.cls c.cls[k].par := by omega
        simp -implicitDefEqProofs [List.lookup_cons, eS, h, hz, hf, hf2, hp, F129, cBx, iOb, eAppend, eBuildSlice, srcRows, srcOk, chunk]
        refine ⟨k + 1, by omega, by omega, ?_⟩
        rw [fl_same hb]
        exact Wk.tlD (m := 2) rfl (by simp [hold, upd, tl_cons, hw1]) (by simp [okL_cons, okL_nil, ok1, ok0]) (okH_cBx _ _ _ (okH_iR _ _ _ _ _ _ _ _ _ (by simp [okH_nil])))
  · have e : k = c.cls.length := by omega
    subst e
    simp -implicitDefEqProofs [List.lookup_cons, eS, iOb, cBx]
    refine fin_own [1] (by simp [pickOk, -List.all_eq_true, iR_ok]) ?_
    simp -implicitDefEqProofs [fS, rn0, pickObs, deI, iOb]
def topsU (l : List Cls) (k : Nat) : Int := ((l.take k).countP fun x => decide (x.par = 0) : Nat)
theorem topsU_succ (l : List Cls) (k : Nat) (h : k < l.length) : topsU l (k + 1) = topsU l k + (if l[k].par = 0 then 1 else 0) := by
  unfold topsU
  rw [takeS l k h, List.countP_append]
  by_cases h2 : l[k].par = 0 <;> simp [h2]
theorem topsU_le (l : List Cls) (k : Nat) : 0 ≤ topsU l k ∧ topsU l k ≤ k := by
  unfold topsU
  have := List.countP_le_length (p := fun x : Cls => decide (x.par = 0)) (l := l.take k)
  simp at this
  omega
theorem c3_eq (l : List Cls) : cn3 l = (decide (topsU l l.length = 1) && decide ((fl (badP l) l.length).length = 0)) := by
  rw [fl_nil]
  have e1 : decide (topsU l l.length = 1) = decide (tops l = 1) := by
    unfold topsU tops
    rw [List.take_length, Bool.eq_iff_iff]
    simp only [decide_eq_true_eq]
    omega
  have e2 : ((List.range l.length).all fun i => !badP l i) = l.all (fun x => decide (x.par = 0) || decide (0 ≤ fidx l x.par)) := by
    rw [Bool.eq_iff_iff, all_range, all_atC]
    refine forall_congr' fun i => forall_congr' fun hi => ?_
    simp only [badP]
    by_cases h1 : (atC l i).par = 0
    · simp [h1]
    · by_cases h2 : fidx l (atC l i).par < 0
      · have : ¬ 0 ≤ fidx l (atC l i).par := by omega
        simp [h1, h2, this]
      · have : 0 ≤ fidx l (atC l i).par := by omega
        simp [h1, h2, this]
  rw [e1, e2, cn3]
def F95 : Fun := ⟨fun xs => xs = [.agg (cX (deC (xs.getD 0 .top) : Cfg))] ∧ (fun (c : Cfg) => (okC c)) (deC (xs.getD 0 .top) : Cfg), fun xs => (fun (c : Cfg) => ((B (cn3 c.cls), []) : X × List Ob)) (deC (xs.getD 0 .top) : Cfg)⟩
theorem F95_in {xs : List X} (h : F95.pre xs) : ∃ (c : Cfg), xs = [.agg (cX c)] ∧ (okC c) := ⟨_, h.1, h.2⟩
theorem F95_res (c : Cfg) : F95.res [.agg (cX c)] = (B (cn3 c.cls), []) := by simp [F95]
theorem F95_mk (c : Cfg) (h : okC c) : F95.pre [.agg (cX c)] := by simpa [F95] using h
theorem c95 : GenCA K Tryz.prog 95 F95 := by
  refine contractA Tryz.mix K [(122, F122.pu)] [] (by simp [c122.pu]) (by simp) Tryz.func95 rfl (by decide) ?_
  intro xs hxs
  obtain ⟨c, rfl, hp⟩ := F95_in hxs
  rw [F95_res]
  refine ⟨by rw [Tryz.ntmps95]; simp, ?_⟩
  have hl := hp.1
  simp -implicitDefEqProofs [Tryz.f95, List.lookup_cons, eS]
  refine loopP_inv (fun k : Nat => ⟨27, tl [(1, .optr 0 0 0 0), (3, I (topsU c.cls k)), (7, .sl (tR c.cls)), (8, I c.cls.length), (9, I k)], [cBx c]⟩) (fun k => k ≤ c.cls.length) (fun k => c.cls.length - k) 0 (Nat.zero_le _) (Wk.tl (by simp [hold, upd, tl_cons, topsU])) ?_
  intro k hk
  by_cases h : k < c.cls.length
  · have hw1 := w64n (show k < 4611686018427387904 by omega)
    have hS := topsU_succ c.cls k h
    have hb := topsU_le c.cls k
    have hw2 : IntKind.i64.wrap (topsU c.cls k + 1) = topsU c.cls k + 1 := w64 (by omega) (by omega)
    by_cases hz : c.cls[k].par = 0
    · rw [if_pos hz] at hS
      simp -implicitDefEqProofs [List.lookup_cons, eS, h, hz, cBx, iOb]
      refine ⟨k + 1, by omega, by omega, ?_⟩
      rw [hS]
      exact Wk.tlD (m := 1) rfl (by simp [hold, upd, tl_cons, hw1, hw2]) (by simp [okL_cons, okL_nil, ok1, ok0]) (okH_cBx _ _ _ (by simp [okH_nil]))
    · rw [if_neg hz, Int.add_zero] at hS
      simp -implicitDefEqProofs [List.lookup_cons, eS, h, hz, cBx, iOb]
      refine ⟨k + 1, by omega, by omega, ?_⟩
      rw [hS]
      exact Wk.tlD (m := 1) rfl (by simp [hold, upd, tl_cons, hw1]) (by simp [okL_cons, okL_nil, ok1, ok0]) (okH_cBx _ _ _ (by simp [okH_nil]))
  · have e : k = c.cls.length := by omega
    subst e
    have hc3 := c3_eq c.cls
    by_cases h1 : topsU c.cls c.cls.length = 1
    · simp -implicitDefEqProofs [List.lookup_cons, eS, h1, hp, F122, iOb, cBx]
      refine fin_pure (by simp) ?_
      simp -implicitDefEqProofs [fS, rn0, pickObs, deI, hc3, h1]
      rw [Bool.eq_iff_iff]
      simp
    · simp -implicitDefEqProofs [List.lookup_cons, eS, h1, hp, F122, iOb, cBx]
      refine fin_pure (by simp) ?_
      simp -implicitDefEqProofs [fS, rn0, pickObs, deI, hc3, h1]
/-! ### ids -/
def idP (l : List Cls) (i : Nat) : Bool := rng 1 999 (atC l i).id && (decide (i = 0) || decide ((atC l (i - 1)).id < (atC l i).id))
def F94 : Fun := ⟨fun xs => xs = [.agg (cX (deC (xs.getD 0 .top) : Cfg))] ∧ (fun (c : Cfg) => (okC c)) (deC (xs.getD 0 .top) : Cfg), fun xs => (fun (c : Cfg) => ((B (cn2 c.cls), []) : X × List Ob)) (deC (xs.getD 0 .top) : Cfg)⟩
theorem F94_in {xs : List X} (h : F94.pre xs) : ∃ (c : Cfg), xs = [.agg (cX c)] ∧ (okC c) := ⟨_, h.1, h.2⟩
theorem F94_res (c : Cfg) : F94.res [.agg (cX c)] = (B (cn2 c.cls), []) := by simp [F94]
theorem F94_mk (c : Cfg) (h : okC c) : F94.pre [.agg (cX c)] := by simpa [F94] using h
theorem c94 : GenCA K Tryz.prog 94 F94 := by
  refine contractA Tryz.mix K [(121, F121)] [] (by simp [c121]) (by simp) Tryz.func94 rfl (by decide) ?_
  intro xs hxs
  obtain ⟨c, rfl, hp⟩ := F94_in hxs
  rw [F94_res]
  refine ⟨by rw [Tryz.ntmps94]; simp, ?_⟩
  have hl := hp.1
  simp -implicitDefEqProofs [Tryz.f94, List.lookup_cons, eS]
  refine loopP_inv (fun k : Nat => ⟨44, tl [(1, .optr 0 0 0 0), (6, .sl (tR c.cls)), (7, I c.cls.length), (8, I k)], [cBx c]⟩) (fun k => k ≤ c.cls.length ∧ (List.range k).all (idP c.cls) = true) (fun k => c.cls.length - k) 0 (by simp) (Wk.tl (by simp [hold, upd, tl_cons])) ?_
  rintro k ⟨hk, ha⟩
  by_cases h : k < c.cls.length
  · have hw1 := w64n (show k < 4611686018427387904 by omega)
    have hbad : idP c.cls k = false → cn2 c.cls = false := fun hb => by
      have := all_rb (idP c.cls) c.cls.length k h hb
      show ((List.range c.cls.length).all (idP c.cls) && _) = false
      rw [this]; rfl
    have hgood : idP c.cls k = true → (List.range (k + 1)).all (idP c.cls) = true := fun hb => by rw [all_r, ha, hb]; rfl
    cases hr : rng 1 999 c.cls[k].id with
    | false =>
      have hb := hbad (by simp [idP, atC_eq h, hr])
      simp -implicitDefEqProofs [List.lookup_cons, eS, h, cBx]
      refine drawP_all _ (by decide) ?_
      simp -implicitDefEqProofs [List.lookup_cons, eS, h, cBx, F121, hr]
      refine fin_pure (by simp) ?_
      simp -implicitDefEqProofs [fS, rn0, pickObs, deI, hb]
    | true =>
      by_cases hk0 : k = 0
      · subst hk0
        have hg := hgood (by simp [idP, atC_eq h, hr])
        simp -implicitDefEqProofs [List.lookup_cons, eS, h, cBx]
        refine drawP_all _ (by decide) ?_
        simp -implicitDefEqProofs [List.lookup_cons, eS, h, cBx, F121, hr]
        refine ⟨1, by omega, by simpa using hg, by omega, ?_⟩
        exact Wk.tlD (m := 1) rfl (by simp [hold, upd, tl_cons, show IntKind.i64.wrap (1 : Int) = 1 from by decide]) (by simp [okL_cons, okL_nil, ok1, ok0]) (okH_cBx _ _ _ (by simp [okH_nil]))
      · obtain ⟨j, hjk⟩ : ∃ j, k - 1 = j := ⟨_, rfl⟩
        have hj : j < c.cls.length := by omega
        have hw0 : IntKind.i64.wrap ((k : Int) - 1) = j := by rw [w64 (by omega) (by omega)]; omega
        have hp0 : 0 < k := by omega
        simp -implicitDefEqProofs [List.lookup_cons, eS, h, cBx]
        refine drawP_all _ (by decide) ?_
        by_cases hlt : c.cls[j].id < c.cls[k].id
        · have hg := hgood (by simp [idP, hjk, atC_eq h, atC_eq hj, hr, hlt])
          have hn : ¬ c.cls[k].id ≤ c.cls[j].id := by omega
          simp -implicitDefEqProofs [List.lookup_cons, eS, h, hj, cBx, F121, hr, hw0, hp0, hn]
          refine ⟨k + 1, by omega, by simpa using hg, by omega, ?_⟩
          exact Wk.tlD (m := 1) rfl (by simp [hold, upd, tl_cons, hw1]) (by simp [okL_cons, okL_nil, ok1, ok0]) (okH_cBx _ _ _ (by simp [okH_nil]))
        · have hb := hbad (by simp [idP, hk0, hjk, atC_eq h, atC_eq hj, hlt])
          have hn : c.cls[k].id ≤ c.cls[j].id := by omega
          simp -implicitDefEqProofs [List.lookup_cons, eS, h, hj, cBx, F121, hr, hw0, hp0, hn]
          refine fin_pure (by simp) ?_
          simp -implicitDefEqProofs [fS, rn0, pickObs, deI, hb]
  · have e : k = c.cls.length := by omega
    subst e
    have h2 : cn2 c.cls = rng 1 24 c.cls.length := by
      show ((List.range c.cls.length).all (idP c.cls) && _) = _
      rw [ha]; rfl
    simp -implicitDefEqProofs [List.lookup_cons, eS, cBx]
    refine fin_pure (by simp) ?_
    simp -implicitDefEqProofs [fS, rn0, pickObs, deI, h2, rng]
end Go.Proofs
namespace Go.Proofs
open Go.Abs
/-! ### ways -/
theorem rawG_rng (l : List Cls) : ∀ (f : Nat) (out : List Int) (i : Int), (∀ x ∈ out, 0 ≤ x ∧ x < l.length) → i < l.length → ∀ x ∈ (rawG l f out i).1, 0 ≤ x ∧ x < l.length
  | 0, out, i, h, _ => h
  | f + 1, out, i, h, hi => by
    simp only [rawG]
    by_cases h0 : i < 0
    · simpa [h0] using h
    · cases hc : out.contains i with
      | true => simpa [h0, hc] using h
      | false =>
        simp only [h0, if_false, Bool.false_eq_true]
        refine rawG_rng l f (out ++ [i]) (nxt l i) ?_ (fidx_rng l _).2
        intro x hx
        rcases List.mem_append.1 hx with h1 | h1
        · exact h x h1
        · simp at h1; omega
theorem rawG_pre (l : List Cls) : ∀ (f : Nat) (out : List Int) (i : Int), ∃ t, (rawG l f out i).1 = out ++ t
  | 0, out, i => ⟨[], by simp [rawG]⟩
  | f + 1, out, i => by
    simp only [rawG]
    by_cases h0 : i < 0
    · exact ⟨[], by simp [h0]⟩
    · cases hc : out.contains i with
      | true => exact ⟨[], by simp [h0]⟩
      | false =>
        obtain ⟨t, ht⟩ := rawG_pre l f (out ++ [i]) (nxt l i)
        exact ⟨i :: t, by simp [h0, ht]⟩
theorem rawG_len (l : List Cls) : ∀ (f : Nat) (out : List Int) (i : Int), (rawG l f out i).1.length ≤ out.length + f
  | 0, out, i => by simp [rawG]
  | f + 1, out, i => by
    simp only [rawG]
    by_cases h0 : i < 0
    · simp [h0]
    · cases hc : out.contains i with
      | true => simp [h0]
      | false =>
        have := rawG_len l f (out ++ [i]) (nxt l i)
        simp [h0] at this ⊢
        omega
theorem raw_at (l : List Cls) (i : Nat) (hi : i < l.length) : ∃ n : Nat, ∃ h : n < (rawG l (l.length + 1) [] i).1.length, n + 1 = (rawG l (l.length + 1) [] i).1.length ∧ (rawG l (l.length + 1) [] i).1.getLast?.getD 0 = (rawG l (l.length + 1) [] i).1[n] ∧ ∃ a : Nat, (rawG l (l.length + 1) [] i).1[n] = a ∧ a < l.length := by
  have hr := rawG_rng l (l.length + 1) [] i (by simp) (by omega)
  obtain ⟨t, ht⟩ := rawG_pre l l.length [(i : Int)] (nxt l i)
  have h0 : ¬ (i : Int) < 0 := by omega
  have he : (rawG l (l.length + 1) [] i).1 = (i : Int) :: t := by
    rw [← List.singleton_append, ← ht]
    simp [rawG, h0]
  generalize rawG l (l.length + 1) [] i = r at hr he
  have hlen : 0 < r.1.length := by rw [he]; simp
  have hn : r.1.length - 1 < r.1.length := by omega
  have h2 := hr _ (List.getElem_mem hn)
  refine ⟨r.1.length - 1, hn, by omega, ?_, (r.1[r.1.length - 1]).toNat, by omega, by omega⟩
  rw [List.getLast?_eq_getElem?, List.getElem?_eq_getElem hn, Option.getD_some]
def F123 : Fun := ⟨fun xs => xs = [.agg (cX (deC (xs.getD 0 .top) : Cfg)), I (deI (xs.getD 1 .top) : Int)] ∧ (fun (c : Cfg) (i : Int) => (okI c i)) (deC (xs.getD 0 .top) : Cfg) (deI (xs.getD 1 .top) : Int), fun xs => (fun (c : Cfg) (i : Int) => ((.tup [.osl 0 0, B (rawG c.cls (c.cls.length + 1) [] i).2], [iOb (rawG c.cls (c.cls.length + 1) [] i).1]) : X × List Ob)) (deC (xs.getD 0 .top) : Cfg) (deI (xs.getD 1 .top) : Int)⟩
theorem F123_in {xs : List X} (h : F123.pre xs) : ∃ (c : Cfg) (i : Int), xs = [.agg (cX c), I i] ∧ (okI c i) := ⟨_, _, h.1, h.2⟩
theorem F123_res (c : Cfg) (i : Int) : F123.res [.agg (cX c), I i] = (.tup [.osl 0 0, B (rawG c.cls (c.cls.length + 1) [] i).2], [iOb (rawG c.cls (c.cls.length + 1) [] i).1]) := by simp [F123]
theorem F123_mk (c : Cfg) (i : Int) (h : okI c i) : F123.pre [.agg (cX c), I i] := by simpa [F123] using h
theorem c123 : GenCA K Tryz.prog 123 F123 := by
  refine contractA Tryz.mix K [(129, F129), (136, F136)] [] (by simp [c129, c136]) (by simp) Tryz.func123 rfl (by decide) ?_
  intro xs hxs
  obtain ⟨c, i, rfl, hp⟩ := F123_in hxs
  rw [F123_res]
  refine ⟨by rw [Tryz.ntmps123]; simp, ?_⟩
  have hl := hp.1.1
  simp -implicitDefEqProofs [Tryz.f123, List.lookup_cons, eS, eBuildSlice, srcRows, srcOk, chunk]
  refine loopP_inv (fun a : Nat × List Int × Int => ⟨27, tl [(1, I a.2.2), (2, .optr 0 0 0 0), (6, .osl 1 0)], [cBx c, iOb a.2.1]⟩) (fun a => rawG c.cls a.1 a.2.1 a.2.2 = rawG c.cls (c.cls.length + 1) [] i ∧ a.2.2 < c.cls.length ∧ a.2.1.length + a.1 = c.cls.length + 1 ∧ a.2.1.Nodup ∧ ∀ x ∈ a.2.1, 0 ≤ x ∧ x < c.cls.length) (fun a => a.1) (c.cls.length + 1, [], i) ⟨rfl, hp.2.2, by simp, by simp, by simp⟩ (Wk.tl (by simp [hold, upd, tl_cons])) ?_
  rintro ⟨f, out, j⟩ ⟨hR, hj, hf, hn, hx⟩
  simp only at hR hj hf hn hx
  have hol := nodup_len c.cls.length out hn hx
  cases f with
  | zero => omega
  | succ f =>
  by_cases h : j < 0
  · have h' : ¬ 0 ≤ j := by omega
    have e : rawG c.cls (f + 1) out j = (out, true) := by simp [rawG, h]
    rw [← hR, e]
    simp -implicitDefEqProofs [List.lookup_cons, eS, h', cBx, iOb]
    refine fin_own [1] (by simp [pickOk, -List.all_eq_true, iR_ok]) ?_
    simp -implicitDefEqProofs [fS, rn0, pickObs, deI, iOb]
  · have h' : 0 ≤ j := by omega
    obtain ⟨j, rfl⟩ := Int.eq_ofNat_of_zero_le h'
    have hj' : j < c.cls.length := by omega
    cases hc : out.contains (j : Int) with
    | true =>
      have hcm : (j : Int) ∈ out := List.contains_iff_mem.1 hc
      have e : rawG c.cls (f + 1) out j = (out, false) := by simp [rawG, h, hcm]
      rw [← hR, e]
      simp -implicitDefEqProofs [List.lookup_cons, eS, cBx, iOb, F136, hcm, show out.length ≤ 1048576 by omega]
      refine fin_own [1] (by simp [pickOk, -List.all_eq_true, iR_ok]) ?_
      simp -implicitDefEqProofs [fS, rn0, pickObs, deI, iOb]
    | false =>
      have hcm : (j : Int) ∉ out := fun e => by rw [List.contains_iff_mem.2 e] at hc; cases hc
      have e : rawG c.cls (f + 1) out j = rawG c.cls f (out ++ [(j : Int)]) (nxt c.cls j) := by simp [rawG, h, hcm]
      simp -implicitDefEqProofs [List.lookup_cons, eS, cBx, iOb, F136, hcm, show out.length ≤ 1048576 by omega, eAppend, eBuildSlice, srcRows, srcOk, chunk]
      refine ⟨by omega, by omega, drawP_all _ (by decide) ?_⟩
      have hnx : fidx c.cls c.cls[j].par = nxt c.cls (j : Int) := by simp [nxt, atC_eq hj']
      have hnr : nxt c.cls (j : Int) < c.cls.length := (fidx_rng c.cls _).2
      simp -implicitDefEqProofs [List.lookup_cons, eS, cBx, iOb, hj', hp.1, F129, hnx]
      refine ⟨f, out ++ [(j : Int)], nxt c.cls j, by rw [← e, hR], hnr, by simp; omega, ?_, ?_, by omega, ?_⟩
      · rw [List.nodup_append]
        refine ⟨hn, by simp, fun x h1 y h2 => ?_⟩
        simp at h2
        subst h2
        exact fun e => hcm (e ▸ h1)
      · intro x h1
        rcases List.mem_append.1 h1 with h1 | h1
        · exact hx x h1
        · simp at h1; omega
      · rw [show iR out ++ [[I (j : Int)]] = iR (out ++ [(j : Int)]) by simp [← iR_append, iR_cons, iR_nil]]
        refine Wk.tlP [0, 1] (by simp [pickOk, -List.all_eq_true, iR_ok, ok0]) ?_ ?_
        · simp [pickObs]
        · simp [hold, upd, tl_cons, rn1, rn0]
          exact ⟨rfl, rfl⟩
def F96 : Fun := ⟨fun xs => xs = [.agg (cX (deC (xs.getD 0 .top) : Cfg))] ∧ (fun (c : Cfg) => (okC c)) (deC (xs.getD 0 .top) : Cfg), fun xs => (fun (c : Cfg) => ((B (cn4 c.cls), []) : X × List Ob)) (deC (xs.getD 0 .top) : Cfg)⟩
theorem F96_in {xs : List X} (h : F96.pre xs) : ∃ (c : Cfg), xs = [.agg (cX c)] ∧ (okC c) := ⟨_, h.1, h.2⟩
theorem F96_res (c : Cfg) : F96.res [.agg (cX c)] = (B (cn4 c.cls), []) := by simp [F96]
theorem F96_mk (c : Cfg) (h : okC c) : F96.pre [.agg (cX c)] := by simpa [F96] using h
theorem c96 : GenCA K Tryz.prog 96 F96 := by
  refine contractA Tryz.mix K [(123, F123)] [] (by simp [c123]) (by simp) Tryz.func96 rfl (by decide) ?_
  intro xs hxs
  obtain ⟨c, rfl, hp⟩ := F96_in hxs
  rw [F96_res]
  refine ⟨by rw [Tryz.ntmps96]; simp, ?_⟩
  have hl := hp.1
  simp -implicitDefEqProofs [Tryz.f96, List.lookup_cons, eS]
  refine loopP_inv (fun k : Nat => ⟨40, tl [(1, .optr 0 0 0 0), (7, .sl (tR c.cls)), (8, I c.cls.length), (9, I k)], [cBx c]⟩) (fun k => k ≤ c.cls.length ∧ (List.range k).all (rawOk c.cls) = true) (fun k => c.cls.length - k) 0 (by simp) (Wk.tl (by simp [hold, upd, tl_cons])) ?_
  rintro k ⟨hk, ha⟩
  by_cases h : k < c.cls.length
  · have hw1 := w64n (show k < 4611686018427387904 by omega)
    have hokI : okI c k := ⟨hp, by omega, by omega⟩
    have hrl := rawG_len c.cls (c.cls.length + 1) [] k
    simp only [List.length_nil] at hrl
    have hbad : rawOk c.cls k = false → cn4 c.cls = false := fun hb => all_rb _ _ k h hb
    have hgood : rawOk c.cls k = true → (List.range (k + 1)).all (rawOk c.cls) = true := fun hb => by rw [all_r, ha, hb]; rfl
    obtain ⟨n, hn, hn1, hlast, a, ha1, ha2⟩ := raw_at c.cls k h
    have hro : rawOk c.cls k = ((rawG c.cls (c.cls.length + 1) [] k).2 && decide (n + 1 ≤ 8) && decide (c.cls[a].par = 0)) := by
      rw [rawOk, hlast, ha1, ← hn1, Int.toNat_natCast, atC_eq ha2]
    simp -implicitDefEqProofs [List.lookup_cons, eS, h, cBx, iOb, F123, hokI, -BitVec.toNat_and]
    refine drawP_all _ (by decide) ?_
    generalize hr : rawG c.cls (c.cls.length + 1) [] (k : Int) = r at hn hn1 hlast ha1 hro
    obtain ⟨w, b⟩ := r
    simp only at hn hn1 hlast ha1 hro
    rw [hr] at hrl
    simp only at hrl
    have hw0 : IntKind.i64.wrap ((w.length : Int) - 1) = n := by rw [← hn1]; rw [w64 (by omega) (by omega)]; omega
    have hwl : w.length = n + 1 := hn1.symm
    cases b with
    | false =>
      have hb := hbad (by rw [hro]; rfl)
      simp -implicitDefEqProofs [List.lookup_cons, eS, h, cBx, iOb]
      refine fin_pure (by simp) ?_
      simp -implicitDefEqProofs [fS, rn0, pickObs, deI, hb]
    | true =>
      by_cases h8 : (8 : Int) < (w.length : Int)
      · have hb := hbad (by rw [hro]; simp; omega)
        have h8' : 8 < w.length := by omega
        simp -implicitDefEqProofs [List.lookup_cons, eS, h, cBx, iOb, h8, h8']
        refine fin_pure (by simp) ?_
        simp -implicitDefEqProofs [fS, rn0, pickObs, deI, hb]
      · have h8' : ¬ 8 < w.length := by omega
        have h9 : n + 1 ≤ 8 := by omega
        by_cases hz : c.cls[a].par = 0
        · have hg := hgood (by rw [hro]; simp [h9, hz])
          simp -implicitDefEqProofs [List.lookup_cons, eS, h, cBx, iOb, h8, h8', hw0, hn, ha1, ha2, hz]
          refine ⟨k + 1, by omega, by simpa using hg, by omega, ?_⟩
          exact Wk.tlD (m := 1) rfl (by simp [hold, upd, tl_cons, hw1]) (by simp [okL_cons, okL_nil, ok1, ok0]) (okH_cBx _ _ _ (by simp [okH_nil]))
        · have hb := hbad (by rw [hro]; simp [hz])
          simp -implicitDefEqProofs [List.lookup_cons, eS, h, cBx, iOb, h8, h8', hw0, hn, ha1, ha2, hz]
          refine fin_pure (by simp) ?_
          simp -implicitDefEqProofs [fS, rn0, pickObs, deI, hb]
  · have e : k = c.cls.length := by omega
    subst e
    have h4 : cn4 c.cls = true := ha
    simp -implicitDefEqProofs [List.lookup_cons, eS, cBx]
    refine fin_pure (by simp) ?_
    simp -implicitDefEqProofs [fS, rn0, pickObs, deI, h4]
/-! ### rates -/
def cp0 (c : List X) : Prop := c = []
theorem cp0_pu (c : List X) (h : cp0 c) : c.all isP0 = true ∧ ∀ n, c.map (purN [] n) = c := by
  rw [cp0] at h; rw [h]; exact ⟨rfl, fun n => rfl⟩
@[simp] theorem cp0_nil : cp0 [] := rfl
theorem cpr {p : List X → Cls → Bool} {xs : List X} (h : (FPr cp0 p).pre xs) : ∃ x : Cls, xs = [.agg (rX x)] := ⟨_, h.1.trans (congrArg (List.cons _) h.2)⟩
def prRt (_ : List X) (x : Cls) : Bool := !rng 0 1000000000 x.rate
theorem c125 : GenCA K Tryz.prog 125 (FPr cp0 prRt) := by
  refine contractA Tryz.mix K [] [] (by simp) (by simp) Tryz.func125 rfl (by decide) ?_
  intro xs hxs
  obtain ⟨x, rfl⟩ := cpr hxs
  have hres : (FPr cp0 prRt).res [.agg (rX x)] = (B (!rng 0 1000000000 x.rate), []) := by simp only [FPr, List.getD_cons_zero, List.tail_cons, deA_agg, dec_rX, prRt]
  rw [hres]
  refine ⟨by rw [Tryz.ntmps125]; simp, ?_⟩
  by_cases h1 : x.rate < 0
  · have e : rng 0 1000000000 x.rate = false := by simp [rng]; omega
    simp -implicitDefEqProofs [Tryz.f125, List.lookup_cons, eS, h1]
    refine fin_pure (by simp) ?_
    simp -implicitDefEqProofs [fS, rn0, pickObs, deI, e]
  · have h1' : 0 ≤ x.rate := by omega
    simp -implicitDefEqProofs [Tryz.f125, List.lookup_cons, eS, h1, h1']
    refine fin_pure (by simp) ?_
    simp -implicitDefEqProofs [fS, rn0, pickObs, deI, rng, h1']
    rw [Bool.eq_iff_iff]
    simp
def rtsOk (l : List Cls) : Bool := l.all fun x => rng 0 1000000000 x.rate
def F100 : Fun := ⟨fun xs => xs = [.agg (cX (deC (xs.getD 0 .top) : Cfg))] ∧ (fun (c : Cfg) => (okC c)) (deC (xs.getD 0 .top) : Cfg), fun xs => (fun (c : Cfg) => ((B (rtsOk c.cls), []) : X × List Ob)) (deC (xs.getD 0 .top) : Cfg)⟩
theorem F100_in {xs : List X} (h : F100.pre xs) : ∃ (c : Cfg), xs = [.agg (cX c)] ∧ (okC c) := ⟨_, h.1, h.2⟩
theorem F100_res (c : Cfg) : F100.res [.agg (cX c)] = (B (rtsOk c.cls), []) := by simp [F100]
theorem F100_mk (c : Cfg) (h : okC c) : F100.pre [.agg (cX c)] := by simpa [F100] using h
theorem c100 : GenCA K Tryz.prog 100 F100 := by
  refine contractA Tryz.mix K [(97, FCt 125 cp0 prRt)] [] (by simp [cCtCls 125 cp0 prRt cp0_pu c125]) (by simp) Tryz.func100 rfl (by decide) ?_
  intro xs hxs
  obtain ⟨c, rfl, hp⟩ := F100_in hxs
  rw [F100_res]
  refine ⟨by rw [Tryz.ntmps100]; simp, ?_⟩
  have hl : c.cls.any (prRt []) = !rtsOk c.cls := by simp [rtsOk, List.not_all_eq_any_not]; rfl
  simp -implicitDefEqProofs [Tryz.f100, List.lookup_cons, eS, FIx, FCt, hp.1, hl]
  refine fin_pure (by simp) ?_
  simp -implicitDefEqProofs [fS, rn0, pickObs, deI]
theorem rt_bd {l : List Cls} (h : rtsOk l = true) (k : Nat) : 0 ≤ (atC l k).rate ∧ (atC l k).rate ≤ 1000000000 := by
  by_cases hk : k < l.length
  · have := all_atC.1 h k hk
    simp [rng] at this
    exact this
  · have : atC l k = Cls.z := by simp [atC, List.getD, List.getElem?_eq_none (show l.length ≤ k by omega)]
    rw [this]; decide
theorem rateSum_bd {l : List Cls} (h : rtsOk l = true) : ∀ ks : List Nat, 0 ≤ rateSum l ks ∧ rateSum l ks ≤ 1000000000 * ks.length
  | [] => by simp [rateSum]
  | k :: ks => by
    have := rateSum_bd h ks
    have h2 := rt_bd h k
    unfold rateSum at this ⊢
    simp only [List.map_cons, List.sum_cons, List.length_cons]
    omega
theorem rateSum_app (l : List Cls) (ks : List Nat) (k : Nat) : rateSum l (ks ++ [k]) = rateSum l ks + (atC l k).rate := by simp [rateSum]
theorem nI_get (l : List Nat) (k : Nat) (h : k < (nI l).length) : (nI l)[k] = ((l[k]'(by rw [← nI_len]; exact h) : Nat) : Int) := by simp [nI]
def F126 : Fun := ⟨fun xs => xs = [.agg (cX (deC (xs.getD 0 .top) : Cfg)), I (deI (xs.getD 1 .top) : Int)] ∧ (fun (c : Cfg) (i : Int) => (okI c i ∧ rtsOk c.cls = true)) (deC (xs.getD 0 .top) : Cfg) (deI (xs.getD 1 .top) : Int), fun xs => (fun (c : Cfg) (i : Int) => ((I (rateSum c.cls (kids c.cls i.toNat c.cls.length)), []) : X × List Ob)) (deC (xs.getD 0 .top) : Cfg) (deI (xs.getD 1 .top) : Int)⟩
theorem F126_in {xs : List X} (h : F126.pre xs) : ∃ (c : Cfg) (i : Int), xs = [.agg (cX c), I i] ∧ (okI c i ∧ rtsOk c.cls = true) := ⟨_, _, h.1, h.2⟩
theorem F126_res (c : Cfg) (i : Int) : F126.res [.agg (cX c), I i] = (I (rateSum c.cls (kids c.cls i.toNat c.cls.length)), []) := by simp [F126]
theorem F126_mk (c : Cfg) (i : Int) (h : okI c i ∧ rtsOk c.cls = true) : F126.pre [.agg (cX c), I i] := by simpa [F126] using h
theorem c126 : GenCA K Tryz.prog 126 F126 := by
  refine contractA Tryz.mix K [(137, F137)] [] (by simp [c137]) (by simp) Tryz.func126 rfl (by decide) ?_
  intro xs hxs
  obtain ⟨c, i, rfl, hp⟩ := F126_in hxs
  rw [F126_res]
  refine ⟨by rw [Tryz.ntmps126]; simp, ?_⟩
  obtain ⟨hI, hr⟩ := hp
  obtain ⟨i, rfl⟩ := Int.eq_ofNat_of_zero_le hI.2.1
  have hi : i < c.cls.length := by have := hI.2.2; omega
  have hl := hI.1.1
  have hlt := kids_lt c.cls i c.cls.length
  have hkl := kids_len c.cls i c.cls.length
  simp -implicitDefEqProofs [Tryz.f126, List.lookup_cons, eS, F137, hI, iOb]
  generalize hK : kids c.cls i c.cls.length = ks at hlt hkl
  have hnl := nI_len ks
  refine loopP_inv (fun k : Nat => ⟨26, tl [(2, .optr 0 0 0 0), (5, I (rateSum c.cls (ks.take k))), (10, .osl 1 0), (11, I ks.length), (12, I k)], [cBx c, iOb (nI ks)]⟩) (fun k => k ≤ ks.length) (fun k => ks.length - k) 0 (Nat.zero_le _) (Wk.tl (by simp [hold, upd, tl_cons, rateSum, hnl])) ?_
  intro k hk
  by_cases h : k < ks.length
  · have hw1 := w64n (show k < 4611686018427387904 by omega)
    have hkc : ks[k] < c.cls.length := hlt _ (List.getElem_mem h)
    have hb1 := rateSum_bd hr (ks.take k)
    have hb2 := rt_bd hr ks[k]
    rw [atC_eq hkc] at hb2
    have hb3 : (ks.take k).length ≤ 1048576 := by simp; omega
    have hw2 : IntKind.i64.wrap (rateSum c.cls (ks.take k) + c.cls[ks[k]].rate) = rateSum c.cls (ks.take k) + c.cls[ks[k]].rate := w64 (by omega) (by omega)
    have hT : rateSum c.cls (ks.take (k + 1)) = rateSum c.cls (ks.take k) + c.cls[ks[k]].rate := by rw [takeS ks k h, rateSum_app, atC_eq hkc]
    simp -implicitDefEqProofs [List.lookup_cons, eS, h, cBx, iOb, hnl, nI_get, hkc, hw2]
    refine ⟨k + 1, by omega, by omega, ?_⟩
    rw [hT]
    exact Wk.tl (by simp [hold, upd, tl_cons, hw1])
  · have e : k = ks.length := by omega
    subst e
    rw [List.take_length]
    simp -implicitDefEqProofs [List.lookup_cons, eS, cBx, iOb]
    refine fin_pure (by simp) ?_
    simp -implicitDefEqProofs [fS, rn0, pickObs, deI]
def overP (l : List Cls) (k : Nat) : Bool := decide ((atC l k).rate < rateSum l (kids l k l.length))
def F101 : Fun := ⟨fun xs => xs = [.agg (cX (deC (xs.getD 0 .top) : Cfg))] ∧ (fun (c : Cfg) => (okC c ∧ rtsOk c.cls = true)) (deC (xs.getD 0 .top) : Cfg), fun xs => (fun (c : Cfg) => ((.osl 0 0, [iOb (fl (overP c.cls) c.cls.length)]) : X × List Ob)) (deC (xs.getD 0 .top) : Cfg)⟩
theorem F101_in {xs : List X} (h : F101.pre xs) : ∃ (c : Cfg), xs = [.agg (cX c)] ∧ (okC c ∧ rtsOk c.cls = true) := ⟨_, h.1, h.2⟩
theorem F101_res (c : Cfg) : F101.res [.agg (cX c)] = (.osl 0 0, [iOb (fl (overP c.cls) c.cls.length)]) := by simp [F101]
theorem F101_mk (c : Cfg) (h : okC c ∧ rtsOk c.cls = true) : F101.pre [.agg (cX c)] := by simpa [F101] using h
theorem c101 : GenCA K Tryz.prog 101 F101 := by
  refine contractA Tryz.mix K [(126, F126)] [] (by simp [c126]) (by simp) Tryz.func101 rfl (by decide) ?_
  intro xs hxs
  obtain ⟨c, rfl, hp⟩ := F101_in hxs
  rw [F101_res]
  refine ⟨by rw [Tryz.ntmps101]; simp, ?_⟩
  obtain ⟨hp, hr⟩ := hp
  have hl := hp.1
  simp -implicitDefEqProofs [Tryz.f101, F126, List.lookup_cons, eS, eBuildSlice, srcRows, srcOk, chunk]
  refine loopP_inv (fun k : Nat => ⟨27, tl [(1, .optr 0 0 0 0), (3, .osl 1 0), (8, .sl (tR c.cls)), (9, I c.cls.length), (10, I k)], [cBx c, iOb (fl (overP c.cls) k)]⟩) (fun k => k ≤ c.cls.length) (fun k => c.cls.length - k) 0 (Nat.zero_le _) (Wk.tl (by simp [hold, upd, tl_cons])) ?_
  intro k hk
  by_cases h : k < c.cls.length
  · have hw1 := w64n (show k < 4611686018427387904 by omega)
    have hln := fl_len (overP c.cls) k
    have hokI : okI c k := ⟨hp, by omega, by omega⟩
    simp -implicitDefEqProofs [List.lookup_cons, eS, h, cBx, iOb, eAppend, eBuildSlice, srcRows, srcOk, chunk]
    refine drawP_all _ (by decide) ?_
    by_cases hz : c.cls[k].rate < rateSum c.cls (kids c.cls k c.cls.length)
    · have hb : overP c.cls k = true := by simp [overP, atC_eq h, hz]
      simp -implicitDefEqProofs [List.lookup_cons, eS, h, hz, hokI, hr, F126, cBx, iOb, eAppend, eBuildSlice, srcRows, srcOk, chunk]
      refine ⟨by omega, by omega, k + 1, by omega, by omega, ?_⟩
      rw [fl_app hb]
      refine Wk.tlP [0, 1] (by simp [pickOk, -List.all_eq_true, iR_ok, ok0]) ?_ ?_
      · simp [pickObs]
      · simp [hold, upd, tl_cons, rn1, rn0, hw1]
        exact ⟨rfl, rfl⟩
    · have hb : overP c.cls k = false := by simp [overP, atC_eq h]; omega
      simp -implicitDefEqProofs [List.lookup_cons, eS, h, hz, hokI, hr, F126, cBx, iOb, eAppend, eBuildSlice, srcRows, srcOk, chunk]
      refine ⟨k + 1, by omega, by omega, ?_⟩
      rw [fl_same hb]
      exact Wk.tlD (m := 2) rfl (by simp [hold, upd, tl_cons, hw1]) (by simp [okL_cons, okL_nil, ok1, ok0]) (okH_cBx _ _ _ (okH_iR _ _ _ _ _ _ _ _ _ (by simp [okH_nil])))
  · have e : k = c.cls.length := by omega
    subst e
    simp -implicitDefEqProofs [List.lookup_cons, eS, iOb, cBx]
    refine fin_own [1] (by simp [pickOk, -List.all_eq_true, iR_ok]) ?_
    simp -implicitDefEqProofs [fS, rn0, pickObs, deI, iOb]
theorem c6_eq (l : List Cls) : cn6 l = (rtsOk l && decide ((fl (overP l) l.length).length = 0)) := by
  rw [fl_nil]
  have : ((List.range l.length).all fun i => !overP l i) = (List.range l.length).all (fun i => decide (rateSum l (kids l i l.length) ≤ (atC l i).rate)) := by
    rw [Bool.eq_iff_iff, all_range, all_range]
    refine forall_congr' fun i => forall_congr' fun _ => ?_
    simp [overP]
  rw [this, cn6, rtsOk]
/-! ### limits and targets -/
def F104 : Fun := ⟨fun xs => xs = [.agg (cX (deC (xs.getD 0 .top) : Cfg)), I (deI (xs.getD 1 .top) : Int)] ∧ (fun (c : Cfg) (i : Int) => (okI c i)) (deC (xs.getD 0 .top) : Cfg) (deI (xs.getD 1 .top) : Int), fun xs => (fun (c : Cfg) (i : Int) => ((B (limOk c.cls i.toNat), []) : X × List Ob)) (deC (xs.getD 0 .top) : Cfg) (deI (xs.getD 1 .top) : Int)⟩
theorem F104_in {xs : List X} (h : F104.pre xs) : ∃ (c : Cfg) (i : Int), xs = [.agg (cX c), I i] ∧ (okI c i) := ⟨_, _, h.1, h.2⟩
theorem F104_res (c : Cfg) (i : Int) : F104.res [.agg (cX c), I i] = (B (limOk c.cls i.toNat), []) := by simp [F104]
theorem F104_mk (c : Cfg) (i : Int) (h : okI c i) : F104.pre [.agg (cX c), I i] := by simpa [F104] using h
theorem c104 : GenCA K Tryz.prog 104 F104 := by
  refine contractA Tryz.mix K [(127, F127)] [] (by simp [c127]) (by simp) Tryz.func104 rfl (by decide) ?_
  intro xs hxs
  obtain ⟨c, i, rfl, hp⟩ := F104_in hxs
  rw [F104_res]
  refine ⟨by rw [Tryz.ntmps104]; simp, ?_⟩
  obtain ⟨i, rfl⟩ := Int.eq_ofNat_of_zero_le hp.2.1
  have hi : i < c.cls.length := by have := hp.2.2; omega
  cases hlf : leafB c.cls i with
  | true =>
    simp -implicitDefEqProofs [Tryz.f104, F127, List.lookup_cons, eS, hp, hi, hlf]
    refine fin_pure (by simp) ?_
    simp -implicitDefEqProofs [fS, rn0, pickObs, deI, limOk, hlf, rng, atC_eq hi]
  | false =>
    simp -implicitDefEqProofs [Tryz.f104, F127, List.lookup_cons, eS, hp, hi, hlf]
    refine fin_pure (by simp) ?_
    simp -implicitDefEqProofs [fS, rn0, pickObs, deI, limOk, hlf, atC_eq hi]
    rfl
def F106 : Fun := ⟨fun xs => xs = [.agg (cX (deC (xs.getD 0 .top) : Cfg)), I (deI (xs.getD 1 .top) : Int)] ∧ (fun (c : Cfg) (id : Int) => (okC c)) (deC (xs.getD 0 .top) : Cfg) (deI (xs.getD 1 .top) : Int), fun xs => (fun (c : Cfg) (id : Int) => ((B (targetOk c.cls id), []) : X × List Ob)) (deC (xs.getD 0 .top) : Cfg) (deI (xs.getD 1 .top) : Int)⟩
theorem F106_in {xs : List X} (h : F106.pre xs) : ∃ (c : Cfg) (id : Int), xs = [.agg (cX c), I id] ∧ (okC c) := ⟨_, _, h.1, h.2⟩
theorem F106_res (c : Cfg) (id : Int) : F106.res [.agg (cX c), I id] = (B (targetOk c.cls id), []) := by simp [F106]
theorem F106_mk (c : Cfg) (id : Int) (h : okC c) : F106.pre [.agg (cX c), I id] := by simpa [F106] using h
theorem c106 : GenCA K Tryz.prog 106 F106 := by
  refine contractA Tryz.mix K [(129, F129), (127, F127)] [] (by simp [c129, c127]) (by simp) Tryz.func106 rfl (by decide) ?_
  intro xs hxs
  obtain ⟨c, id, rfl, hp⟩ := F106_in hxs
  rw [F106_res]
  refine ⟨by rw [Tryz.ntmps106]; simp, ?_⟩
  have hf := fidx_rng c.cls id
  by_cases h : 0 ≤ fidx c.cls id
  · have hokI : okI c (fidx c.cls id) := ⟨hp, h, hf.2⟩
    simp -implicitDefEqProofs [Tryz.f106, F129, F127, List.lookup_cons, eS, hp, h, hokI]
    refine fin_pure (by simp) ?_
    simp -implicitDefEqProofs [fS, rn0, pickObs, deI, targetOk, h]
  · have h' : fidx c.cls id < 0 := by omega
    simp -implicitDefEqProofs [Tryz.f106, F129, F127, List.lookup_cons, eS, hp, h, h']
    refine fin_pure (by simp) ?_
    simp -implicitDefEqProofs [fS, rn0, pickObs, deI, targetOk, h]
end Go.Proofs
namespace Go.Proofs
open Go.Abs
def filP (l : List Cls) (f : List Fil) (i : Nat) : Bool := (atF f i).ok && (decide (i = 0) || decide ((atF f (i - 1)).prio < (atF f i).prio)) && targetOk l (atF f i).target
def F105 : Fun := ⟨fun xs => xs = [.agg (cX (deC (xs.getD 0 .top) : Cfg))] ∧ (fun (c : Cfg) => (okC c)) (deC (xs.getD 0 .top) : Cfg), fun xs => (fun (c : Cfg) => ((B (filOk c.cls c.fil), []) : X × List Ob)) (deC (xs.getD 0 .top) : Cfg)⟩
theorem F105_in {xs : List X} (h : F105.pre xs) : ∃ (c : Cfg), xs = [.agg (cX c)] ∧ (okC c) := ⟨_, h.1, h.2⟩
theorem F105_res (c : Cfg) : F105.res [.agg (cX c)] = (B (filOk c.cls c.fil), []) := by simp [F105]
theorem F105_mk (c : Cfg) (h : okC c) : F105.pre [.agg (cX c)] := by simpa [F105] using h
theorem c105 : GenCA K Tryz.prog 105 F105 := by
  refine contractA Tryz.mix K [(128, F128), (106, F106)] [] (by simp [c128, c106]) (by simp) Tryz.func105 rfl (by decide) ?_
  intro xs hxs
  obtain ⟨c, rfl, hp⟩ := F105_in hxs
  rw [F105_res]
  refine ⟨by rw [Tryz.ntmps105]; simp, ?_⟩
  have hl := hp.2.1
  simp -implicitDefEqProofs [Tryz.f105, List.lookup_cons, eS]
  refine loopP_inv (fun k : Nat => ⟨44, tl [(1, .optr 0 0 0 0), (6, .sl (tR c.fil)), (7, I c.fil.length), (8, I k)], [cBx c]⟩) (fun k => k ≤ c.fil.length ∧ (List.range k).all (filP c.cls c.fil) = true) (fun k => c.fil.length - k) 0 (by simp) (Wk.tl (by simp [hold, upd, tl_cons])) ?_
  rintro k ⟨hk, ha⟩
  by_cases h : k < c.fil.length
  · have hw1 := w64n (show k < 4611686018427387904 by omega)
    have hbad : filP c.cls c.fil k = false → filOk c.cls c.fil = false := fun hb => by
      have := all_rb (filP c.cls c.fil) c.fil.length k h hb
      show ((List.range c.fil.length).all (filP c.cls c.fil) && _) = false
      rw [this]; rfl
    have hgood : filP c.cls c.fil k = true → (List.range (k + 1)).all (filP c.cls c.fil) = true := fun hb => by rw [all_r, ha, hb]; rfl
    cases hr : c.fil[k].ok with
    | false =>
      have hb := hbad (by simp [filP, atF_eq h, hr])
      simp -implicitDefEqProofs [List.lookup_cons, eS, h, cBx]
      refine drawP_all _ (by decide) ?_
      simp -implicitDefEqProofs [List.lookup_cons, eS, h, cBx, F128, F106, hr]
      refine fin_pure (by simp) ?_
      simp -implicitDefEqProofs [fS, rn0, pickObs, deI, hb]
    | true =>
      by_cases hk0 : k = 0
      · subst hk0
        cases ht : targetOk c.cls c.fil[0].target with
        | true =>
          have hg := hgood (by simp [filP, atF_eq h, hr, ht])
          simp -implicitDefEqProofs [List.lookup_cons, eS, h, cBx]
          refine drawP_all _ (by decide) ?_
          simp -implicitDefEqProofs [List.lookup_cons, eS, h, cBx, F128, F106, hr, hp, ht]
          refine ⟨1, by omega, by simpa using hg, by omega, ?_⟩
          exact Wk.tlD (m := 1) rfl (by simp [hold, upd, tl_cons, show IntKind.i64.wrap (1 : Int) = 1 from by decide]) (by simp [okL_cons, okL_nil, ok1, ok0]) (okH_cBx _ _ _ (by simp [okH_nil]))
        | false =>
          have hb := hbad (by simp [filP, atF_eq h, hr, ht])
          simp -implicitDefEqProofs [List.lookup_cons, eS, h, cBx]
          refine drawP_all _ (by decide) ?_
          simp -implicitDefEqProofs [List.lookup_cons, eS, h, cBx, F128, F106, hr, hp, ht]
          refine fin_pure (by simp) ?_
          simp -implicitDefEqProofs [fS, rn0, pickObs, deI, hb]
      · obtain ⟨j, hjk⟩ : ∃ j, k - 1 = j := ⟨_, rfl⟩
        have hj : j < c.fil.length := by omega
        have hw0 : IntKind.i64.wrap ((k : Int) - 1) = j := by rw [w64 (by omega) (by omega)]; omega
        have hp0 : 0 < k := by omega
        by_cases hlt : c.fil[j].prio < c.fil[k].prio
        · have hn : ¬ c.fil[k].prio ≤ c.fil[j].prio := by omega
          cases ht : targetOk c.cls c.fil[k].target with
          | true =>
            have hg := hgood (by simp [filP, hjk, atF_eq h, atF_eq hj, hr, hlt, ht])
            simp -implicitDefEqProofs [List.lookup_cons, eS, h, cBx]
            refine drawP_all _ (by decide) ?_
            simp -implicitDefEqProofs [List.lookup_cons, eS, h, hj, cBx, F128, F106, hr, hp, ht, hw0, hp0, hn]
            refine ⟨k + 1, by omega, by simpa using hg, by omega, ?_⟩
            exact Wk.tlD (m := 1) rfl (by simp [hold, upd, tl_cons, hw1]) (by simp [okL_cons, okL_nil, ok1, ok0]) (okH_cBx _ _ _ (by simp [okH_nil]))
          | false =>
            have hb := hbad (by simp [filP, hjk, atF_eq h, atF_eq hj, hr, hlt, ht])
            simp -implicitDefEqProofs [List.lookup_cons, eS, h, cBx]
            refine drawP_all _ (by decide) ?_
            simp -implicitDefEqProofs [List.lookup_cons, eS, h, hj, cBx, F128, F106, hr, hp, ht, hw0, hp0, hn]
            refine fin_pure (by simp) ?_
            simp -implicitDefEqProofs [fS, rn0, pickObs, deI, hb]
        · have hb := hbad (by simp [filP, hk0, hjk, atF_eq h, atF_eq hj, hlt])
          have hn : c.fil[k].prio ≤ c.fil[j].prio := by omega
          simp -implicitDefEqProofs [List.lookup_cons, eS, h, cBx]
          refine drawP_all _ (by decide) ?_
          simp -implicitDefEqProofs [List.lookup_cons, eS, h, hj, cBx, F128, F106, hr, hp, hw0, hp0, hn]
          refine fin_pure (by simp) ?_
          simp -implicitDefEqProofs [fS, rn0, pickObs, deI, hb]
  · have e : k = c.fil.length := by omega
    subst e
    have h2 : filOk c.cls c.fil = decide (c.fil.length ≤ 16) := by
      show ((List.range c.fil.length).all (filP c.cls c.fil) && _) = _
      rw [ha]; rfl
    simp -implicitDefEqProofs [List.lookup_cons, eS, cBx]
    refine fin_pure (by simp) ?_
    simp -implicitDefEqProofs [fS, rn0, pickObs, deI, h2]
    omega
def prR1 (_ : List X) (x : Cls) : Bool := !x.rateOk
def prR2 (_ : List X) (x : Cls) : Bool := !x.burstOk
theorem c98 : GenCA K Tryz.prog 98 (FPr cp0 prR1) := by
  refine contractA Tryz.mix K [(99, F99)] [] (by simp [c99]) (by simp) Tryz.func98 rfl (by decide) ?_
  intro xs hxs
  obtain ⟨x, rfl⟩ := cpr hxs
  have hres : (FPr cp0 prR1).res [.agg (rX x)] = (B (!x.rateOk), []) := by simp only [FPr, List.getD_cons_zero, List.tail_cons, deA_agg, dec_rX, prR1]
  rw [hres]
  refine ⟨by rw [Tryz.ntmps98]; simp, ?_⟩
  simp -implicitDefEqProofs [Tryz.f98, List.lookup_cons, eS, F99]
  refine fin_pure (by simp) ?_
  simp -implicitDefEqProofs [fS, rn0, pickObs, deI]
theorem c102 : GenCA K Tryz.prog 102 (FPr cp0 prR2) := by
  refine contractA Tryz.mix K [(103, F103)] [] (by simp [c103]) (by simp) Tryz.func102 rfl (by decide) ?_
  intro xs hxs
  obtain ⟨x, rfl⟩ := cpr hxs
  have hres : (FPr cp0 prR2).res [.agg (rX x)] = (B (!x.burstOk), []) := by simp only [FPr, List.getD_cons_zero, List.tail_cons, deA_agg, dec_rX, prR2]
  rw [hres]
  refine ⟨by rw [Tryz.ntmps102]; simp, ?_⟩
  simp -implicitDefEqProofs [Tryz.f102, List.lookup_cons, eS, F103]
  refine fin_pure (by simp) ?_
  simp -implicitDefEqProofs [fS, rn0, pickObs, deI]
end Go.Proofs
