/-
  What is proved here: contracts of the ways up, the rates, the limits. Condition: none.
-/
import Derived.Test.YtglbimhhiikkpaaDoorC3r
import Derived.Test.YtglbimhhiikkpaaDoorI1r
namespace Go.Proofs
open Go.Abs
set_option linter.unusedSimpArgs false
set_option linter.unnecessarySimpa false
set_option linter.unusedVariables false
set_option maxHeartbeats 4000000
set_option maxRecDepth 20000

/-! ### ways -/
theorem rawG_rng (l : List Cls) : ∀ (f : Nat) (out : List Int) (i : Int), (∀ x ∈ out, 0 ≤ x ∧ x < l.length) → i < l.length → ∀ x ∈ (rawG l f out i).1, 0 ≤ x ∧ x < l.length
  | 0, out, i, h, _ => h
  | f + 1, out, i, h, hi => by
    simp only [rawG]
    by_cases h0 : i < 0
    · simpa [h0] using h
    · cases hc : out.contains i with
      | true => simpa [h0, hc] using h
      | false =>
        simp only [h0, if_false, Bool.false_eq_true]
        refine rawG_rng l f (out ++ [i]) (nxt l i) ?_ (fidx_rng l _).2
        intro x hx
        rcases List.mem_append.1 hx with h1 | h1
        · exact h x h1
        · simp at h1; omega
theorem rawG_pre (l : List Cls) : ∀ (f : Nat) (out : List Int) (i : Int), ∃ t, (rawG l f out i).1 = out ++ t
  | 0, out, i => ⟨[], by simp [rawG]⟩
  | f + 1, out, i => by
    simp only [rawG]
    by_cases h0 : i < 0
    · exact ⟨[], by simp [h0]⟩
    · cases hc : out.contains i with
      | true => exact ⟨[], by simp [h0]⟩
      | false =>
        obtain ⟨t, ht⟩ := rawG_pre l f (out ++ [i]) (nxt l i)
        exact ⟨i :: t, by simp [h0, ht]⟩
theorem rawG_len (l : List Cls) : ∀ (f : Nat) (out : List Int) (i : Int), (rawG l f out i).1.length ≤ out.length + f
  | 0, out, i => by simp [rawG]
  | f + 1, out, i => by
    simp only [rawG]
    by_cases h0 : i < 0
    · simp [h0]
    · cases hc : out.contains i with
      | true => simp [h0]
      | false =>
        have := rawG_len l f (out ++ [i]) (nxt l i)
        simp [h0] at this ⊢
        omega
theorem raw_at (l : List Cls) (i : Nat) (hi : i < l.length) : ∃ n : Nat, ∃ h : n < (rawG l (l.length + 1) [] i).1.length, n + 1 = (rawG l (l.length + 1) [] i).1.length ∧ (rawG l (l.length + 1) [] i).1.getLast?.getD 0 = (rawG l (l.length + 1) [] i).1[n] ∧ ∃ a : Nat, (rawG l (l.length + 1) [] i).1[n] = a ∧ a < l.length := by
  have hr := rawG_rng l (l.length + 1) [] i (by simp) (by omega)
  obtain ⟨t, ht⟩ := rawG_pre l l.length [(i : Int)] (nxt l i)
  have h0 : ¬ (i : Int) < 0 := by omega
  have he : (rawG l (l.length + 1) [] i).1 = (i : Int) :: t := by
    rw [← List.singleton_append, ← ht]
    simp [rawG, h0]
  generalize rawG l (l.length + 1) [] i = r at hr he
  have hlen : 0 < r.1.length := by rw [he]; simp
  have hn : r.1.length - 1 < r.1.length := by omega
  have h2 := hr _ (List.getElem_mem hn)
  refine ⟨r.1.length - 1, hn, by omega, ?_, (r.1[r.1.length - 1]).toNat, by omega, by omega⟩
  rw [List.getLast?_eq_getElem?, List.getElem?_eq_getElem hn, Option.getD_some]
def F154 : Fun := ⟨fun xs => xs = [.agg (cX (deC (xs.getD 0 .top) : Cfg)), I (deI (xs.getD 1 .top) : Int)] ∧ (fun (c : Cfg) (i : Int) => (okI c i)) (deC (xs.getD 0 .top) : Cfg) (deI (xs.getD 1 .top) : Int), fun xs => (fun (c : Cfg) (i : Int) => ((.tup [.osl 0 0, B (rawG c.cls (c.cls.length + 1) [] i).2], [iOb (rawG c.cls (c.cls.length + 1) [] i).1]) : X × List Ob)) (deC (xs.getD 0 .top) : Cfg) (deI (xs.getD 1 .top) : Int)⟩
theorem F154_in {xs : List X} (h : F154.pre xs) : ∃ (c : Cfg) (i : Int), xs = [.agg (cX c), I i] ∧ (okI c i) := ⟨_, _, h.1, h.2⟩
theorem F154_res (c : Cfg) (i : Int) : F154.res [.agg (cX c), I i] = (.tup [.osl 0 0, B (rawG c.cls (c.cls.length + 1) [] i).2], [iOb (rawG c.cls (c.cls.length + 1) [] i).1]) := by simp [F154]
theorem F154_mk (c : Cfg) (i : Int) (h : okI c i) : F154.pre [.agg (cX c), I i] := by simpa [F154] using h
theorem c154 : GenCA K Tryd.prog 154 F154 := by
  refine contractA Tryd.mix K [(72, F72), (113, F113)] [] (by simp [c72, c113]) (by simp) Tryd.func154 rfl (by decide) ?_
  intro xs hxs
  obtain ⟨c, i, rfl, hp⟩ := F154_in hxs
  rw [F154_res]
  refine ⟨by rw [Tryd.ntmps154]; simp, ?_⟩
  have hl := hp.1.1
  simp -implicitDefEqProofs [Tryd.f154, List.lookup_cons, and_assoc, pick_and, pick_or, if_and, if_or, eBuildSlice, srcRows, srcOk, chunk]
  refine loopP_inv (fun a : Nat × List Int × Int => ⟨27, tl [(1, I a.2.2), (2, .optr 0 0 0 0), (6, .osl 1 0)], [cBx c, iOb a.2.1]⟩) (fun a => rawG c.cls a.1 a.2.1 a.2.2 = rawG c.cls (c.cls.length + 1) [] i ∧ a.2.2 < c.cls.length ∧ a.2.1.length + a.1 = c.cls.length + 1 ∧ a.2.1.Nodup ∧ ∀ x ∈ a.2.1, 0 ≤ x ∧ x < c.cls.length) (fun a => a.1) (c.cls.length + 1, [], i) ⟨rfl, hp.2.2, by simp, by simp, by simp⟩ (Wk.tl (by simp [hold, upd, tl_cons])) ?_
  rintro ⟨f, out, j⟩ ⟨hR, hj, hf, hn, hx⟩
  simp only at hR hj hf hn hx
  have hol := nodup_len c.cls.length out hn hx
  cases f with
  | zero => omega
  | succ f =>
  by_cases h : j < 0
  · have h' : ¬ 0 ≤ j := by omega
    have e : rawG c.cls (f + 1) out j = (out, true) := by simp [rawG, h]
    rw [← hR, e]
    simp -implicitDefEqProofs [List.lookup_cons, and_assoc, pick_and, pick_or, if_and, if_or, h', cBx, iOb]
    refine fin_own [1] (by simp [pickOk, -List.all_eq_true, iR_ok]) ?_
    simp -implicitDefEqProofs [pur2_i, pur2_b, pur2_s, pur2_nil, pur2_sl, pur2_tup, rn2_tup, rn2_agg, rn2_osl, rn1_v, rn1_osl, rn1_agg, rn0_v, rn0_sl, rn0, pickObs, pur_v, pur_b, pur_s, pur_nil, pur_sl, deI, deIs_sl, iOb]
  · have h' : 0 ≤ j := by omega
    obtain ⟨j, rfl⟩ := Int.eq_ofNat_of_zero_le h'
    have hj' : j < c.cls.length := by omega
    cases hc : out.contains (j : Int) with
    | true =>
      have hcm : (j : Int) ∈ out := List.contains_iff_mem.1 hc
      have e : rawG c.cls (f + 1) out j = (out, false) := by simp [rawG, h, hcm]
      rw [← hR, e]
      simp -implicitDefEqProofs [List.lookup_cons, and_assoc, pick_and, pick_or, if_and, if_or, cBx, iOb, F113, hcm, show out.length ≤ 1048576 by omega]
      refine fin_own [1] (by simp [pickOk, -List.all_eq_true, iR_ok]) ?_
      simp -implicitDefEqProofs [pur2_i, pur2_b, pur2_s, pur2_nil, pur2_sl, pur2_tup, rn2_tup, rn2_agg, rn2_osl, rn1_v, rn1_osl, rn1_agg, rn0_v, rn0_sl, rn0, pickObs, pur_v, pur_b, pur_s, pur_nil, pur_sl, deI, deIs_sl, iOb]
    | false =>
      have hcm : (j : Int) ∉ out := fun e => by rw [List.contains_iff_mem.2 e] at hc; cases hc
      have e : rawG c.cls (f + 1) out j = rawG c.cls f (out ++ [(j : Int)]) (nxt c.cls j) := by simp [rawG, h, hcm]
      simp -implicitDefEqProofs [List.lookup_cons, and_assoc, pick_and, pick_or, if_and, if_or, cBx, iOb, F113, hcm, show out.length ≤ 1048576 by omega, eAppend, eBuildSlice, srcRows, srcOk, chunk]
      refine ⟨by omega, by omega, drawP_all _ (by decide) ?_⟩
      have hnx : fidx c.cls c.cls[j].par = nxt c.cls (j : Int) := by simp [nxt, atC_eq hj']
      have hnr : nxt c.cls (j : Int) < c.cls.length := (fidx_rng c.cls _).2
      simp -implicitDefEqProofs [List.lookup_cons, and_assoc, pick_and, pick_or, if_and, if_or, cBx, iOb, hj', hp.1, F72, hnx]
      refine ⟨f, out ++ [(j : Int)], nxt c.cls j, by rw [← e, hR], hnr, by simp; omega, ?_, ?_, by omega, ?_⟩
      · rw [List.nodup_append]
        refine ⟨hn, by simp, fun x h1 y h2 => ?_⟩
        simp at h2
        subst h2
        exact fun e => hcm (e ▸ h1)
      · intro x h1
        rcases List.mem_append.1 h1 with h1 | h1
        · exact hx x h1
        · simp at h1; omega
      · rw [show iR out ++ [[I (j : Int)]] = iR (out ++ [(j : Int)]) by simp [← iR_append, iR_cons, iR_nil]]
        refine Wk.tlP [0, 1] (by simp [pickOk, -List.all_eq_true, iR_ok, ok0]) ?_ ?_
        · simp [pickObs]
        · simp [hold, upd, tl_cons, rn1, rn0]
          exact ⟨rfl, rfl⟩
def F122 : Fun := ⟨fun xs => xs = [.agg (cX (deC (xs.getD 0 .top) : Cfg))] ∧ (fun (c : Cfg) => (okC c)) (deC (xs.getD 0 .top) : Cfg), fun xs => (fun (c : Cfg) => ((B (cn4 c.cls), []) : X × List Ob)) (deC (xs.getD 0 .top) : Cfg)⟩
theorem F122_in {xs : List X} (h : F122.pre xs) : ∃ (c : Cfg), xs = [.agg (cX c)] ∧ (okC c) := ⟨_, h.1, h.2⟩
theorem F122_res (c : Cfg) : F122.res [.agg (cX c)] = (B (cn4 c.cls), []) := by simp [F122]
theorem F122_mk (c : Cfg) (h : okC c) : F122.pre [.agg (cX c)] := by simpa [F122] using h
theorem c122 : GenCA K Tryd.prog 122 F122 := by
  refine contractA Tryd.mix K [(154, F154)] [] (by simp [c154]) (by simp) Tryd.func122 rfl (by decide) ?_
  intro xs hxs
  obtain ⟨c, rfl, hp⟩ := F122_in hxs
  rw [F122_res]
  refine ⟨by rw [Tryd.ntmps122]; simp, ?_⟩
  have hl := hp.1
  simp -implicitDefEqProofs [Tryd.f122, List.lookup_cons, and_assoc, pick_and, pick_or, if_and, if_or]
  refine loopP_inv (fun k : Nat => ⟨40, tl [(1, .optr 0 0 0 0), (7, .sl (tR c.cls)), (8, I c.cls.length), (9, I k)], [cBx c]⟩) (fun k => k ≤ c.cls.length ∧ (List.range k).all (rawOk c.cls) = true) (fun k => c.cls.length - k) 0 (by simp) (Wk.tl (by simp [hold, upd, tl_cons])) ?_
  rintro k ⟨hk, ha⟩
  by_cases h : k < c.cls.length
  · have hw1 := w64n (show k < 4611686018427387904 by omega)
    have hokI : okI c k := ⟨hp, by omega, by omega⟩
    have hrl := rawG_len c.cls (c.cls.length + 1) [] k
    simp only [List.length_nil] at hrl
    have hbad : rawOk c.cls k = false → cn4 c.cls = false := fun hb => all_rb _ _ k h hb
    have hgood : rawOk c.cls k = true → (List.range (k + 1)).all (rawOk c.cls) = true := fun hb => by rw [all_r, ha, hb]; rfl
    obtain ⟨n, hn, hn1, hlast, a, ha1, ha2⟩ := raw_at c.cls k h
    have hro : rawOk c.cls k = ((rawG c.cls (c.cls.length + 1) [] k).2 && decide (n + 1 ≤ 8) && decide (c.cls[a].par = 0)) := by
      rw [rawOk, hlast, ha1, ← hn1, Int.toNat_natCast, atC_eq ha2]
    simp -implicitDefEqProofs [List.lookup_cons, and_assoc, pick_and, pick_or, if_and, if_or, h, cBx, iOb, F154, hokI, -BitVec.toNat_and]
    refine drawP_all _ (by decide) ?_
    generalize hr : rawG c.cls (c.cls.length + 1) [] (k : Int) = r at hn hn1 hlast ha1 hro
    obtain ⟨w, b⟩ := r
    simp only at hn hn1 hlast ha1 hro
    rw [hr] at hrl
    simp only at hrl
    have hw0 : IntKind.i64.wrap ((w.length : Int) - 1) = n := by rw [← hn1]; rw [w64 (by omega) (by omega)]; omega
    have hwl : w.length = n + 1 := hn1.symm
    cases b with
    | false =>
      have hb := hbad (by rw [hro]; rfl)
      simp -implicitDefEqProofs [List.lookup_cons, and_assoc, pick_and, pick_or, if_and, if_or, h, cBx, iOb]
      refine fin_pure (by simp) ?_
      simp -implicitDefEqProofs [pur2_i, pur2_b, pur2_s, pur2_nil, pur2_sl, pur2_tup, rn2_tup, rn2_agg, rn2_osl, rn1_v, rn1_osl, rn1_agg, rn0_v, rn0_sl, rn0, pickObs, pur_v, pur_b, pur_s, pur_nil, pur_sl, deI, deIs_sl, hb]
    | true =>
      by_cases h8 : (8 : Int) < (w.length : Int)
      · have hb := hbad (by rw [hro]; simp; omega)
        have h8' : 8 < w.length := by omega
        simp -implicitDefEqProofs [List.lookup_cons, and_assoc, pick_and, pick_or, if_and, if_or, h, cBx, iOb, h8, h8']
        refine fin_pure (by simp) ?_
        simp -implicitDefEqProofs [pur2_i, pur2_b, pur2_s, pur2_nil, pur2_sl, pur2_tup, rn2_tup, rn2_agg, rn2_osl, rn1_v, rn1_osl, rn1_agg, rn0_v, rn0_sl, rn0, pickObs, pur_v, pur_b, pur_s, pur_nil, pur_sl, deI, deIs_sl, hb]
      · have h8' : ¬ 8 < w.length := by omega
        have h9 : n + 1 ≤ 8 := by omega
        by_cases hz : c.cls[a].par = 0
        · have hg := hgood (by rw [hro]; simp [h9, hz])
          simp -implicitDefEqProofs [List.lookup_cons, and_assoc, pick_and, pick_or, if_and, if_or, h, cBx, iOb, h8, h8', hw0, hn, ha1, ha2, hz]
          refine ⟨k + 1, by omega, by simpa using hg, by omega, ?_⟩
          exact Wk.tlD (m := 1) rfl (by simp [hold, upd, tl_cons, hw1]) (by simp [okL_cons, okL_nil, ok1, ok0]) (okH_cBx _ _ _ (by simp [okH_nil]))
        · have hb := hbad (by rw [hro]; simp [hz])
          simp -implicitDefEqProofs [List.lookup_cons, and_assoc, pick_and, pick_or, if_and, if_or, h, cBx, iOb, h8, h8', hw0, hn, ha1, ha2, hz]
          refine fin_pure (by simp) ?_
          simp -implicitDefEqProofs [pur2_i, pur2_b, pur2_s, pur2_nil, pur2_sl, pur2_tup, rn2_tup, rn2_agg, rn2_osl, rn1_v, rn1_osl, rn1_agg, rn0_v, rn0_sl, rn0, pickObs, pur_v, pur_b, pur_s, pur_nil, pur_sl, deI, deIs_sl, hb]
  · have e : k = c.cls.length := by omega
    subst e
    have h4 : cn4 c.cls = true := ha
    simp -implicitDefEqProofs [List.lookup_cons, and_assoc, pick_and, pick_or, if_and, if_or, cBx]
    refine fin_pure (by simp) ?_
    simp -implicitDefEqProofs [pur2_i, pur2_b, pur2_s, pur2_nil, pur2_sl, pur2_tup, rn2_tup, rn2_agg, rn2_osl, rn1_v, rn1_osl, rn1_agg, rn0_v, rn0_sl, rn0, pickObs, pur_v, pur_b, pur_s, pur_nil, pur_sl, deI, deIs_sl, h4]

/-! ### rates -/
def cp0 (c : List X) : Prop := c = []
theorem cp0_pu (c : List X) (h : cp0 c) : c.all isP0 = true ∧ ∀ n, c.map (purN [] n) = c := by
  rw [cp0] at h; rw [h]; exact ⟨rfl, fun n => rfl⟩
@[simp] theorem cp0_nil : cp0 [] := rfl
theorem cpr {p : List X → Cls → Bool} {xs : List X} (h : (FPr cp0 p).pre xs) : ∃ x : Cls, xs = [.agg (rX x)] := ⟨_, h.1.trans (congrArg (List.cons _) h.2)⟩
def prRt (_ : List X) (x : Cls) : Bool := !rng 0 1000000000 x.rate
theorem c155 : GenCA K Tryd.prog 155 (FPr cp0 prRt) := by
  refine contractA Tryd.mix K [] [] (by simp) (by simp) Tryd.func155 rfl (by decide) ?_
  intro xs hxs
  obtain ⟨x, rfl⟩ := cpr hxs
  have hres : (FPr cp0 prRt).res [.agg (rX x)] = (B (!rng 0 1000000000 x.rate), []) := by simp only [FPr, List.getD_cons_zero, List.tail_cons, deA_agg, dec_rX, prRt]
  rw [hres]
  refine ⟨by rw [Tryd.ntmps155]; simp, ?_⟩
  by_cases h1 : x.rate < 0
  · have e : rng 0 1000000000 x.rate = false := by simp [rng]; omega
    simp -implicitDefEqProofs [Tryd.f155, List.lookup_cons, and_assoc, pick_and, pick_or, if_and, if_or, h1]
    refine fin_pure (by simp) ?_
    simp -implicitDefEqProofs [pur2_i, pur2_b, pur2_s, pur2_nil, pur2_sl, pur2_tup, rn2_tup, rn2_agg, rn2_osl, rn1_v, rn1_osl, rn1_agg, rn0_v, rn0_sl, rn0, pickObs, pur_v, pur_b, pur_s, pur_nil, pur_sl, deI, deIs_sl, e]
  · have h1' : 0 ≤ x.rate := by omega
    simp -implicitDefEqProofs [Tryd.f155, List.lookup_cons, and_assoc, pick_and, pick_or, if_and, if_or, h1, h1']
    refine fin_pure (by simp) ?_
    simp -implicitDefEqProofs [pur2_i, pur2_b, pur2_s, pur2_nil, pur2_sl, pur2_tup, rn2_tup, rn2_agg, rn2_osl, rn1_v, rn1_osl, rn1_agg, rn0_v, rn0_sl, rn0, pickObs, pur_v, pur_b, pur_s, pur_nil, pur_sl, deI, deIs_sl, rng, h1']
    rw [Bool.eq_iff_iff]
    simp
def rtsOk (l : List Cls) : Bool := l.all fun x => rng 0 1000000000 x.rate
def F125 : Fun := ⟨fun xs => xs = [.agg (cX (deC (xs.getD 0 .top) : Cfg))] ∧ (fun (c : Cfg) => (okC c)) (deC (xs.getD 0 .top) : Cfg), fun xs => (fun (c : Cfg) => ((B (rtsOk c.cls), []) : X × List Ob)) (deC (xs.getD 0 .top) : Cfg)⟩
theorem F125_in {xs : List X} (h : F125.pre xs) : ∃ (c : Cfg), xs = [.agg (cX c)] ∧ (okC c) := ⟨_, h.1, h.2⟩
theorem F125_res (c : Cfg) : F125.res [.agg (cX c)] = (B (rtsOk c.cls), []) := by simp [F125]
theorem F125_mk (c : Cfg) (h : okC c) : F125.pre [.agg (cX c)] := by simpa [F125] using h
theorem c125 : GenCA K Tryd.prog 125 F125 := by
  refine contractA Tryd.mix K [(123, FCt 155 cp0 prRt)] [] (by simp [cCtCls 155 cp0 prRt cp0_pu c155]) (by simp) Tryd.func125 rfl (by decide) ?_
  intro xs hxs
  obtain ⟨c, rfl, hp⟩ := F125_in hxs
  rw [F125_res]
  refine ⟨by rw [Tryd.ntmps125]; simp, ?_⟩
  have hl : c.cls.any (prRt []) = !rtsOk c.cls := by simp [rtsOk, List.not_all_eq_any_not]; rfl
  simp -implicitDefEqProofs [Tryd.f125, List.lookup_cons, and_assoc, pick_and, pick_or, if_and, if_or, FIx, FCt, hp.1, hl]
  refine fin_pure (by simp) ?_
  simp -implicitDefEqProofs [pur2_i, pur2_b, pur2_s, pur2_nil, pur2_sl, pur2_tup, rn2_tup, rn2_agg, rn2_osl, rn1_v, rn1_osl, rn1_agg, rn0_v, rn0_sl, rn0, pickObs, pur_v, pur_b, pur_s, pur_nil, pur_sl, deI, deIs_sl]
theorem rt_bd {l : List Cls} (h : rtsOk l = true) (k : Nat) : 0 ≤ (atC l k).rate ∧ (atC l k).rate ≤ 1000000000 := by
  by_cases hk : k < l.length
  · have := all_atC.1 h k hk
    simp [rng] at this
    exact this
  · have : atC l k = Cls.z := by simp [atC, List.getD, List.getElem?_eq_none (show l.length ≤ k by omega)]
    rw [this]; decide
theorem rateSum_bd {l : List Cls} (h : rtsOk l = true) : ∀ ks : List Nat, 0 ≤ rateSum l ks ∧ rateSum l ks ≤ 1000000000 * ks.length
  | [] => by simp [rateSum]
  | k :: ks => by
    have := rateSum_bd h ks
    have h2 := rt_bd h k
    unfold rateSum at this ⊢
    simp only [List.map_cons, List.sum_cons, List.length_cons]
    omega
theorem rateSum_app (l : List Cls) (ks : List Nat) (k : Nat) : rateSum l (ks ++ [k]) = rateSum l ks + (atC l k).rate := by simp [rateSum]
theorem nI_get (l : List Nat) (k : Nat) (h : k < (nI l).length) : (nI l)[k] = ((l[k]'(by rw [← nI_len]; exact h) : Nat) : Int) := by simp [nI]
def F156 : Fun := ⟨fun xs => xs = [.agg (cX (deC (xs.getD 0 .top) : Cfg)), I (deI (xs.getD 1 .top) : Int)] ∧ (fun (c : Cfg) (i : Int) => (okI c i ∧ rtsOk c.cls = true)) (deC (xs.getD 0 .top) : Cfg) (deI (xs.getD 1 .top) : Int), fun xs => (fun (c : Cfg) (i : Int) => ((I (rateSum c.cls (kids c.cls i.toNat c.cls.length)), []) : X × List Ob)) (deC (xs.getD 0 .top) : Cfg) (deI (xs.getD 1 .top) : Int)⟩
theorem F156_in {xs : List X} (h : F156.pre xs) : ∃ (c : Cfg) (i : Int), xs = [.agg (cX c), I i] ∧ (okI c i ∧ rtsOk c.cls = true) := ⟨_, _, h.1, h.2⟩
theorem F156_res (c : Cfg) (i : Int) : F156.res [.agg (cX c), I i] = (I (rateSum c.cls (kids c.cls i.toNat c.cls.length)), []) := by simp [F156]
theorem F156_mk (c : Cfg) (i : Int) (h : okI c i ∧ rtsOk c.cls = true) : F156.pre [.agg (cX c), I i] := by simpa [F156] using h
theorem c156 : GenCA K Tryd.prog 156 F156 := by
  refine contractA Tryd.mix K [(162, F162)] [] (by simp [c162]) (by simp) Tryd.func156 rfl (by decide) ?_
  intro xs hxs
  obtain ⟨c, i, rfl, hp⟩ := F156_in hxs
  rw [F156_res]
  refine ⟨by rw [Tryd.ntmps156]; simp, ?_⟩
  obtain ⟨hI, hr⟩ := hp
  obtain ⟨i, rfl⟩ := Int.eq_ofNat_of_zero_le hI.2.1
  have hi : i < c.cls.length := by have := hI.2.2; omega
  have hl := hI.1.1
  have hlt := kids_lt c.cls i c.cls.length
  have hkl := kids_len c.cls i c.cls.length
  simp -implicitDefEqProofs [Tryd.f156, List.lookup_cons, and_assoc, pick_and, pick_or, if_and, if_or, F162, hI, iOb]
  generalize hK : kids c.cls i c.cls.length = ks at hlt hkl
  have hnl := nI_len ks
  refine loopP_inv (fun k : Nat => ⟨26, tl [(2, .optr 0 0 0 0), (5, I (rateSum c.cls (ks.take k))), (10, .osl 1 0), (11, I ks.length), (12, I k)], [cBx c, iOb (nI ks)]⟩) (fun k => k ≤ ks.length) (fun k => ks.length - k) 0 (Nat.zero_le _) (Wk.tl (by simp [hold, upd, tl_cons, rateSum, hnl])) ?_
  intro k hk
  by_cases h : k < ks.length
  · have hw1 := w64n (show k < 4611686018427387904 by omega)
    have hkc : ks[k] < c.cls.length := hlt _ (List.getElem_mem h)
    have hb1 := rateSum_bd hr (ks.take k)
    have hb2 := rt_bd hr ks[k]
    rw [atC_eq hkc] at hb2
    have hb3 : (ks.take k).length ≤ 1048576 := by simp; omega
    have hw2 : IntKind.i64.wrap (rateSum c.cls (ks.take k) + c.cls[ks[k]].rate) = rateSum c.cls (ks.take k) + c.cls[ks[k]].rate := w64 (by omega) (by omega)
    have hT : rateSum c.cls (ks.take (k + 1)) = rateSum c.cls (ks.take k) + c.cls[ks[k]].rate := by rw [takeS ks k h, rateSum_app, atC_eq hkc]
    simp -implicitDefEqProofs [List.lookup_cons, and_assoc, pick_and, pick_or, if_and, if_or, h, cBx, iOb, hnl, nI_get, hkc, hw2]
    refine ⟨k + 1, by omega, by omega, ?_⟩
    rw [hT]
    exact Wk.tl (by simp [hold, upd, tl_cons, hw1])
  · have e : k = ks.length := by omega
    subst e
    rw [List.take_length]
    simp -implicitDefEqProofs [List.lookup_cons, and_assoc, pick_and, pick_or, if_and, if_or, cBx, iOb]
    refine fin_pure (by simp) ?_
    simp -implicitDefEqProofs [pur2_i, pur2_b, pur2_s, pur2_nil, pur2_sl, pur2_tup, rn2_tup, rn2_agg, rn2_osl, rn1_v, rn1_osl, rn1_agg, rn0_v, rn0_sl, rn0, pickObs, pur_v, pur_b, pur_s, pur_nil, pur_sl, deI, deIs_sl]
def overP (l : List Cls) (k : Nat) : Bool := decide ((atC l k).rate < rateSum l (kids l k l.length))
def F126 : Fun := ⟨fun xs => xs = [.agg (cX (deC (xs.getD 0 .top) : Cfg))] ∧ (fun (c : Cfg) => (okC c ∧ rtsOk c.cls = true)) (deC (xs.getD 0 .top) : Cfg), fun xs => (fun (c : Cfg) => ((.osl 0 0, [iOb (fl (overP c.cls) c.cls.length)]) : X × List Ob)) (deC (xs.getD 0 .top) : Cfg)⟩
theorem F126_in {xs : List X} (h : F126.pre xs) : ∃ (c : Cfg), xs = [.agg (cX c)] ∧ (okC c ∧ rtsOk c.cls = true) := ⟨_, h.1, h.2⟩
theorem F126_res (c : Cfg) : F126.res [.agg (cX c)] = (.osl 0 0, [iOb (fl (overP c.cls) c.cls.length)]) := by simp [F126]
theorem F126_mk (c : Cfg) (h : okC c ∧ rtsOk c.cls = true) : F126.pre [.agg (cX c)] := by simpa [F126] using h
theorem c126 : GenCA K Tryd.prog 126 F126 := by
  refine contractA Tryd.mix K [(156, F156)] [] (by simp [c156]) (by simp) Tryd.func126 rfl (by decide) ?_
  intro xs hxs
  obtain ⟨c, rfl, hp⟩ := F126_in hxs
  rw [F126_res]
  refine ⟨by rw [Tryd.ntmps126]; simp, ?_⟩
  obtain ⟨hp, hr⟩ := hp
  have hl := hp.1
  simp -implicitDefEqProofs [Tryd.f126, F156, List.lookup_cons, and_assoc, pick_and, pick_or, if_and, if_or, eBuildSlice, srcRows, srcOk, chunk]
  refine loopP_inv (fun k : Nat => ⟨27, tl [(1, .optr 0 0 0 0), (3, .osl 1 0), (8, .sl (tR c.cls)), (9, I c.cls.length), (10, I k)], [cBx c, iOb (fl (overP c.cls) k)]⟩) (fun k => k ≤ c.cls.length) (fun k => c.cls.length - k) 0 (Nat.zero_le _) (Wk.tl (by simp [hold, upd, tl_cons])) ?_
  intro k hk
  by_cases h : k < c.cls.length
  · have hw1 := w64n (show k < 4611686018427387904 by omega)
    have hln := fl_len (overP c.cls) k
    have hokI : okI c k := ⟨hp, by omega, by omega⟩
    simp -implicitDefEqProofs [List.lookup_cons, and_assoc, pick_and, pick_or, if_and, if_or, h, cBx, iOb, eAppend, eBuildSlice, srcRows, srcOk, chunk]
    refine drawP_all _ (by decide) ?_
    by_cases hz : c.cls[k].rate < rateSum c.cls (kids c.cls k c.cls.length)
    · have hb : overP c.cls k = true := by simp [overP, atC_eq h, hz]
      simp -implicitDefEqProofs [List.lookup_cons, and_assoc, pick_and, pick_or, if_and, if_or, h, hz, hokI, hr, F156, cBx, iOb, eAppend, eBuildSlice, srcRows, srcOk, chunk]
      refine ⟨by omega, by omega, k + 1, by omega, by omega, ?_⟩
      rw [fl_app hb]
      refine Wk.tlP [0, 1] (by simp [pickOk, -List.all_eq_true, iR_ok, ok0]) ?_ ?_
      · simp [pickObs]
      · simp [hold, upd, tl_cons, rn1, rn0, hw1]
        exact ⟨rfl, rfl⟩
    · have hb : overP c.cls k = false := by simp [overP, atC_eq h]; omega
      simp -implicitDefEqProofs [List.lookup_cons, and_assoc, pick_and, pick_or, if_and, if_or, h, hz, hokI, hr, F156, cBx, iOb, eAppend, eBuildSlice, srcRows, srcOk, chunk]
      refine ⟨k + 1, by omega, by omega, ?_⟩
      rw [fl_same hb]
      exact Wk.tlD (m := 2) rfl (by simp [hold, upd, tl_cons, hw1]) (by simp [okL_cons, okL_nil, ok1, ok0]) (okH_cBx _ _ _ (okH_iR _ _ _ _ _ _ _ _ _ (by simp [okH_nil])))
  · have e : k = c.cls.length := by omega
    subst e
    simp -implicitDefEqProofs [List.lookup_cons, and_assoc, pick_and, pick_or, if_and, if_or, iOb, cBx]
    refine fin_own [1] (by simp [pickOk, -List.all_eq_true, iR_ok]) ?_
    simp -implicitDefEqProofs [pur2_i, pur2_b, pur2_s, pur2_nil, pur2_sl, pur2_tup, rn2_tup, rn2_agg, rn2_osl, rn1_v, rn1_osl, rn1_agg, rn0_v, rn0_sl, rn0, pickObs, pur_v, pur_b, pur_s, pur_nil, pur_sl, deI, deIs_sl, iOb]
theorem c6_eq (l : List Cls) : cn6 l = (rtsOk l && decide ((fl (overP l) l.length).length = 0)) := by
  rw [fl_nil]
  have : ((List.range l.length).all fun i => !overP l i) = (List.range l.length).all (fun i => decide (rateSum l (kids l i l.length) ≤ (atC l i).rate)) := by
    rw [Bool.eq_iff_iff, all_range, all_range]
    refine forall_congr' fun i => forall_congr' fun _ => ?_
    simp [overP]
  rw [this, cn6, rtsOk]

/-! ### limits and targets -/
def F128 : Fun := ⟨fun xs => xs = [.agg (cX (deC (xs.getD 0 .top) : Cfg)), I (deI (xs.getD 1 .top) : Int)] ∧ (fun (c : Cfg) (i : Int) => (okI c i)) (deC (xs.getD 0 .top) : Cfg) (deI (xs.getD 1 .top) : Int), fun xs => (fun (c : Cfg) (i : Int) => ((B (limOk c.cls i.toNat), []) : X × List Ob)) (deC (xs.getD 0 .top) : Cfg) (deI (xs.getD 1 .top) : Int)⟩
theorem F128_in {xs : List X} (h : F128.pre xs) : ∃ (c : Cfg) (i : Int), xs = [.agg (cX c), I i] ∧ (okI c i) := ⟨_, _, h.1, h.2⟩
theorem F128_res (c : Cfg) (i : Int) : F128.res [.agg (cX c), I i] = (B (limOk c.cls i.toNat), []) := by simp [F128]
theorem F128_mk (c : Cfg) (i : Int) (h : okI c i) : F128.pre [.agg (cX c), I i] := by simpa [F128] using h
theorem c128 : GenCA K Tryd.prog 128 F128 := by
  refine contractA Tryd.mix K [(135, F135)] [] (by simp [c135]) (by simp) Tryd.func128 rfl (by decide) ?_
  intro xs hxs
  obtain ⟨c, i, rfl, hp⟩ := F128_in hxs
  rw [F128_res]
  refine ⟨by rw [Tryd.ntmps128]; simp, ?_⟩
  obtain ⟨i, rfl⟩ := Int.eq_ofNat_of_zero_le hp.2.1
  have hi : i < c.cls.length := by have := hp.2.2; omega
  cases hlf : leafB c.cls i with
  | true =>
    simp -implicitDefEqProofs [Tryd.f128, F135, List.lookup_cons, and_assoc, pick_and, pick_or, if_and, if_or, hp, hi, hlf]
    refine fin_pure (by simp) ?_
    simp -implicitDefEqProofs [pur2_i, pur2_b, pur2_s, pur2_nil, pur2_sl, pur2_tup, rn2_tup, rn2_agg, rn2_osl, rn1_v, rn1_osl, rn1_agg, rn0_v, rn0_sl, rn0, pickObs, pur_v, pur_b, pur_s, pur_nil, pur_sl, deI, deIs_sl, limOk, hlf, rng, atC_eq hi]
  | false =>
    simp -implicitDefEqProofs [Tryd.f128, F135, List.lookup_cons, and_assoc, pick_and, pick_or, if_and, if_or, hp, hi, hlf]
    refine fin_pure (by simp) ?_
    simp -implicitDefEqProofs [pur2_i, pur2_b, pur2_s, pur2_nil, pur2_sl, pur2_tup, rn2_tup, rn2_agg, rn2_osl, rn1_v, rn1_osl, rn1_agg, rn0_v, rn0_sl, rn0, pickObs, pur_v, pur_b, pur_s, pur_nil, pur_sl, deI, deIs_sl, limOk, hlf, atC_eq hi]
    rfl
def F89 : Fun := ⟨fun xs => xs = [.agg (cX (deC (xs.getD 0 .top) : Cfg)), I (deI (xs.getD 1 .top) : Int)] ∧ (fun (c : Cfg) (id : Int) => (okC c)) (deC (xs.getD 0 .top) : Cfg) (deI (xs.getD 1 .top) : Int), fun xs => (fun (c : Cfg) (id : Int) => ((B (targetOk c.cls id), []) : X × List Ob)) (deC (xs.getD 0 .top) : Cfg) (deI (xs.getD 1 .top) : Int)⟩
theorem F89_in {xs : List X} (h : F89.pre xs) : ∃ (c : Cfg) (id : Int), xs = [.agg (cX c), I id] ∧ (okC c) := ⟨_, _, h.1, h.2⟩
theorem F89_res (c : Cfg) (id : Int) : F89.res [.agg (cX c), I id] = (B (targetOk c.cls id), []) := by simp [F89]
theorem F89_mk (c : Cfg) (id : Int) (h : okC c) : F89.pre [.agg (cX c), I id] := by simpa [F89] using h
theorem c89 : GenCA K Tryd.prog 89 F89 := by
  refine contractA Tryd.mix K [(72, F72), (135, F135)] [] (by simp [c72, c135]) (by simp) Tryd.func89 rfl (by decide) ?_
  intro xs hxs
  obtain ⟨c, id, rfl, hp⟩ := F89_in hxs
  rw [F89_res]
  refine ⟨by rw [Tryd.ntmps89]; simp, ?_⟩
  have hf := fidx_rng c.cls id
  by_cases h : 0 ≤ fidx c.cls id
  · have hokI : okI c (fidx c.cls id) := ⟨hp, h, hf.2⟩
    simp -implicitDefEqProofs [Tryd.f89, F72, F135, List.lookup_cons, and_assoc, pick_and, pick_or, if_and, if_or, hp, h, hokI]
    refine fin_pure (by simp) ?_
    simp -implicitDefEqProofs [pur2_i, pur2_b, pur2_s, pur2_nil, pur2_sl, pur2_tup, rn2_tup, rn2_agg, rn2_osl, rn1_v, rn1_osl, rn1_agg, rn0_v, rn0_sl, rn0, pickObs, pur_v, pur_b, pur_s, pur_nil, pur_sl, deI, deIs_sl, targetOk, h]
  · have h' : fidx c.cls id < 0 := by omega
    simp -implicitDefEqProofs [Tryd.f89, F72, F135, List.lookup_cons, and_assoc, pick_and, pick_or, if_and, if_or, hp, h, h']
    refine fin_pure (by simp) ?_
    simp -implicitDefEqProofs [pur2_i, pur2_b, pur2_s, pur2_nil, pur2_sl, pur2_tup, rn2_tup, rn2_agg, rn2_osl, rn1_v, rn1_osl, rn1_agg, rn0_v, rn0_sl, rn0, pickObs, pur_v, pur_b, pur_s, pur_nil, pur_sl, deI, deIs_sl, targetOk, h]
end Go.Proofs
