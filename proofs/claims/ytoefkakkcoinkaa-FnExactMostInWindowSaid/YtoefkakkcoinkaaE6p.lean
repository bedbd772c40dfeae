/-
  What is proved here: contracts of the two AccountOf and of their law. Condition: none.
-/
import Derived.Test.YtoefkakkcoinkaaE3p
import Derived.Test.YtoefkakkcoinkaaE4p
import Derived.Test.YtoefkakkcoinkaaE5p
namespace Go.Proofs
open Go.Abs
set_option linter.unusedSimpArgs false
set_option linter.unnecessarySimpa false
set_option linter.unusedVariables false
set_option maxHeartbeats 8000000
set_option maxRecDepth 20000

def sk (l : List Evt) (c k : Int) : Int := (l.map fun e => if e.cls = c ∧ e.kind = k then e.size else 0).sum
theorem sk_step (p : List Evt) (e : Evt) (c k : Int) : sk (p ++ [e]) c k = sk p c k + (if e.cls = c ∧ e.kind = k then e.size else 0) := by
  simp [sk]
theorem sk_nn : ∀ (l : List Evt) (c k : Int), (∀ e ∈ l, e.ok = true) → 0 ≤ sk l c k ∧ sk l c k ≤ 1500 * l.length
  | [], c, k, _ => by simp [sk]
  | e :: l, c, k, h => by
    have ih := sk_nn l c k fun x hx => h x (List.mem_cons_of_mem _ hx)
    have he := h e List.mem_cons_self
    rw [Evt.ok_iff] at he
    have e1 : sk (e :: l) c k = (if e.cls = c ∧ e.kind = k then e.size else 0) + sk l c k := by simp [sk]
    rw [e1]
    simp only [List.length_cons]
    split <;> omega
theorem evsOk_all {l : List Evt} (h : evsOk l = true) : l.length ≤ 80 ∧ ∀ e ∈ l, e.ok = true := by
  simp only [evsOk, Bool.and_eq_true, decide_eq_true_eq] at h
  refine ⟨h.1, fun e he => ?_⟩
  obtain ⟨i, hi, rfl⟩ := List.getElem_of_mem he
  exact stepOk_ok (okUp_at h.2 hi hi)
def acc4 (l : List Evt) (c : Int) : List Int := [sk l c 1, sk l c 2, sk l c 4, sk l c 1 - sk l c 4]
def acc5 (l : List Evt) (c : Int) : List Int := [0, sk l c 1, sk l c 2, sk l c 3, sk l c 4]

def F37 : Fun := ⟨fun xs => xs = [I (deI (xs.getD 0 .top) : Int)] ∧ (fun (x : Int) => (True)) (deI (xs.getD 0 .top) : Int), fun xs => (fun (x : Int) => ((B (rng 1 999 x), []) : X × List Ob)) (deI (xs.getD 0 .top) : Int)⟩
theorem F37_in {xs : List X} (h : F37.pre xs) : ∃ (x : Int), xs = [I x] ∧ (True) := ⟨_, h.1, h.2⟩
theorem F37_res (x : Int) : F37.res [I x] = (B (rng 1 999 x), []) := by simp [F37]
theorem F37_mk (x : Int) (h : True) : F37.pre [I x] := by simpa [F37] using h
theorem c37 : GenCA K Try.prog 37 F37 := by
  refine contractA Try.mix K [(45, F45)] [] (by simp [c45]) (by simp) Try.func37 rfl (by decide) ?_
  intro xs hxs
  obtain ⟨x, rfl, hp⟩ := F37_in hxs
  rw [F37_res]
  refine ⟨by rw [Try.ntmps37]; simp, ?_⟩
  simp -implicitDefEqProofs [Try.f37, F45, List.lookup_cons, and_assoc, pick_and, pick_or, if_and, if_or]
  refine fin_pure (by simp) ?_
  simp -implicitDefEqProofs [pur2_i, pur2_b, pur2_s, pur2_nil, pur2_sl, pur2_tup, rn2_tup, rn2_agg, rn2_osl, rn1_v, rn1_osl, rn1_agg, rn0_v, rn0_sl, rn0, pickObs, pur_v, pur_b, pur_s, pur_nil, pur_sl, deI, deIs_sl]
def F38 : Fun := ⟨fun xs => xs = [.sl (tR (deT (xs.getD 0 .top) : List Evt)), I (deI (xs.getD 1 .top) : Int)] ∧ (fun (l : List Evt) (c : Int) => (l.length ≤ 80 ∧ ∀ e ∈ l, e.ok = true)) (deT (xs.getD 0 .top) : List Evt) (deI (xs.getD 1 .top) : Int), fun xs => (fun (l : List Evt) (c : Int) => ((.osl 0 0, [iOb (acc4 l c)]) : X × List Ob)) (deT (xs.getD 0 .top) : List Evt) (deI (xs.getD 1 .top) : Int)⟩
theorem F38_in {xs : List X} (h : F38.pre xs) : ∃ (l : List Evt) (c : Int), xs = [.sl (tR l), I c] ∧ (l.length ≤ 80 ∧ ∀ e ∈ l, e.ok = true) := ⟨_, _, h.1, h.2⟩
theorem F38_res (l : List Evt) (c : Int) : F38.res [.sl (tR l), I c] = (.osl 0 0, [iOb (acc4 l c)]) := by simp [F38]
theorem F38_mk (l : List Evt) (c : Int) (h : l.length ≤ 80 ∧ ∀ e ∈ l, e.ok = true) : F38.pre [.sl (tR l), I c] := by simpa [F38] using h
theorem c38 : GenCA K Try.prog 38 F38 := by
  refine contractA Try.mix K [] [] (by simp) (by simp) Try.func38 rfl (by decide) ?_
  intro xs hxs
  obtain ⟨l, c, rfl, hp⟩ := F38_in hxs
  rw [F38_res]
  refine ⟨by rw [Try.ntmps38]; simp, ?_⟩
  obtain ⟨hl, hok⟩ := hp
  simp -implicitDefEqProofs [Try.f38, List.lookup_cons, and_assoc, pick_and, pick_or, if_and, if_or, eMake]
  refine loopP_inv (fun k : Nat => ⟨46, tl [(1, I c), (5, .osl 0 0), (9, .sl (tR l)), (10, I l.length), (11, I k)], [iOb (acc5 (l.take k) c)]⟩) (fun k => k ≤ l.length) (fun k => l.length - k) 0 (Nat.zero_le _) (Wk.tl (by simp [hold, upd, tl_cons])) ?_
  intro k hk
  by_cases h : k < l.length
  · have hT := takeS l k h
    have hw1 := w64n (show k < 4611686018427387904 by omega)
    have hke := hok l[k] (List.getElem_mem h)
    rw [Evt.ok_iff] at hke
    obtain ⟨_, _, k1, k2, _, _, z1, z2, _⟩ := hke
    have hs : ∀ q, sk (l.take (k + 1)) c q = _ := fun q => by rw [hT, sk_step]
    have hb : ∀ q, 0 ≤ sk (l.take k) c q ∧ sk (l.take k) c q ≤ 120000 := fun q => by
      have := sk_nn (l.take k) c q fun e he => hok e (List.mem_of_mem_take he)
      have h2 : ((l.take k).length : Int) ≤ 80 := by simp; omega
      omega
    by_cases hc : l[k].cls = c
    · have hw : ∀ q, IntKind.i64.wrap (sk (l.take k) c q + l[k].size) = sk (l.take k) c q + l[k].size := fun q => by have := hb q; exact w64 (by omega) (by omega)
      have hcases : l[k].kind = 1 ∨ l[k].kind = 2 ∨ l[k].kind = 3 ∨ l[k].kind = 4 := by omega
      simp -implicitDefEqProofs [List.lookup_cons, and_assoc, pick_and, pick_or, if_and, if_or, h, hc]
      refine drawP_cut _ 9 (by decide) ?_
      rcases hcases with hq | hq | hq | hq
      all_goals
        simp -implicitDefEqProofs [List.lookup_cons, and_assoc, pick_and, pick_or, if_and, if_or, h, hc, hq, iOb, acc5, hw, iR_cons, iR_nil]
        refine ⟨k + 1, by omega, by omega, ?_⟩
        simp only [hs, hc, hq]
        simp
        exact Wk.tlD (m := 1) rfl (by simp [hold, upd, tl_cons, hw1]) (by simp [okL_cons, okL_nil, ok1, ok0]) (by simp [okH_cons, okH_nil, ok0])
    · simp -implicitDefEqProofs [List.lookup_cons, and_assoc, pick_and, pick_or, if_and, if_or, h, hc]
      refine ⟨k + 1, by omega, by omega, ?_⟩
      simp only [acc5, hs, hc]
      simp
      exact Wk.tlD (m := 1) rfl (by simp [hold, upd, tl_cons, hw1]) (by simp [okL_cons, okL_nil, ok1, ok0]) (okH_iR _ _ _ _ _ _ _ _ _ (by simp [okH_nil]))
  · have e : k = l.length := by omega
    subst e
    rw [List.take_length]
    have hb : ∀ q, 0 ≤ sk l c q ∧ sk l c q ≤ 120000 := fun q => by
      have := sk_nn l c q hok
      have h2 : (l.length : Int) ≤ 80 := by omega
      omega
    have hw : IntKind.i64.wrap (sk l c 1 - sk l c 4) = sk l c 1 - sk l c 4 := by have := hb 1; have := hb 4; exact w64 (by omega) (by omega)
    simp -implicitDefEqProofs [List.lookup_cons, and_assoc, pick_and, pick_or, if_and, if_or]
    refine drawP_cut _ 16 (by decide) ?_
    simp -implicitDefEqProofs [List.lookup_cons, and_assoc, pick_and, pick_or, if_and, if_or, iOb, acc5, eBuildSlice, chunk, hw, iR_cons, iR_nil]
    refine fin_own [1] (by simp [pickOk, -List.all_eq_true, ok0]; rfl) ?_
    simp -implicitDefEqProofs [pur2_i, pur2_b, pur2_s, pur2_nil, pur2_sl, pur2_tup, rn2_tup, rn2_agg, rn2_osl, rn1_v, rn1_osl, rn1_agg, rn0_v, rn0_sl, rn0, pickObs, pur_v, pur_b, pur_s, pur_nil, pur_sl, deI, deIs_sl, iOb, acc4, iR_cons, iR_nil]
    rfl

def eqs2 (l : List Evt) (c : Int) : List Int := acc4 l c
def M42 : MFun := ⟨[true], fun xs obs => ∃ (l : List Evt) (c : Int), xs = [.osl 0 0, .sl (tR l), I c] ∧ obs = [iOb [0, 0, 0, 0]] ∧ l.length ≤ 80 ∧ ∀ e ∈ l, e.ok = true,
  fun xs obs => (.tup [], [iOb (acc4 (deT (xs.getD 1 .top)) (deI (xs.getD 2 .top)))])⟩
theorem m42 : GenMA K Try.prog 42 M42 := by
  refine contractMA Try.mix K [] [] (by simp) (by simp) Try.func42 rfl (by decide) ?_
  rintro xs obs us ⟨l, c, rfl, rfl, hl, hok⟩ hu
  obtain ⟨u, rfl⟩ : ∃ u, us = [u] := by simpa [List.length_eq_one_iff] using hu
  refine ⟨⟨by rw [Try.ntmps42]; simp, by simp, ?_⟩, ?_⟩
  · rintro (_ | j) ob hob
    · simp at hob; subst hob; exact ⟨_, rfl, rfl, rfl, rfl, rfl, rfl⟩
    · simp at hob
  simp -implicitDefEqProofs [Try.f42, List.lookup_cons, and_assoc, pick_and, pick_or, if_and, if_or]
  refine loopP_inv (fun k : Nat => ⟨62, tl [(0, .osl 0 0), (2, I c), (8, .sl (tR l)), (9, I l.length), (10, I k), (1000, .pin 0 0 u)], [iOb (acc4 (l.take k) c)]⟩) (fun k => k ≤ l.length) (fun k => l.length - k) 0 (Nat.zero_le _) (Wk.tl (by simp [hold, upd, tl_cons])) ?_
  intro k hk
  by_cases h : k < l.length
  · have hT := takeS l k h
    have hw1 := w64n (show k < 4611686018427387904 by omega)
    have hke := hok l[k] (List.getElem_mem h)
    rw [Evt.ok_iff] at hke
    obtain ⟨_, _, k1, k2, _, _, z1, z2, _⟩ := hke
    have hs : ∀ q, sk (l.take (k + 1)) c q = _ := fun q => by rw [hT, sk_step]
    have hb : ∀ q, 0 ≤ sk (l.take k) c q ∧ sk (l.take k) c q ≤ 120000 := fun q => by
      have := sk_nn (l.take k) c q fun e he => hok e (List.mem_of_mem_take he)
      have h2 : ((l.take k).length : Int) ≤ 80 := by simp; omega
      omega
    by_cases hc : l[k].cls = c
    · have hw : ∀ q, IntKind.i64.wrap (sk (l.take k) c q + l[k].size) = sk (l.take k) c q + l[k].size := fun q => by have := hb q; exact w64 (by omega) (by omega)
      have hw3 : IntKind.i64.wrap (sk (l.take k) c 1 - sk (l.take k) c 4 + l[k].size) = sk (l.take k) c 1 - sk (l.take k) c 4 + l[k].size := by have := hb 1; have := hb 4; exact w64 (by omega) (by omega)
      have hw4 : IntKind.i64.wrap (sk (l.take k) c 1 - sk (l.take k) c 4 - l[k].size) = sk (l.take k) c 1 - sk (l.take k) c 4 - l[k].size := by have := hb 1; have := hb 4; exact w64 (by omega) (by omega)
      have hcases : l[k].kind = 1 ∨ l[k].kind = 2 ∨ l[k].kind = 3 ∨ l[k].kind = 4 := by omega
      rcases hcases with hq | hq | hq | hq
      · simp -implicitDefEqProofs [List.lookup_cons, and_assoc, pick_and, pick_or, if_and, if_or, h, hc, hq]
        refine drawP_cut _ 7 (by decide) ?_
        simp -implicitDefEqProofs [List.lookup_cons, and_assoc, pick_and, pick_or, if_and, if_or, h, hc, hq, iOb, acc4, hw, iR_cons, iR_nil]
        refine drawP_cut _ 7 (by decide) ?_
        simp -implicitDefEqProofs [List.lookup_cons, and_assoc, pick_and, pick_or, if_and, if_or, h, hc, hq, hw, hw3]
        refine ⟨k + 1, by omega, by omega, ?_⟩
        simp only [hs, hc, hq]
        simp
        rw [show sk (l.take k) c 1 + l[k].size - sk (l.take k) c 4 = sk (l.take k) c 1 - sk (l.take k) c 4 + l[k].size by omega]
        exact Wk.tlD (m := 1) rfl (by simp [hold, upd, tl_cons, hw1]) (by simp [okL_cons, okL_nil, ok1, ok0]) (by simp [okH_cons, okH_nil, ok0])
      · simp -implicitDefEqProofs [List.lookup_cons, and_assoc, pick_and, pick_or, if_and, if_or, h, hc, hq]
        refine drawP_cut _ 7 (by decide) ?_
        simp -implicitDefEqProofs [List.lookup_cons, and_assoc, pick_and, pick_or, if_and, if_or, h, hc, hq, iOb, acc4, hw, iR_cons, iR_nil]
        refine ⟨k + 1, by omega, by omega, ?_⟩
        simp only [hs, hc, hq]
        simp
        exact Wk.tlD (m := 1) rfl (by simp [hold, upd, tl_cons, hw1]) (by simp [okL_cons, okL_nil, ok1, ok0]) (by simp [okH_cons, okH_nil, ok0])
      · simp -implicitDefEqProofs [List.lookup_cons, and_assoc, pick_and, pick_or, if_and, if_or, h, hc, hq]
        refine ⟨k + 1, by omega, by omega, ?_⟩
        simp only [acc4, hs, hc, hq]
        simp
        exact Wk.tlD (m := 1) rfl (by simp [hold, upd, tl_cons, hw1]) (by simp [okL_cons, okL_nil, ok1, ok0]) (okH_iR _ _ _ _ _ _ _ _ _ (by simp [okH_nil]))
      · simp -implicitDefEqProofs [List.lookup_cons, and_assoc, pick_and, pick_or, if_and, if_or, h, hc, hq]
        refine drawP_cut _ 7 (by decide) ?_
        simp -implicitDefEqProofs [List.lookup_cons, and_assoc, pick_and, pick_or, if_and, if_or, h, hc, hq, iOb, acc4, hw, iR_cons, iR_nil]
        refine drawP_cut _ 7 (by decide) ?_
        simp -implicitDefEqProofs [List.lookup_cons, and_assoc, pick_and, pick_or, if_and, if_or, h, hc, hq, hw, hw4]
        refine ⟨k + 1, by omega, by omega, ?_⟩
        simp only [hs, hc, hq]
        simp
        rw [show sk (l.take k) c 1 - (sk (l.take k) c 4 + l[k].size) = sk (l.take k) c 1 - sk (l.take k) c 4 - l[k].size by omega]
        exact Wk.tlD (m := 1) rfl (by simp [hold, upd, tl_cons, hw1]) (by simp [okL_cons, okL_nil, ok1, ok0]) (by simp [okH_cons, okH_nil, ok0])
    · simp -implicitDefEqProofs [List.lookup_cons, and_assoc, pick_and, pick_or, if_and, if_or, h, hc]
      refine ⟨k + 1, by omega, by omega, ?_⟩
      simp only [acc4, hs, hc]
      simp
      exact Wk.tlD (m := 1) rfl (by simp [hold, upd, tl_cons, hw1]) (by simp [okL_cons, okL_nil, ok1, ok0]) (okH_iR _ _ _ _ _ _ _ _ _ (by simp [okH_nil]))
  · have e : k = l.length := by omega
    subst e
    rw [List.take_length]
    simp -implicitDefEqProofs [List.lookup_cons, and_assoc, pick_and, pick_or, if_and, if_or, iOb]
    refine finM1 0 [] (iOb (acc4 l c)) (by simp [pickOk, -List.all_eq_true, iR_ok]) (by simp [iOb]) (by simp [iOb, upd, tl_cons]) ?_
    simp -implicitDefEqProofs [pur2_i, pur2_b, pur2_s, pur2_nil, pur2_sl, pur2_tup, rn2_tup, rn2_agg, rn2_osl, rn1_v, rn1_osl, rn1_agg, rn0_v, rn0_sl, rn0, pickObs, pur_v, pur_b, pur_s, pur_nil, pur_sl, deI, deIs_sl, M42, iOb, one_nil]

/-! ### the two answers -/
def accR (l : List Evt) (c : Int) : X × List Ob := if (evsOk l && rng 1 999 c) = true then (.tup [.osl 0 0, B true], [iOb (acc4 l c)]) else (.tup [.sl [], B false], [])
def F15 : Fun := ⟨fun xs => xs = [.sl (tR (deT (xs.getD 0 .top) : List Evt)), I (deI (xs.getD 1 .top) : Int)] ∧ (fun (l : List Evt) (c : Int) => (l.length ≤ 1048576)) (deT (xs.getD 0 .top) : List Evt) (deI (xs.getD 1 .top) : Int), fun xs => (fun (l : List Evt) (c : Int) => ((accR l c) : X × List Ob)) (deT (xs.getD 0 .top) : List Evt) (deI (xs.getD 1 .top) : Int)⟩
theorem F15_in {xs : List X} (h : F15.pre xs) : ∃ (l : List Evt) (c : Int), xs = [.sl (tR l), I c] ∧ (l.length ≤ 1048576) := ⟨_, _, h.1, h.2⟩
theorem F15_res (l : List Evt) (c : Int) : F15.res [.sl (tR l), I c] = (accR l c) := by simp [F15]
theorem F15_mk (l : List Evt) (c : Int) (h : l.length ≤ 1048576) : F15.pre [.sl (tR l), I c] := by simpa [F15] using h
theorem c15 : GenCA K Try.prog 15 F15 := by
  refine contractA Try.mix K [(36, F36), (37, F37), (38, F38)] [] (by simp [c36, c37, c38]) (by simp) Try.func15 rfl (by decide) ?_
  intro xs hxs
  obtain ⟨l, c, rfl, hp⟩ := F15_in hxs
  rw [F15_res]
  refine ⟨by rw [Try.ntmps15]; simp, ?_⟩
  cases hg : evsOk l with
  | false =>
    simp -implicitDefEqProofs [Try.f15, F36, F37, F38, List.lookup_cons, and_assoc, pick_and, pick_or, if_and, if_or, hp, hg]
    refine fin_pure (by simp) ?_
    simp -implicitDefEqProofs [pur2_i, pur2_b, pur2_s, pur2_nil, pur2_sl, pur2_tup, rn2_tup, rn2_agg, rn2_osl, rn1_v, rn1_osl, rn1_agg, rn0_v, rn0_sl, rn0, pickObs, pur_v, pur_b, pur_s, pur_nil, pur_sl, deI, deIs_sl, accR, hg]
  | true =>
    obtain ⟨h1, h2⟩ := evsOk_all hg
    cases hc : rng 1 999 c with
    | false =>
      simp -implicitDefEqProofs [Try.f15, F36, F37, F38, List.lookup_cons, and_assoc, pick_and, pick_or, if_and, if_or, hp, hg, hc]
      refine fin_pure (by simp) ?_
      simp -implicitDefEqProofs [pur2_i, pur2_b, pur2_s, pur2_nil, pur2_sl, pur2_tup, rn2_tup, rn2_agg, rn2_osl, rn1_v, rn1_osl, rn1_agg, rn0_v, rn0_sl, rn0, pickObs, pur_v, pur_b, pur_s, pur_nil, pur_sl, deI, deIs_sl, accR, hg, hc]
    | true =>
      simp -implicitDefEqProofs [Try.f15, F36, F37, F38, List.lookup_cons, and_assoc, pick_and, pick_or, if_and, if_or, hp, hg, hc, h1, iOb]
      refine ⟨h2, ?_⟩
      refine fin_own [0] (by simp [pickOk, -List.all_eq_true, iR_ok]) ?_
      simp -implicitDefEqProofs [pur2_i, pur2_b, pur2_s, pur2_nil, pur2_sl, pur2_tup, rn2_tup, rn2_agg, rn2_osl, rn1_v, rn1_osl, rn1_agg, rn0_v, rn0_sl, rn0, pickObs, pur_v, pur_b, pur_s, pur_nil, pur_sl, deI, deIs_sl, accR, hg, hc, iOb]
theorem c17 : GenCA K Try.prog 17 F15 := by
  refine contractA Try.mix K [(40, F40), (41, F41)] [(42, M42)] (by simp [c40, c41]) (by simp [m42]) Try.func17 rfl (by decide) ?_
  intro xs hxs
  obtain ⟨l, c, rfl, hp⟩ := F15_in hxs
  rw [F15_res]
  refine ⟨by rw [Try.ntmps17]; simp, ?_⟩
  cases hg : evsOk l with
  | false =>
    simp -implicitDefEqProofs [Try.f17, F40, F41, M42, List.lookup_cons, and_assoc, pick_and, pick_or, if_and, if_or, hp, hg]
    refine fin_pure (by simp) ?_
    simp -implicitDefEqProofs [pur2_i, pur2_b, pur2_s, pur2_nil, pur2_sl, pur2_tup, rn2_tup, rn2_agg, rn2_osl, rn1_v, rn1_osl, rn1_agg, rn0_v, rn0_sl, rn0, pickObs, pur_v, pur_b, pur_s, pur_nil, pur_sl, deI, deIs_sl, accR, hg]
  | true =>
    obtain ⟨h1, h2⟩ := evsOk_all hg
    cases hc : rng 1 999 c with
    | false =>
      simp -implicitDefEqProofs [Try.f17, F40, F41, M42, List.lookup_cons, and_assoc, pick_and, pick_or, if_and, if_or, hp, hg, hc]
      refine fin_pure (by simp) ?_
      simp -implicitDefEqProofs [pur2_i, pur2_b, pur2_s, pur2_nil, pur2_sl, pur2_tup, rn2_tup, rn2_agg, rn2_osl, rn1_v, rn1_osl, rn1_agg, rn0_v, rn0_sl, rn0, pickObs, pur_v, pur_b, pur_s, pur_nil, pur_sl, deI, deIs_sl, accR, hg, hc]
    | true =>
      have hmu : M42.mu = [true] := rfl
      have hpm : M42.pre [.osl 0 0, .sl (tR l), I c] [⟨3, 1, 0, [[I 0], [I 0], [I 0], [I 0]], false, true, none⟩] := ⟨l, c, rfl, rfl, h1, h2⟩
      have hrm : M42.res [.osl 0 0, .sl (tR l), I c] [⟨3, 1, 0, [[I 0], [I 0], [I 0], [I 0]], false, true, none⟩] = (.tup [], [iOb (acc4 l c)]) := by simp [M42]
      simp -implicitDefEqProofs [Try.f17, F40, F41, List.lookup_cons, and_assoc, pick_and, pick_or, if_and, if_or, rbR_iR, rbR_nil, rbOb_mk, iR_mf, pickOk, -List.all_eq_true, iR_ok, ok0, iR_eq_nil, deIs_nil, hp, hg, hc, eMake, hmu, hpm, hrm, iOb]
      refine fin_own [0] (by simp [pickOk, -List.all_eq_true, iR_ok]) ?_
      simp -implicitDefEqProofs [pur2_i, pur2_b, pur2_s, pur2_nil, pur2_sl, pur2_tup, rn2_tup, rn2_agg, rn2_osl, rn1_v, rn1_osl, rn1_agg, rn0_v, rn0_sl, rn0, pickObs, pur_v, pur_b, pur_s, pur_nil, pur_sl, deI, deIs_sl, accR, hg, hc, iOb]
end Go.Proofs
