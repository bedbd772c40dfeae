/-
  What is proved here: the account of a class, by the reference. Condition: none.
-/
import Derived.Test.YtglbimhhiikkpaaDoorE3r
import Derived.Test.YtglbimhhiikkpaaDoorE4r
import Derived.Test.YtglbimhhiikkpaaDoorE5r
namespace Go.Proofs
open Go.Abs
set_option linter.unusedSimpArgs false
set_option linter.unnecessarySimpa false
set_option linter.unusedVariables false
set_option maxHeartbeats 8000000
set_option maxRecDepth 20000

def sk (l : List Evt) (c k : Int) : Int := (l.map fun e => if e.cls = c ∧ e.kind = k then e.size else 0).sum
theorem sk_step (p : List Evt) (e : Evt) (c k : Int) : sk (p ++ [e]) c k = sk p c k + (if e.cls = c ∧ e.kind = k then e.size else 0) := by
  simp [sk]
theorem sk_nn : ∀ (l : List Evt) (c k : Int), (∀ e ∈ l, e.ok = true) → 0 ≤ sk l c k ∧ sk l c k ≤ 1500 * l.length
  | [], c, k, _ => by simp [sk]
  | e :: l, c, k, h => by
    have ih := sk_nn l c k fun x hx => h x (List.mem_cons_of_mem _ hx)
    have he := h e List.mem_cons_self
    rw [Evt.ok_iff] at he
    have e1 : sk (e :: l) c k = (if e.cls = c ∧ e.kind = k then e.size else 0) + sk l c k := by simp [sk]
    rw [e1]
    simp only [List.length_cons]
    split <;> omega
theorem evsOk_all {l : List Evt} (h : evsOk l = true) : l.length ≤ 80 ∧ ∀ e ∈ l, e.ok = true := by
  simp only [evsOk, Bool.and_eq_true, decide_eq_true_eq] at h
  refine ⟨h.1, fun e he => ?_⟩
  obtain ⟨i, hi, rfl⟩ := List.getElem_of_mem he
  exact stepOk_ok (okUp_at h.2 hi hi)
def acc4 (l : List Evt) (c : Int) : List Int := [sk l c 1, sk l c 2, sk l c 4, sk l c 1 - sk l c 4]
def acc5 (l : List Evt) (c : Int) : List Int := [0, sk l c 1, sk l c 2, sk l c 3, sk l c 4]

def F71 : Fun := ⟨fun xs => xs = [.sl (tR (deT (xs.getD 0 .top) : List Evt)), I (deI (xs.getD 1 .top) : Int)] ∧ (fun (l : List Evt) (c : Int) => (l.length ≤ 80 ∧ ∀ e ∈ l, e.ok = true)) (deT (xs.getD 0 .top) : List Evt) (deI (xs.getD 1 .top) : Int), fun xs => (fun (l : List Evt) (c : Int) => ((.osl 0 0, [iOb (acc4 l c)]) : X × List Ob)) (deT (xs.getD 0 .top) : List Evt) (deI (xs.getD 1 .top) : Int)⟩
theorem F71_in {xs : List X} (h : F71.pre xs) : ∃ (l : List Evt) (c : Int), xs = [.sl (tR l), I c] ∧ (l.length ≤ 80 ∧ ∀ e ∈ l, e.ok = true) := ⟨_, _, h.1, h.2⟩
theorem F71_res (l : List Evt) (c : Int) : F71.res [.sl (tR l), I c] = (.osl 0 0, [iOb (acc4 l c)]) := by simp [F71]
theorem F71_mk (l : List Evt) (c : Int) (h : l.length ≤ 80 ∧ ∀ e ∈ l, e.ok = true) : F71.pre [.sl (tR l), I c] := by simpa [F71] using h
theorem c71 : GenCA K Tryd.prog 71 F71 := by
  refine contractA Tryd.mix K [] [] (by simp) (by simp) Tryd.func71 rfl (by decide) ?_
  intro xs hxs
  obtain ⟨l, c, rfl, hp⟩ := F71_in hxs
  rw [F71_res]
  refine ⟨by rw [Tryd.ntmps71]; simp, ?_⟩
  obtain ⟨hl, hok⟩ := hp
  simp -implicitDefEqProofs [Tryd.f71, List.lookup_cons, and_assoc, pick_and, pick_or, if_and, if_or, eMake]
  refine loopP_inv (fun k : Nat => ⟨46, tl [(1, I c), (5, .osl 0 0), (9, .sl (tR l)), (10, I l.length), (11, I k)], [iOb (acc5 (l.take k) c)]⟩) (fun k => k ≤ l.length) (fun k => l.length - k) 0 (Nat.zero_le _) (Wk.tl (by simp [hold, upd, tl_cons])) ?_
  intro k hk
  by_cases h : k < l.length
  · have hT := takeS l k h
    have hw1 := w64n (show k < 4611686018427387904 by omega)
    have hke := hok l[k] (List.getElem_mem h)
    rw [Evt.ok_iff] at hke
    obtain ⟨_, _, k1, k2, _, _, z1, z2, _⟩ := hke
    have hs : ∀ q, sk (l.take (k + 1)) c q = _ := fun q => by rw [hT, sk_step]
    have hb : ∀ q, 0 ≤ sk (l.take k) c q ∧ sk (l.take k) c q ≤ 120000 := fun q => by
      have := sk_nn (l.take k) c q fun e he => hok e (List.mem_of_mem_take he)
      have h2 : ((l.take k).length : Int) ≤ 80 := by simp; omega
      omega
    by_cases hc : l[k].cls = c
    · have hw : ∀ q, IntKind.i64.wrap (sk (l.take k) c q + l[k].size) = sk (l.take k) c q + l[k].size := fun q => by have := hb q; exact w64 (by omega) (by omega)
      have hcases : l[k].kind = 1 ∨ l[k].kind = 2 ∨ l[k].kind = 3 ∨ l[k].kind = 4 := by omega
      simp -implicitDefEqProofs [List.lookup_cons, and_assoc, pick_and, pick_or, if_and, if_or, h, hc]
      refine drawP_cut _ 9 (by decide) ?_
      rcases hcases with hq | hq | hq | hq
      all_goals
        simp -implicitDefEqProofs [List.lookup_cons, and_assoc, pick_and, pick_or, if_and, if_or, h, hc, hq, iOb, acc5, hw, iR_cons, iR_nil]
        refine ⟨k + 1, by omega, by omega, ?_⟩
        simp only [hs, hc, hq]
        simp
        exact Wk.tlD (m := 1) rfl (by simp [hold, upd, tl_cons, hw1]) (by simp [okL_cons, okL_nil, ok1, ok0]) (by simp [okH_cons, okH_nil, ok0])
    · simp -implicitDefEqProofs [List.lookup_cons, and_assoc, pick_and, pick_or, if_and, if_or, h, hc]
      refine ⟨k + 1, by omega, by omega, ?_⟩
      simp only [acc5, hs, hc]
      simp
      exact Wk.tlD (m := 1) rfl (by simp [hold, upd, tl_cons, hw1]) (by simp [okL_cons, okL_nil, ok1, ok0]) (okH_iR _ _ _ _ _ _ _ _ _ (by simp [okH_nil]))
  · have e : k = l.length := by omega
    subst e
    rw [List.take_length]
    have hb : ∀ q, 0 ≤ sk l c q ∧ sk l c q ≤ 120000 := fun q => by
      have := sk_nn l c q hok
      have h2 : (l.length : Int) ≤ 80 := by omega
      omega
    have hw : IntKind.i64.wrap (sk l c 1 - sk l c 4) = sk l c 1 - sk l c 4 := by have := hb 1; have := hb 4; exact w64 (by omega) (by omega)
    simp -implicitDefEqProofs [List.lookup_cons, and_assoc, pick_and, pick_or, if_and, if_or]
    refine drawP_cut _ 16 (by decide) ?_
    simp -implicitDefEqProofs [List.lookup_cons, and_assoc, pick_and, pick_or, if_and, if_or, iOb, acc5, eBuildSlice, chunk, hw, iR_cons, iR_nil]
    refine fin_own [1] (by simp [pickOk, -List.all_eq_true, ok0]; rfl) ?_
    simp -implicitDefEqProofs [pur2_i, pur2_b, pur2_s, pur2_nil, pur2_sl, pur2_tup, rn2_tup, rn2_agg, rn2_osl, rn1_v, rn1_osl, rn1_agg, rn0_v, rn0_sl, rn0, pickObs, pur_v, pur_b, pur_s, pur_nil, pur_sl, deI, deIs_sl, iOb, acc4, iR_cons, iR_nil]
    rfl

end Go.Proofs
