/-
  What is proved here: the first pair of events that breaks a ceiling, as a function; contracts of excessOf and of the reference's tcOuts. Condition: none.
-/
import Derived.Test.YtglbimhhiikkpaaDoorAB2r
import Derived.Test.YtglbimhhiikkpaaDoorC11r
namespace Go.Proofs
open Go.Abs
set_option linter.unusedSimpArgs false
set_option linter.unnecessarySimpa false
set_option linter.unusedVariables false
set_option maxHeartbeats 8000000
set_option maxRecDepth 20000

def atE (l : List Evt) (i : Nat) : Evt := l.getD i Evt.z
theorem atE_eq {l : List Evt} {i : Nat} (h : i < l.length) : atE l i = l[i] := by simp [atE, h]
def cntP (ids : List Int) (e : Evt) : Bool := decide (e.kind = 4) && ids.contains e.cls
def exL (l : List Evt) (cb ce : Int) (i : Nat) : List Nat → Int → Option Nat
  | [], _ => none
  | n :: ns, s => if cb + ce * ((atE l n).tick - (atE l i).tick) < s + (atE l n).size then some n else exL l cb ce i ns (s + (atE l n).size)
def exO (l : List Evt) (cb ce : Int) : List Nat → Option (Nat × Nat)
  | [] => none
  | i :: is => match exL l cb ce i (i :: is) 0 with
    | some n => some (i, n)
    | none => exO l cb ce is
def outs (l : List Evt) (p : Evt → Bool) (k : Nat) : List Nat := ((List.range l.length).drop k).filter fun i => p (atE l i)
theorem outs_step (l : List Evt) (p : Evt → Bool) (k : Nat) (h : k < l.length) : outs l p k = if p l[k] = true then k :: outs l p (k + 1) else outs l p (k + 1) := by
  unfold outs
  rw [List.drop_eq_getElem_cons (by simpa using h), List.filter_cons]
  simp [atE_eq h]
theorem outs_end (l : List Evt) (p : Evt → Bool) : outs l p l.length = [] := by
  unfold outs
  rw [List.drop_eq_nil_of_le (by simp)]
  rfl
def exOf (c : Cfg) (l : List Evt) (k : Nat) : Option (Nat × Nat) := exO l (atC c.cls k).cburst (atC c.cls k).ceil (outs l (cntP (belI c.cls k (leafL c.cls c.cls.length))) 0)
def exX : Option (Nat × Nat) → X
  | some p => .tup [I (p.1 : Int), I (p.2 : Int), B true]
  | none => .tup [I 0, I 0, B false]
theorem mul_bd {a d A B : Int} (h0 : 0 ≤ a) (h1 : a ≤ A) (h2 : -B ≤ d) (h3 : d ≤ B) (hB : 0 ≤ B) : -(A * B) ≤ a * d ∧ a * d ≤ A * B := by
  have e1 : a * d ≤ a * B := Int.mul_le_mul_of_nonneg_left h3 h0
  have e2 : a * B ≤ A * B := Int.mul_le_mul_of_nonneg_right h1 hB
  have e3 : a * -B ≤ a * d := Int.mul_le_mul_of_nonneg_left h2 h0
  rw [Int.mul_neg] at e3
  omega
theorem cfg_cls {c : Cfg} (h : isCfg c = true) (i : Nat) (hi : i < c.cls.length) : 0 ≤ c.cls[i].ceil ∧ c.cls[i].ceil ≤ 100000 ∧ 0 ≤ c.cls[i].cburst ∧ c.cls[i].cburst ≤ 1000000 := by
  rw [isCfg_eq] at h
  simp only [cfgOk, treeOk_def, Bool.and_eq_true] at h
  have h1 := List.all_eq_true.1 h.1.1.2.1.1.1 _ (List.getElem_mem hi)
  simp only [Cls.ok, Cls.rateOk, Cls.burstOk, rng, Bool.and_eq_true, decide_eq_true_eq] at h1
  omega

/-! ### the program's -/
def cpIds (c : List X) : Prop := c = [.pt [.sl (iR (deIs ((match c.getD 0 .top with | .pt l => l.getD 0 .top | _ => .top))))]] ∧ (deIs ((match c.getD 0 .top with | .pt l => l.getD 0 .top | _ => .top))).length ≤ 1048576
def idsOf (c : List X) : List Int := deIs ((match c.getD 0 .top with | .pt l => l.getD 0 .top | _ => .top))
@[simp] theorem idsOf_mk (ids : List Int) : idsOf [.pt [.sl (iR ids)]] = ids := by simp [idsOf]
theorem cpIds_mk (ids : List Int) (h : ids.length ≤ 1048576) : cpIds [.pt [.sl (iR ids)]] := by simpa [cpIds] using h
def FCn : Fun := ⟨fun xs => xs = [.agg (rX (deA (xs.getD 0 .top) : Evt)), .pt [.sl (iR (idsOf xs.tail))]] ∧ (idsOf xs.tail).length ≤ 1048576, fun xs => (B (cntP (idsOf xs.tail) (deA (xs.getD 0 .top))), [])⟩
theorem c136 : GenCA K Tryd.prog 136 FCn := by
  refine contractA Tryd.mix K [(113, F113)] [] (by simp [c113]) (by simp) Tryd.func136 rfl (by decide) ?_
  intro xs hxs
  obtain ⟨x, ids, rfl, hl⟩ : ∃ (x : Evt) (ids : List Int), xs = [.agg (rX x), .pt [.sl (iR ids)]] ∧ ids.length ≤ 1048576 := ⟨_, _, hxs.1, hxs.2⟩
  have hres : FCn.res [.agg (rX x), .pt [.sl (iR ids)]] = (B (cntP ids x), []) := by simp only [FCn, List.getD_cons_zero, List.tail_cons, idsOf_mk, deA_agg, dec_rX]
  rw [hres]
  refine ⟨by rw [Tryd.ntmps136]; simp, ?_⟩
  by_cases h4 : x.kind = 4
  · simp -implicitDefEqProofs [Tryd.f136, List.lookup_cons, and_assoc, pick_and, pick_or, if_and, if_or, F113, hl, h4]
    refine fin_pure (by simp) ?_
    simp -implicitDefEqProofs [pur2_i, pur2_b, pur2_s, pur2_nil, pur2_sl, pur2_tup, rn2_tup, rn2_agg, rn2_osl, rn1_v, rn1_osl, rn1_agg, rn0_v, rn0_sl, rn0, pickObs, pur_v, pur_b, pur_s, pur_nil, pur_sl, deI, deIs_sl, cntP, h4]
  · simp -implicitDefEqProofs [Tryd.f136, List.lookup_cons, and_assoc, pick_and, pick_or, if_and, if_or, F113, hl, h4]
    refine fin_pure (by simp) ?_
    simp -implicitDefEqProofs [pur2_i, pur2_b, pur2_s, pur2_nil, pur2_sl, pur2_tup, rn2_tup, rn2_agg, rn2_osl, rn1_v, rn1_osl, rn1_agg, rn0_v, rn0_sl, rn0, pickObs, pur_v, pur_b, pur_s, pur_nil, pur_sl, deI, deIs_sl, cntP, h4]
def F85 : Fun := ⟨fun xs => xs = [.sl (tR (deT (xs.getD 0 .top) : List Evt)), .sl (iR (deIs (xs.getD 1 .top) : List Int))] ∧ (fun (l : List Evt) (ids : List Int) => (l.length ≤ 1048576 ∧ ids.length ≤ 1048576)) (deT (xs.getD 0 .top) : List Evt) (deIs (xs.getD 1 .top) : List Int), fun xs => (fun (l : List Evt) (ids : List Int) => ((.osl 0 0, [iOb (nI (outs l (cntP ids) 0))]) : X × List Ob)) (deT (xs.getD 0 .top) : List Evt) (deIs (xs.getD 1 .top) : List Int)⟩
theorem F85_in {xs : List X} (h : F85.pre xs) : ∃ (l : List Evt) (ids : List Int), xs = [.sl (tR l), .sl (iR ids)] ∧ (l.length ≤ 1048576 ∧ ids.length ≤ 1048576) := ⟨_, _, h.1, h.2⟩
theorem F85_res (l : List Evt) (ids : List Int) : F85.res [.sl (tR l), .sl (iR ids)] = (.osl 0 0, [iOb (nI (outs l (cntP ids) 0))]) := by simp [F85]
theorem F85_mk (l : List Evt) (ids : List Int) (h : l.length ≤ 1048576 ∧ ids.length ≤ 1048576) : F85.pre [.sl (tR l), .sl (iR ids)] := by simpa [F85] using h
theorem outs_snoc (l : List Evt) (p : Evt → Bool) (k : Nat) (h : k < l.length) : ((List.range (k + 1)).filter fun i => p (atE l i)) = ((List.range k).filter fun i => p (atE l i)) ++ (if p l[k] = true then [k] else []) := by
  rw [List.range_succ, List.filter_append]
  cases hq : p l[k] <;> simp [hq, atE_eq h]
theorem outs_ln (l : List Evt) (p : Evt → Bool) (k : Nat) : ((List.range k).filter fun i => p (atE l i)).length ≤ k := Nat.le_trans (List.length_filter_le _ _) (by simp)
theorem c85 : GenCA K Tryd.prog 85 F85 := by
  refine contractA Tryd.mix K [(132, F132)] [] (by simp [c132]) (by simp) Tryd.func85 rfl (by decide) ?_
  intro xs hxs
  obtain ⟨l, ids, rfl, hp⟩ := F85_in hxs
  rw [F85_res]
  refine ⟨by rw [Tryd.ntmps85]; simp, ?_⟩
  obtain ⟨hl, hi⟩ := hp
  simp -implicitDefEqProofs [Tryd.f85, List.lookup_cons, and_assoc, pick_and, pick_or, if_and, if_or]
  refine loopP_inv (fun k : Nat => ⟨30, tl [(1, .sl (iR ids)), (5, .osl 0 0), (8, .sl (tR l)), (9, I l.length), (10, I k)], [iOb (nI ((List.range k).filter fun i => cntP ids (atE l i)))]⟩) (fun k => k ≤ l.length) (fun k => l.length - k) 0 (Nat.zero_le _) (Wk.tlN (h := []) 3 1 5 (by simp [upd]) (by simp [hold, upd, tl_cons])) ?_
  intro k hk
  by_cases h : k < l.length
  · have hw1 := w64n (show k < 4611686018427387904 by omega)
    have hS := outs_snoc l (cntP ids) k h
    have hln := outs_ln l (cntP ids) k
    have hln2 := nI_len ((List.range k).filter fun i => cntP ids (atE l i))
    cases hq : cntP ids l[k] with
    | true =>
      rw [hq, if_pos rfl] at hS
      have hq' : l[k].kind = 4 ∧ ids.contains l[k].cls = true := by simpa [cntP, -List.contains_eq_mem] using hq
      simp -implicitDefEqProofs [List.lookup_cons, and_assoc, pick_and, pick_or, if_and, if_or, h, iOb, F132, hi, hq', -List.contains_eq_mem, eAppend, eBuildSlice, srcRows, srcOk, chunk]
      refine ⟨by omega, by omega, k + 1, by omega, by omega, ?_⟩
      rw [hS]
      rw [show iR (nI ((List.range k).filter fun i => cntP ids (atE l i))) ++ [[I (k : Int)]] = iR (nI (((List.range k).filter fun i => cntP ids (atE l i)) ++ [k])) by simp [nI, ← iR_append, iR_cons, iR_nil]]
      refine Wk.tlP [0] (by simp [pickOk, -List.all_eq_true, iR_ok, ok0]) ?_ ?_
      · simp [pickObs]
      · simp [hold, upd, tl_cons, rn1, rn0, hw1]
    | false =>
      rw [hq, if_neg (by simp), List.append_nil] at hS
      by_cases h4 : l[k].kind = 4
      · have hc : ids.contains l[k].cls = false := by simpa [cntP, h4, -List.contains_eq_mem] using hq
        simp -implicitDefEqProofs [List.lookup_cons, and_assoc, pick_and, pick_or, if_and, if_or, h, iOb, F132, hi, h4, hc, -List.contains_eq_mem, eAppend, eBuildSlice, srcRows, srcOk, chunk]
        refine ⟨k + 1, by omega, by omega, ?_⟩
        rw [hS]
        exact Wk.tlD (m := 1) rfl (by simp [hold, upd, tl_cons, hw1]) (by simp [okL_cons, okL_nil, ok1, ok0]) (okH_iR _ _ _ _ _ _ _ _ _ (by simp [okH_nil]))
      · simp -implicitDefEqProofs [List.lookup_cons, and_assoc, pick_and, pick_or, if_and, if_or, h, iOb, F132, hi, h4, eAppend, eBuildSlice, srcRows, srcOk, chunk]
        refine ⟨k + 1, by omega, by omega, ?_⟩
        rw [hS]
        exact Wk.tlD (m := 1) rfl (by simp [hold, upd, tl_cons, hw1]) (by simp [okL_cons, okL_nil, ok1, ok0]) (okH_iR _ _ _ _ _ _ _ _ _ (by simp [okH_nil]))
  · have e : k = l.length := by omega
    subst e
    simp -implicitDefEqProofs [List.lookup_cons, and_assoc, pick_and, pick_or, if_and, if_or, iOb]
    refine fin_own [0] (by simp [pickOk, -List.all_eq_true, iR_ok]) ?_
    simp -implicitDefEqProofs [pur2_i, pur2_b, pur2_s, pur2_nil, pur2_sl, pur2_tup, rn2_tup, rn2_agg, rn2_osl, rn1_v, rn1_osl, rn1_agg, rn0_v, rn0_sl, rn0, pickObs, pur_v, pur_b, pur_s, pur_nil, pur_sl, deI, deIs_sl, iOb, outs]
end Go.Proofs
