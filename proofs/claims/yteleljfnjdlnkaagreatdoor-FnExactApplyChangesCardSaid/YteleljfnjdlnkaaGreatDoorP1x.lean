/-
  What is proved here: contracts of the searches of a filter by its prio and of a class by its id. Condition: none.
-/
import Derived.Test.YteleljfnjdlnkaaGreatDoorC2x
import Derived.Test.YteleljfnjdlnkaaGreatDoorC10x
namespace Go.Proofs
open Go.Abs
set_option linter.unusedSimpArgs false
set_option linter.unnecessarySimpa false
set_option linter.unusedVariables false
set_option maxHeartbeats 4000000
set_option maxRecDepth 20000

theorem all_stepF (l : List Fil) (p : Fil → Bool) (k : Nat) (h : k < l.length) (h1 : (l.take k).all p = true) (h2 : p l[k] = true) : (l.take (k + 1)).all p = true := by
  rw [takeS l k h, List.all_append, h1]; simp [h2]
def pidx (l : List Fil) (id : Int) : Int := match l.findIdx? (fun x => decide (x.prio = id)) with | some i => (i : Int) | none => -1
theorem pidx_rng (l : List Fil) (id : Int) : -1 ≤ pidx l id ∧ pidx l id < l.length := by
  unfold pidx
  cases h : l.findIdx? (fun x => decide (x.prio = id)) with
  | none => simp; omega
  | some i =>
    obtain ⟨hi, _⟩ := List.findIdx?_eq_some_iff_getElem.1 h
    simp; omega
theorem pidx_found (l : List Fil) (id : Int) (k : Nat) (h : k < l.length) (h1 : (l.take k).all (fun x => !decide (x.prio = id)) = true) (h2 : l[k].prio = id) : pidx l id = (k : Int) := by
  have : l.findIdx? (fun x => decide (x.prio = id)) = some k := by
    rw [List.findIdx?_eq_some_iff_getElem]
    refine ⟨h, by simpa using h2, fun j hj => ?_⟩
    rw [List.all_eq_true] at h1
    have := h1 l[j] (List.mem_take_iff_getElem.2 ⟨j, by omega, rfl⟩)
    simpa using this
  simp [pidx, this]
theorem pidx_none (l : List Fil) (id : Int) (h1 : l.all (fun x => !decide (x.prio = id)) = true) : pidx l id = -1 := by
  have : l.findIdx? (fun x => decide (x.prio = id)) = none := by
    rw [List.findIdx?_eq_none_iff]
    intro x hx
    rw [List.all_eq_true] at h1
    simpa using h1 x hx
  simp [pidx, this]
def upF (l : List Fil) (i : Nat) : Bool := decide (i = 0) || decide ((atF l (i - 1)).prio < (atF l i).prio)
theorem prios_lt {l : List Fil} (h : (List.range l.length).all (upF l) = true) : ∀ d i, i + d + 1 < l.length → (atF l i).prio < (atF l (i + d + 1)).prio := by
  have h1 : ∀ i, i + 1 < l.length → (atF l i).prio < (atF l (i + 1)).prio := fun i hi => by
    have := all_range.1 h (i + 1) hi
    simpa [upF] using this
  intro d
  induction d with
  | zero => exact fun i hi => h1 i hi
  | succ d ih => exact fun i hi => Int.lt_trans (ih i (by omega)) (h1 (i + d + 1) hi)
theorem prios_inj {l : List Fil} (h : (List.range l.length).all (upF l) = true) {i j : Nat} (hi : i < l.length) (hj : j < l.length) (e : (atF l i).prio = (atF l j).prio) : i = j := by
  rcases Nat.lt_trichotomy i j with h1 | h1 | h1
  · have := prios_lt h (j - i - 1) i (by omega)
    rw [show i + (j - i - 1) + 1 = j by omega] at this
    omega
  · exact h1
  · have := prios_lt h (i - j - 1) j (by omega)
    rw [show j + (i - j - 1) + 1 = i by omega] at this
    omega
theorem pidx_at {l : List Fil} (h : (List.range l.length).all (upF l) = true) (i : Nat) (hi : i < l.length) : pidx l l[i].prio = (i : Int) := by
  have : l.findIdx? (fun x => decide (x.prio = l[i].prio)) = some i := by
    rw [List.findIdx?_eq_some_iff_getElem]
    refine ⟨hi, by simp, fun j hj => ?_⟩
    have hj' : j < l.length := by omega
    simp only [decide_eq_true_eq]
    intro e
    have := prios_inj h hj' hi (by rw [atF_eq hj', atF_eq hi]; exact e)
    omega
  simp [pidx, this]
theorem pidx_id {l : List Fil} {id : Int} {j : Nat} (h : pidx l id = j) : ∃ hj : j < l.length, l[j].prio = id := by
  unfold pidx at h
  cases hf : l.findIdx? (fun x => decide (x.prio = id)) with
  | none => rw [hf] at h; simp at h
  | some i =>
    rw [hf] at h
    obtain ⟨hi, hp, _⟩ := List.findIdx?_eq_some_iff_getElem.1 hf
    simp at h hp
    have e : i = j := by omega
    subst e
    exact ⟨hi, hp⟩
def prPr (c : List X) (x : Fil) : Bool := decide (x.prio = pI (c.getD 0 .top))
@[simp] theorem prPr_mk (id : Int) (x : Fil) : prPr [.pt [I id]] x = decide (x.prio = id) := by simp [prPr]
theorem pidx_idx (l : List Fil) (id : Int) : idxB (prPr [.pt [I id]]) l = pidx l id := by
  unfold idxB pidx
  have : (prPr [.pt [I id]]) = fun x : Fil => decide (x.prio = id) := by funext x; simp
  rw [this]
  rfl
theorem c100 : GenCA K Tryz.prog 100 (FPr cpId prPr) := by
  refine contractA Tryz.mix K [] [] (by simp) (by simp) Tryz.func100 rfl (by decide) ?_
  intro xs hxs
  obtain ⟨x, id, rfl⟩ : ∃ (x : Fil) (id : Int), xs = [.agg (rX x), .pt [I id]] := ⟨_, _, hxs.1.trans (congrArg (List.cons _) hxs.2)⟩
  have hres : (FPr cpId prPr).res [.agg (rX x), .pt [I id]] = (B (decide (x.prio = id)), []) := by simp [FPr]
  rw [hres]
  refine ⟨by rw [Tryz.ntmps100]; simp, ?_⟩
  simp -implicitDefEqProofs [Tryz.f100, List.lookup_cons, and_assoc, pick_and, pick_or, if_and, if_or]
  refine fin_pure (by simp) ?_
  simp -implicitDefEqProofs [pur2_i, pur2_b, pur2_s, pur2_nil, pur2_sl, pur2_tup, rn2_tup, rn2_agg, rn2_osl, rn1_v, rn1_osl, rn1_agg, rn0_v, rn0_sl, rn0, pickObs, pur_v, pur_b, pur_s, pur_nil, pur_sl, deI, deIs_sl]
  rfl

def F65 : Fun := ⟨fun xs => xs = [.agg (cX (deC (xs.getD 0 .top) : Cfg)), I (deI (xs.getD 1 .top) : Int)] ∧ (fun (c : Cfg) (id : Int) => (okC c)) (deC (xs.getD 0 .top) : Cfg) (deI (xs.getD 1 .top) : Int), fun xs => (fun (c : Cfg) (id : Int) => ((I (pidx c.fil id), []) : X × List Ob)) (deC (xs.getD 0 .top) : Cfg) (deI (xs.getD 1 .top) : Int)⟩
theorem F65_in {xs : List X} (h : F65.pre xs) : ∃ (c : Cfg) (id : Int), xs = [.agg (cX c), I id] ∧ (okC c) := ⟨_, _, h.1, h.2⟩
theorem F65_res (c : Cfg) (id : Int) : F65.res [.agg (cX c), I id] = (I (pidx c.fil id), []) := by simp [F65]
theorem F65_mk (c : Cfg) (id : Int) (h : okC c) : F65.pre [.agg (cX c), I id] := by simpa [F65] using h
theorem c65 : GenCA K Tryz.prog 65 F65 := by
  refine contractA Tryz.mix K [(99, FIx 100 cpId prPr)] [] (by simp [cIxFil 100 cpId prPr cpId_pu c100]) (by simp) Tryz.func65 rfl (by decide) ?_
  intro xs hxs
  obtain ⟨c, id, rfl, hp⟩ := F65_in hxs
  rw [F65_res]
  refine ⟨by rw [Tryz.ntmps65]; simp, ?_⟩
  simp -implicitDefEqProofs [Tryz.f65, List.lookup_cons, and_assoc, pick_and, pick_or, if_and, if_or, FIx, hp.2.1, pidx_idx, pur2_optr, pur1_int, rowOf]
  refine fin_pure (by simp) ?_
  simp -implicitDefEqProofs [pur2_i, pur2_b, pur2_s, pur2_nil, pur2_sl, pur2_tup, rn2_tup, rn2_agg, rn2_osl, rn1_v, rn1_osl, rn1_agg, rn0_v, rn0_sl, rn0, pickObs, pur_v, pur_b, pur_s, pur_nil, pur_sl, deI, deIs_sl]

theorem c54 : GenCA K Tryz.prog 54 F65 := by
  refine contractA Tryz.mix K [] [] (by simp) (by simp) Tryz.func54 rfl (by decide) ?_
  intro xs hxs
  obtain ⟨c, id, rfl, hp⟩ := F65_in hxs
  rw [F65_res]
  refine ⟨by rw [Tryz.ntmps54]; simp, ?_⟩
  have hl := hp.2.1
  simp -implicitDefEqProofs [Tryz.f54, List.lookup_cons, and_assoc, pick_and, pick_or, if_and, if_or]
  refine loopP_inv (fun k : Nat => ⟨21, tl [(1, I id), (2, .optr 0 0 0 0), (8, .sl (tR c.fil)), (9, I c.fil.length), (10, I k)], [cBx c]⟩) (fun k => k ≤ c.fil.length ∧ (c.fil.take k).all (fun x => !decide (x.prio = id)) = true) (fun k => c.fil.length - k) 0 (by simp) (Wk.tl (by simp [hold, upd, tl_cons])) ?_
  rintro k ⟨hk, ha⟩
  by_cases h : k < c.fil.length
  · have hw1 := w64n (show k < 4611686018427387904 by omega)
    by_cases hq : c.fil[k].prio = id
    · have hf := pidx_found c.fil id k h ha hq
      simp -implicitDefEqProofs [List.lookup_cons, and_assoc, pick_and, pick_or, if_and, if_or, h, hq, cBx]
      refine fin_pure (by simp) ?_
      simp -implicitDefEqProofs [pur2_i, pur2_b, pur2_s, pur2_nil, pur2_sl, pur2_tup, rn2_tup, rn2_agg, rn2_osl, rn1_v, rn1_osl, rn1_agg, rn0_v, rn0_sl, rn0, pickObs, pur_v, pur_b, pur_s, pur_nil, pur_sl, deI, deIs_sl, hf]
    · have hg := all_stepF c.fil (fun x => !decide (x.prio = id)) k h ha (by simp [hq])
      simp -implicitDefEqProofs [List.lookup_cons, and_assoc, pick_and, pick_or, if_and, if_or, h, hq, cBx]
      refine ⟨k + 1, by omega, by simpa using hg, by omega, ?_⟩
      exact Wk.tlD (m := 1) rfl (by simp [hold, upd, tl_cons, hw1]) (by simp [okL_cons, okL_nil, ok1, ok0]) (okH_cBx _ _ _ (by simp [okH_nil]))
  · have e : k = c.fil.length := by omega
    subst e
    rw [List.take_length] at ha
    have hf := pidx_none c.fil id ha
    simp -implicitDefEqProofs [List.lookup_cons, and_assoc, pick_and, pick_or, if_and, if_or, cBx]
    refine fin_pure (by simp) ?_
    simp -implicitDefEqProofs [pur2_i, pur2_b, pur2_s, pur2_nil, pur2_sl, pur2_tup, rn2_tup, rn2_agg, rn2_osl, rn1_v, rn1_osl, rn1_agg, rn0_v, rn0_sl, rn0, pickObs, pur_v, pur_b, pur_s, pur_nil, pur_sl, deI, deIs_sl, hf]
end Go.Proofs
