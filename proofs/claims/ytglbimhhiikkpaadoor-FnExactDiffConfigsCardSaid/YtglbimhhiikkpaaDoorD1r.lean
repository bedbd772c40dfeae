/-
  What is proved here: contracts of the searches of a filter by its prio and by its value. Condition: none.
-/
import Derived.Test.YtglbimhhiikkpaaDoorC10r
namespace Go.Proofs
open Go.Abs
set_option linter.unusedSimpArgs false
set_option linter.unnecessarySimpa false
set_option linter.unusedVariables false
set_option maxHeartbeats 4000000
set_option maxRecDepth 20000

def Fil.eqB (a b : Fil) : Bool := a.prio == b.prio && a.field == b.field && a.mask == b.mask && a.value == b.value && a.target == b.target
theorem Fil.eqB_iff (a b : Fil) : Fil.eqB a b = true ↔ a = b := by
  cases a; cases b
  simp [Fil.eqB, and_assoc]
theorem all_stepF (l : List Fil) (p : Fil → Bool) (k : Nat) (h : k < l.length) (h1 : (l.take k).all p = true) (h2 : p l[k] = true) : (l.take (k + 1)).all p = true := by
  rw [takeS l k h, List.all_append, h1]; simp [h2]
def F139 : Fun := ⟨fun xs => xs = [.sl (tR (deT (xs.getD 0 .top) : List Fil)), .agg (rX (deA (xs.getD 1 .top) : Fil))] ∧ (fun (l : List Fil) (v : Fil) => (l.length ≤ 1048576)) (deT (xs.getD 0 .top) : List Fil) (deA (xs.getD 1 .top) : Fil), fun xs => (fun (l : List Fil) (v : Fil) => ((I (idxB (Fil.eqB v) l), []) : X × List Ob)) (deT (xs.getD 0 .top) : List Fil) (deA (xs.getD 1 .top) : Fil)⟩
theorem F139_in {xs : List X} (h : F139.pre xs) : ∃ (l : List Fil) (v : Fil), xs = [.sl (tR l), .agg (rX v)] ∧ (l.length ≤ 1048576) := ⟨_, _, h.1, h.2⟩
theorem F139_res (l : List Fil) (v : Fil) : F139.res [.sl (tR l), .agg (rX v)] = (I (idxB (Fil.eqB v) l), []) := by simp [F139]
theorem F139_mk (l : List Fil) (v : Fil) (h : l.length ≤ 1048576) : F139.pre [.sl (tR l), .agg (rX v)] := by simpa [F139] using h
theorem c139 : GenCA K Tryd.prog 139 F139 := by
  refine contractA Tryd.mix K [] [] (by simp) (by simp) Tryd.func139 rfl (by decide) ?_
  intro xs hxs
  obtain ⟨l, v, rfl, hp⟩ := F139_in hxs
  rw [F139_res]
  refine ⟨by rw [Tryd.ntmps139]; simp, ?_⟩
  simp -implicitDefEqProofs [Tryd.f139, List.lookup_cons, and_assoc, pick_and, pick_or, if_and, if_or]
  refine loopP_inv (fun k : Nat => ⟨19, tl [(0, .sl (tR l)), (3, .optr 0 0 0 0), (7, I l.length), (8, I k)], [⟨65, 5, 0, [rX v], true, true, none⟩]⟩) (fun k => k ≤ l.length ∧ (l.take k).all (fun x => !Fil.eqB v x) = true) (fun k => l.length - k) 0 (by simp) (Wk.tl (by simp [hold, upd, tl_cons])) ?_
  rintro k ⟨hk, ha⟩
  by_cases h : k < l.length
  · have hw1 := w64n (show k < 4611686018427387904 by omega)
    simp -implicitDefEqProofs [List.lookup_cons, and_assoc, pick_and, pick_or, if_and, if_or, h]
    refine drawP_all _ (by decide) ?_
    simp -implicitDefEqProofs [List.lookup_cons, and_assoc, pick_and, pick_or, if_and, if_or, h, planEq]
    refine ⟨fun a1 a2 a3 a4 a5 => ?_, fun hne => ?_⟩
    · have he : Fil.eqB v l[k] = true := by simp [Fil.eqB, a1, a2, a3, a4, a5]
      have hf := idxB_found _ l k h ha he
      refine fin_pure (by simp) ?_
      simp -implicitDefEqProofs [pur2_i, pur2_b, pur2_s, pur2_nil, pur2_sl, pur2_tup, rn2_tup, rn2_agg, rn2_osl, rn1_v, rn1_osl, rn1_agg, rn0_v, rn0_sl, rn0, pickObs, pur_v, pur_b, pur_s, pur_nil, pur_sl, deI, deIs_sl, hf]
    · have he : Fil.eqB v l[k] = false := not_true fun he => by
        have e := (Fil.eqB_iff _ _).1 he
        rw [e] at hne
        exact hne rfl rfl rfl rfl rfl
      have hg := all_stepF l (fun x => !Fil.eqB v x) k h ha (by simp [he])
      exact ⟨k + 1, by omega, by simpa using hg, by omega, Wk.tl (by simp [hold, upd, tl_cons, hw1])⟩
  · have e : k = l.length := by omega
    subst e
    rw [List.take_length] at ha
    have hf := idxB_none _ l ha
    simp -implicitDefEqProofs [List.lookup_cons, and_assoc, pick_and, pick_or, if_and, if_or]
    refine fin_pure (by simp) ?_
    simp -implicitDefEqProofs [pur2_i, pur2_b, pur2_s, pur2_nil, pur2_sl, pur2_tup, rn2_tup, rn2_agg, rn2_osl, rn1_v, rn1_osl, rn1_agg, rn0_v, rn0_sl, rn0, pickObs, pur_v, pur_b, pur_s, pur_nil, pur_sl, deI, deIs_sl, hf]
def F93 : Fun := ⟨fun xs => xs = [.sl (tR (deT (xs.getD 0 .top) : List Fil)), .agg (rX (deA (xs.getD 1 .top) : Fil))] ∧ (fun (l : List Fil) (v : Fil) => (l.length ≤ 1048576)) (deT (xs.getD 0 .top) : List Fil) (deA (xs.getD 1 .top) : Fil), fun xs => (fun (l : List Fil) (v : Fil) => ((B (l.any (Fil.eqB v)), []) : X × List Ob)) (deT (xs.getD 0 .top) : List Fil) (deA (xs.getD 1 .top) : Fil)⟩
theorem F93_in {xs : List X} (h : F93.pre xs) : ∃ (l : List Fil) (v : Fil), xs = [.sl (tR l), .agg (rX v)] ∧ (l.length ≤ 1048576) := ⟨_, _, h.1, h.2⟩
theorem F93_res (l : List Fil) (v : Fil) : F93.res [.sl (tR l), .agg (rX v)] = (B (l.any (Fil.eqB v)), []) := by simp [F93]
theorem F93_mk (l : List Fil) (v : Fil) (h : l.length ≤ 1048576) : F93.pre [.sl (tR l), .agg (rX v)] := by simpa [F93] using h
theorem c93 : GenCA K Tryd.prog 93 F93 := by
  refine contractA Tryd.mix K [(139, F139)] [] (by simp [c139]) (by simp) Tryd.func93 rfl (by decide) ?_
  intro xs hxs
  obtain ⟨l, v, rfl, hp⟩ := F93_in hxs
  rw [F93_res]
  refine ⟨by rw [Tryd.ntmps93]; simp, ?_⟩
  have hh := idxB_any (Fil.eqB v) l
  simp -implicitDefEqProofs [Tryd.f93, F139, List.lookup_cons, and_assoc, pick_and, pick_or, if_and, if_or, hp, hh]
  refine fin_pure (by simp) ?_
  simp -implicitDefEqProofs [pur2_i, pur2_b, pur2_s, pur2_nil, pur2_sl, pur2_tup, rn2_tup, rn2_agg, rn2_osl, rn1_v, rn1_osl, rn1_agg, rn0_v, rn0_sl, rn0, pickObs, pur_v, pur_b, pur_s, pur_nil, pur_sl, deI, deIs_sl]

def pidx (l : List Fil) (id : Int) : Int := match l.findIdx? (fun x => decide (x.prio = id)) with | some i => (i : Int) | none => -1
theorem pidx_rng (l : List Fil) (id : Int) : -1 ≤ pidx l id ∧ pidx l id < l.length := by
  unfold pidx
  cases h : l.findIdx? (fun x => decide (x.prio = id)) with
  | none => simp; omega
  | some i =>
    obtain ⟨hi, _⟩ := List.findIdx?_eq_some_iff_getElem.1 h
    simp; omega
theorem pidx_found (l : List Fil) (id : Int) (k : Nat) (h : k < l.length) (h1 : (l.take k).all (fun x => !decide (x.prio = id)) = true) (h2 : l[k].prio = id) : pidx l id = (k : Int) := by
  have : l.findIdx? (fun x => decide (x.prio = id)) = some k := by
    rw [List.findIdx?_eq_some_iff_getElem]
    refine ⟨h, by simpa using h2, fun j hj => ?_⟩
    rw [List.all_eq_true] at h1
    have := h1 l[j] (List.mem_take_iff_getElem.2 ⟨j, by omega, rfl⟩)
    simpa using this
  simp [pidx, this]
theorem pidx_none (l : List Fil) (id : Int) (h1 : l.all (fun x => !decide (x.prio = id)) = true) : pidx l id = -1 := by
  have : l.findIdx? (fun x => decide (x.prio = id)) = none := by
    rw [List.findIdx?_eq_none_iff]
    intro x hx
    rw [List.all_eq_true] at h1
    simpa using h1 x hx
  simp [pidx, this]
def upF (l : List Fil) (i : Nat) : Bool := decide (i = 0) || decide ((atF l (i - 1)).prio < (atF l i).prio)
theorem prios_lt {l : List Fil} (h : (List.range l.length).all (upF l) = true) : ∀ d i, i + d + 1 < l.length → (atF l i).prio < (atF l (i + d + 1)).prio := by
  have h1 : ∀ i, i + 1 < l.length → (atF l i).prio < (atF l (i + 1)).prio := fun i hi => by
    have := all_range.1 h (i + 1) hi
    simpa [upF] using this
  intro d
  induction d with
  | zero => exact fun i hi => h1 i hi
  | succ d ih => exact fun i hi => Int.lt_trans (ih i (by omega)) (h1 (i + d + 1) hi)
theorem prios_inj {l : List Fil} (h : (List.range l.length).all (upF l) = true) {i j : Nat} (hi : i < l.length) (hj : j < l.length) (e : (atF l i).prio = (atF l j).prio) : i = j := by
  rcases Nat.lt_trichotomy i j with h1 | h1 | h1
  · have := prios_lt h (j - i - 1) i (by omega)
    rw [show i + (j - i - 1) + 1 = j by omega] at this
    omega
  · exact h1
  · have := prios_lt h (i - j - 1) j (by omega)
    rw [show j + (i - j - 1) + 1 = i by omega] at this
    omega
theorem pidx_at {l : List Fil} (h : (List.range l.length).all (upF l) = true) (i : Nat) (hi : i < l.length) : pidx l l[i].prio = (i : Int) := by
  have : l.findIdx? (fun x => decide (x.prio = l[i].prio)) = some i := by
    rw [List.findIdx?_eq_some_iff_getElem]
    refine ⟨hi, by simp, fun j hj => ?_⟩
    have hj' : j < l.length := by omega
    simp only [decide_eq_true_eq]
    intro e
    have := prios_inj h hj' hi (by rw [atF_eq hj', atF_eq hi]; exact e)
    omega
  simp [pidx, this]
theorem pidx_id {l : List Fil} {id : Int} {j : Nat} (h : pidx l id = j) : ∃ hj : j < l.length, l[j].prio = id := by
  unfold pidx at h
  cases hf : l.findIdx? (fun x => decide (x.prio = id)) with
  | none => rw [hf] at h; simp at h
  | some i =>
    rw [hf] at h
    obtain ⟨hi, hp, _⟩ := List.findIdx?_eq_some_iff_getElem.1 hf
    simp at h hp
    have e : i = j := by omega
    subst e
    exact ⟨hi, hp⟩
theorem cfg_upF {c : Cfg} (h : cfgOk c = true) : (List.range c.fil.length).all (upF c.fil) = true := by
  simp only [cfgOk, Bool.and_eq_true] at h
  have h1 := h.1.2
  simp only [filOk, filUp, Bool.and_eq_true] at h1
  rw [all_range]
  intro i hi
  have := all_range.1 h1.1 i hi
  simp only [Bool.and_eq_true] at this
  exact this.1.2
def prPr (c : List X) (x : Fil) : Bool := decide (x.prio = pI (c.getD 0 .top))
@[simp] theorem prPr_mk (id : Int) (x : Fil) : prPr [.pt [I id]] x = decide (x.prio = id) := by simp [prPr]
theorem pidx_idx (l : List Fil) (id : Int) : idxB (prPr [.pt [I id]]) l = pidx l id := by
  unfold idxB pidx
  have : (prPr [.pt [I id]]) = fun x : Fil => decide (x.prio = id) := by funext x; simp
  rw [this]
  rfl
theorem c138 : GenCA K Tryd.prog 138 (FPr cpId prPr) := by
  refine contractA Tryd.mix K [] [] (by simp) (by simp) Tryd.func138 rfl (by decide) ?_
  intro xs hxs
  obtain ⟨x, id, rfl⟩ : ∃ (x : Fil) (id : Int), xs = [.agg (rX x), .pt [I id]] := ⟨_, _, hxs.1.trans (congrArg (List.cons _) hxs.2)⟩
  have hres : (FPr cpId prPr).res [.agg (rX x), .pt [I id]] = (B (decide (x.prio = id)), []) := by simp [FPr]
  rw [hres]
  refine ⟨by rw [Tryd.ntmps138]; simp, ?_⟩
  simp -implicitDefEqProofs [Tryd.f138, List.lookup_cons, and_assoc, pick_and, pick_or, if_and, if_or]
  refine fin_pure (by simp) ?_
  simp -implicitDefEqProofs [pur2_i, pur2_b, pur2_s, pur2_nil, pur2_sl, pur2_tup, rn2_tup, rn2_agg, rn2_osl, rn1_v, rn1_osl, rn1_agg, rn0_v, rn0_sl, rn0, pickObs, pur_v, pur_b, pur_s, pur_nil, pur_sl, deI, deIs_sl]
  rfl

def F92 : Fun := ⟨fun xs => xs = [.agg (cX (deC (xs.getD 0 .top) : Cfg)), I (deI (xs.getD 1 .top) : Int)] ∧ (fun (c : Cfg) (id : Int) => (okC c)) (deC (xs.getD 0 .top) : Cfg) (deI (xs.getD 1 .top) : Int), fun xs => (fun (c : Cfg) (id : Int) => ((I (pidx c.fil id), []) : X × List Ob)) (deC (xs.getD 0 .top) : Cfg) (deI (xs.getD 1 .top) : Int)⟩
theorem F92_in {xs : List X} (h : F92.pre xs) : ∃ (c : Cfg) (id : Int), xs = [.agg (cX c), I id] ∧ (okC c) := ⟨_, _, h.1, h.2⟩
theorem F92_res (c : Cfg) (id : Int) : F92.res [.agg (cX c), I id] = (I (pidx c.fil id), []) := by simp [F92]
theorem F92_mk (c : Cfg) (id : Int) (h : okC c) : F92.pre [.agg (cX c), I id] := by simpa [F92] using h
theorem c92 : GenCA K Tryd.prog 92 F92 := by
  refine contractA Tryd.mix K [(137, FIx 138 cpId prPr)] [] (by simp [cIxFil 138 cpId prPr cpId_pu c138]) (by simp) Tryd.func92 rfl (by decide) ?_
  intro xs hxs
  obtain ⟨c, id, rfl, hp⟩ := F92_in hxs
  rw [F92_res]
  refine ⟨by rw [Tryd.ntmps92]; simp, ?_⟩
  simp -implicitDefEqProofs [Tryd.f92, List.lookup_cons, and_assoc, pick_and, pick_or, if_and, if_or, FIx, hp.2.1, pidx_idx, pur2_optr, pur1_int, rowOf]
  refine fin_pure (by simp) ?_
  simp -implicitDefEqProofs [pur2_i, pur2_b, pur2_s, pur2_nil, pur2_sl, pur2_tup, rn2_tup, rn2_agg, rn2_osl, rn1_v, rn1_osl, rn1_agg, rn0_v, rn0_sl, rn0, pickObs, pur_v, pur_b, pur_s, pur_nil, pur_sl, deI, deIs_sl]

theorem c91 : GenCA K Tryd.prog 91 F92 := by
  refine contractA Tryd.mix K [] [] (by simp) (by simp) Tryd.func91 rfl (by decide) ?_
  intro xs hxs
  obtain ⟨c, id, rfl, hp⟩ := F92_in hxs
  rw [F92_res]
  refine ⟨by rw [Tryd.ntmps91]; simp, ?_⟩
  have hl := hp.2.1
  simp -implicitDefEqProofs [Tryd.f91, List.lookup_cons, and_assoc, pick_and, pick_or, if_and, if_or]
  refine loopP_inv (fun k : Nat => ⟨21, tl [(1, I id), (2, .optr 0 0 0 0), (8, .sl (tR c.fil)), (9, I c.fil.length), (10, I k)], [cBx c]⟩) (fun k => k ≤ c.fil.length ∧ (c.fil.take k).all (fun x => !decide (x.prio = id)) = true) (fun k => c.fil.length - k) 0 (by simp) (Wk.tl (by simp [hold, upd, tl_cons])) ?_
  rintro k ⟨hk, ha⟩
  by_cases h : k < c.fil.length
  · have hw1 := w64n (show k < 4611686018427387904 by omega)
    by_cases hq : c.fil[k].prio = id
    · have hf := pidx_found c.fil id k h ha hq
      simp -implicitDefEqProofs [List.lookup_cons, and_assoc, pick_and, pick_or, if_and, if_or, h, hq, cBx]
      refine fin_pure (by simp) ?_
      simp -implicitDefEqProofs [pur2_i, pur2_b, pur2_s, pur2_nil, pur2_sl, pur2_tup, rn2_tup, rn2_agg, rn2_osl, rn1_v, rn1_osl, rn1_agg, rn0_v, rn0_sl, rn0, pickObs, pur_v, pur_b, pur_s, pur_nil, pur_sl, deI, deIs_sl, hf]
    · have hg := all_stepF c.fil (fun x => !decide (x.prio = id)) k h ha (by simp [hq])
      simp -implicitDefEqProofs [List.lookup_cons, and_assoc, pick_and, pick_or, if_and, if_or, h, hq, cBx]
      refine ⟨k + 1, by omega, by simpa using hg, by omega, ?_⟩
      exact Wk.tlD (m := 1) rfl (by simp [hold, upd, tl_cons, hw1]) (by simp [okL_cons, okL_nil, ok1, ok0]) (okH_cBx _ _ _ (by simp [okH_nil]))
  · have e : k = c.fil.length := by omega
    subst e
    rw [List.take_length] at ha
    have hf := pidx_none c.fil id ha
    simp -implicitDefEqProofs [List.lookup_cons, and_assoc, pick_and, pick_or, if_and, if_or, cBx]
    refine fin_pure (by simp) ?_
    simp -implicitDefEqProofs [pur2_i, pur2_b, pur2_s, pur2_nil, pur2_sl, pur2_tup, rn2_tup, rn2_agg, rn2_osl, rn1_v, rn1_osl, rn1_agg, rn0_v, rn0_sl, rn0, pickObs, pur_v, pur_b, pur_s, pur_nil, pur_sl, deI, deIs_sl, hf]
end Go.Proofs
