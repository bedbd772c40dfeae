/-
  What is proved here: contracts of slices.Index and Contains on classes, and of both KeptClasses. Condition: none.
-/
import Derived.Test.YteleljfnjdlnkaaGreatDoorCfC
import Derived.Test.YteleljfnjdlnkaaGreatDoorI1x
namespace Go.Proofs
open Go.Abs
set_option linter.unusedSimpArgs false
set_option linter.unnecessarySimpa false
set_option linter.unusedVariables false
set_option maxHeartbeats 4000000
set_option maxRecDepth 20000

def Cls.eqB (a b : Cls) : Bool := a.id == b.id && a.par == b.par && a.rate == b.rate && a.ceil == b.ceil && a.burst == b.burst && a.cburst == b.cburst && a.prio == b.prio && a.lim == b.lim
theorem Cls.eqB_iff (a b : Cls) : Cls.eqB a b = true ↔ a = b := by
  cases a; cases b
  simp [Cls.eqB, and_assoc]
def F108 : Fun := ⟨fun xs => xs = [.sl (tR (deT (xs.getD 0 .top) : List Cls)), .agg (rX (deA (xs.getD 1 .top) : Cls))] ∧ (fun (l : List Cls) (v : Cls) => (l.length ≤ 1048576)) (deT (xs.getD 0 .top) : List Cls) (deA (xs.getD 1 .top) : Cls), fun xs => (fun (l : List Cls) (v : Cls) => ((I (idxB (Cls.eqB v) l), []) : X × List Ob)) (deT (xs.getD 0 .top) : List Cls) (deA (xs.getD 1 .top) : Cls)⟩
theorem F108_in {xs : List X} (h : F108.pre xs) : ∃ (l : List Cls) (v : Cls), xs = [.sl (tR l), .agg (rX v)] ∧ (l.length ≤ 1048576) := ⟨_, _, h.1, h.2⟩
theorem F108_res (l : List Cls) (v : Cls) : F108.res [.sl (tR l), .agg (rX v)] = (I (idxB (Cls.eqB v) l), []) := by simp [F108]
theorem F108_mk (l : List Cls) (v : Cls) (h : l.length ≤ 1048576) : F108.pre [.sl (tR l), .agg (rX v)] := by simpa [F108] using h
theorem c108 : GenCA K Tryz.prog 108 F108 := by
  refine contractA Tryz.mix K [] [] (by simp) (by simp) Tryz.func108 rfl (by decide) ?_
  intro xs hxs
  obtain ⟨l, v, rfl, hp⟩ := F108_in hxs
  rw [F108_res]
  refine ⟨by rw [Tryz.ntmps108]; simp, ?_⟩
  simp -implicitDefEqProofs [Tryz.f108, List.lookup_cons, and_assoc, pick_and, pick_or, if_and, if_or]
  refine loopP_inv (fun k : Nat => ⟨19, tl [(0, .sl (tR l)), (3, .optr 0 0 0 0), (7, I l.length), (8, I k)], [⟨58, 8, 0, [rX v], true, true, none⟩]⟩) (fun k => k ≤ l.length ∧ (l.take k).all (fun x => !Cls.eqB v x) = true) (fun k => l.length - k) 0 (by simp) (Wk.tl (by simp [hold, upd, tl_cons])) ?_
  rintro k ⟨hk, ha⟩
  by_cases h : k < l.length
  · have hw1 := w64n (show k < 4611686018427387904 by omega)
    simp -implicitDefEqProofs [List.lookup_cons, and_assoc, pick_and, pick_or, if_and, if_or, h]
    refine drawP_all _ (by decide) ?_
    simp -implicitDefEqProofs [List.lookup_cons, and_assoc, pick_and, pick_or, if_and, if_or, h, planEq]
    refine ⟨fun a1 a2 a3 a4 a5 a6 a7 a8 => ?_, fun hne => ?_⟩
    · have he : Cls.eqB v l[k] = true := by simp [Cls.eqB, a1, a2, a3, a4, a5, a6, a7, a8]
      have hf := idxB_found _ l k h ha he
      refine fin_pure (by simp) ?_
      simp -implicitDefEqProofs [pur2_i, pur2_b, pur2_s, pur2_nil, pur2_sl, pur2_tup, rn2_tup, rn2_agg, rn2_osl, rn1_v, rn1_osl, rn1_agg, rn0_v, rn0_sl, rn0, pickObs, pur_v, pur_b, pur_s, pur_nil, pur_sl, deI, deIs_sl, hf]
    · have he : Cls.eqB v l[k] = false := not_true fun he => by
        have e := (Cls.eqB_iff _ _).1 he
        rw [e] at hne
        exact hne rfl rfl rfl rfl rfl rfl rfl rfl
      have hg := all_stepC l (fun x => !Cls.eqB v x) k h ha (by simp [he])
      exact ⟨k + 1, by omega, by simpa using hg, by omega, Wk.tl (by simp [hold, upd, tl_cons, hw1])⟩
  · have e : k = l.length := by omega
    subst e
    rw [List.take_length] at ha
    have hf := idxB_none _ l ha
    simp -implicitDefEqProofs [List.lookup_cons, and_assoc, pick_and, pick_or, if_and, if_or]
    refine fin_pure (by simp) ?_
    simp -implicitDefEqProofs [pur2_i, pur2_b, pur2_s, pur2_nil, pur2_sl, pur2_tup, rn2_tup, rn2_agg, rn2_osl, rn1_v, rn1_osl, rn1_agg, rn0_v, rn0_sl, rn0, pickObs, pur_v, pur_b, pur_s, pur_nil, pur_sl, deI, deIs_sl, hf]
def F73 : Fun := ⟨fun xs => xs = [.sl (tR (deT (xs.getD 0 .top) : List Cls)), .agg (rX (deA (xs.getD 1 .top) : Cls))] ∧ (fun (l : List Cls) (v : Cls) => (l.length ≤ 1048576)) (deT (xs.getD 0 .top) : List Cls) (deA (xs.getD 1 .top) : Cls), fun xs => (fun (l : List Cls) (v : Cls) => ((B (l.any (Cls.eqB v)), []) : X × List Ob)) (deT (xs.getD 0 .top) : List Cls) (deA (xs.getD 1 .top) : Cls)⟩
theorem F73_in {xs : List X} (h : F73.pre xs) : ∃ (l : List Cls) (v : Cls), xs = [.sl (tR l), .agg (rX v)] ∧ (l.length ≤ 1048576) := ⟨_, _, h.1, h.2⟩
theorem F73_res (l : List Cls) (v : Cls) : F73.res [.sl (tR l), .agg (rX v)] = (B (l.any (Cls.eqB v)), []) := by simp [F73]
theorem F73_mk (l : List Cls) (v : Cls) (h : l.length ≤ 1048576) : F73.pre [.sl (tR l), .agg (rX v)] := by simpa [F73] using h
theorem c73 : GenCA K Tryz.prog 73 F73 := by
  refine contractA Tryz.mix K [(108, F108)] [] (by simp [c108]) (by simp) Tryz.func73 rfl (by decide) ?_
  intro xs hxs
  obtain ⟨l, v, rfl, hp⟩ := F73_in hxs
  rw [F73_res]
  refine ⟨by rw [Tryz.ntmps73]; simp, ?_⟩
  have hh := idxB_any (Cls.eqB v) l
  simp -implicitDefEqProofs [Tryz.f73, F108, List.lookup_cons, and_assoc, pick_and, pick_or, if_and, if_or, hp, hh]
  refine fin_pure (by simp) ?_
  simp -implicitDefEqProofs [pur2_i, pur2_b, pur2_s, pur2_nil, pur2_sl, pur2_tup, rn2_tup, rn2_agg, rn2_osl, rn1_v, rn1_osl, rn1_agg, rn0_v, rn0_sl, rn0, pickObs, pur_v, pur_b, pur_s, pur_nil, pur_sl, deI, deIs_sl]

/-! ### ids that rise are different -/
theorem ids_lt {l : List Cls} (h : (List.range l.length).all (upP l) = true) : ∀ d i, i + d + 1 < l.length → (atC l i).id < (atC l (i + d + 1)).id := by
  have h1 : ∀ i, i + 1 < l.length → (atC l i).id < (atC l (i + 1)).id := fun i hi => by
    have := all_range.1 h (i + 1) hi
    simpa [upP] using this
  intro d
  induction d with
  | zero => exact fun i hi => h1 i hi
  | succ d ih => exact fun i hi => Int.lt_trans (ih i (by omega)) (h1 (i + d + 1) hi)
theorem ids_inj {l : List Cls} (h : (List.range l.length).all (upP l) = true) {i j : Nat} (hi : i < l.length) (hj : j < l.length) (e : (atC l i).id = (atC l j).id) : i = j := by
  rcases Nat.lt_trichotomy i j with h1 | h1 | h1
  · have := ids_lt h (j - i - 1) i (by omega)
    rw [show i + (j - i - 1) + 1 = j by omega] at this
    omega
  · exact h1
  · have := ids_lt h (i - j - 1) j (by omega)
    rw [show j + (i - j - 1) + 1 = i by omega] at this
    omega
theorem fidx_at {l : List Cls} (h : (List.range l.length).all (upP l) = true) (i : Nat) (hi : i < l.length) : fidx l l[i].id = (i : Int) := by
  have : l.findIdx? (fun x => decide (x.id = l[i].id)) = some i := by
    rw [List.findIdx?_eq_some_iff_getElem]
    refine ⟨hi, by simp, fun j hj => ?_⟩
    have hj' : j < l.length := by omega
    simp only [decide_eq_true_eq]
    intro e
    have := ids_inj h hj' hi (by rw [atC_eq hj', atC_eq hi]; exact e)
    omega
  simp [fidx, this]
theorem fidx_id {l : List Cls} {id : Int} {j : Nat} (h : fidx l id = j) : ∃ hj : j < l.length, l[j].id = id := by
  unfold fidx at h
  cases hf : l.findIdx? (fun x => decide (x.id = id)) with
  | none => rw [hf] at h; simp at h
  | some i =>
    rw [hf] at h
    obtain ⟨hi, hp, _⟩ := List.findIdx?_eq_some_iff_getElem.1 hf
    simp at h hp
    have e : i = j := by omega
    subst e
    exact ⟨hi, hp⟩
theorem cfg_up {c : Cfg} (h : cfgOk c = true) : (List.range c.cls.length).all (upP c.cls) = true := by
  simp only [cfgOk, treeOk_def, Bool.and_eq_true] at h
  exact h.1.1.2.1.1.2

/-! ### kept -/
def keptL (c d : Cfg) (k : Nat) : List Int := ((c.cls.take k).filter fun x => d.cls.any (Cls.eqB x)).map Cls.id
theorem keptL_succ (c d : Cfg) (k : Nat) (h : k < c.cls.length) : keptL c d (k + 1) = keptL c d k ++ (if d.cls.any (Cls.eqB c.cls[k]) = true then [c.cls[k].id] else []) := by
  unfold keptL
  rw [takeS c.cls k h, List.filter_append, List.map_append]
  cases hq : d.cls.any (Cls.eqB c.cls[k]) <;> simp [hq, List.filter_cons]
theorem keptL_len (c d : Cfg) (k : Nat) : (keptL c d k).length ≤ k := by
  unfold keptL
  rw [List.length_map]
  exact Nat.le_trans (List.length_filter_le _ _) (by simp; omega)
def keptAns (c d : Cfg) : X × List Ob := if (isCfg c && isCfg d) = true then (.tup [.osl 0 0, B true], [iOb (keptL c d c.cls.length)]) else (.tup [.sl [], B false], [])
end Go.Proofs
