/-
  What is proved here: contracts of slices.Index and Contains on classes, and of both KeptClasses. Condition: none.
-/
import Derived.Test.YtglbimhhiikkpaaDoorC9r
import Derived.Test.YtglbimhhiikkpaaDoorI1r
namespace Go.Proofs
open Go.Abs
set_option linter.unusedSimpArgs false
set_option linter.unnecessarySimpa false
set_option linter.unusedVariables false
set_option maxHeartbeats 4000000
set_option maxRecDepth 20000

def Cls.eqB (a b : Cls) : Bool := a.id == b.id && a.par == b.par && a.rate == b.rate && a.ceil == b.ceil && a.burst == b.burst && a.cburst == b.cburst && a.prio == b.prio && a.lim == b.lim
theorem Cls.eqB_iff (a b : Cls) : Cls.eqB a b = true ↔ a = b := by
  cases a; cases b
  simp [Cls.eqB, and_assoc]
def F81 : Fun := ⟨fun xs => xs = [.sl (tR (deT (xs.getD 0 .top) : List Cls)), .agg (rX (deA (xs.getD 1 .top) : Cls))] ∧ (fun (l : List Cls) (v : Cls) => (l.length ≤ 1048576)) (deT (xs.getD 0 .top) : List Cls) (deA (xs.getD 1 .top) : Cls), fun xs => (fun (l : List Cls) (v : Cls) => ((I (idxB (Cls.eqB v) l), []) : X × List Ob)) (deT (xs.getD 0 .top) : List Cls) (deA (xs.getD 1 .top) : Cls)⟩
theorem F81_in {xs : List X} (h : F81.pre xs) : ∃ (l : List Cls) (v : Cls), xs = [.sl (tR l), .agg (rX v)] ∧ (l.length ≤ 1048576) := ⟨_, _, h.1, h.2⟩
theorem F81_res (l : List Cls) (v : Cls) : F81.res [.sl (tR l), .agg (rX v)] = (I (idxB (Cls.eqB v) l), []) := by simp [F81]
theorem F81_mk (l : List Cls) (v : Cls) (h : l.length ≤ 1048576) : F81.pre [.sl (tR l), .agg (rX v)] := by simpa [F81] using h
theorem c81 : GenCA K Tryd.prog 81 F81 := by
  refine contractA Tryd.mix K [] [] (by simp) (by simp) Tryd.func81 rfl (by decide) ?_
  intro xs hxs
  obtain ⟨l, v, rfl, hp⟩ := F81_in hxs
  rw [F81_res]
  refine ⟨by rw [Tryd.ntmps81]; simp, ?_⟩
  simp -implicitDefEqProofs [Tryd.f81, List.lookup_cons, and_assoc, pick_and, pick_or, if_and, if_or]
  refine loopP_inv (fun k : Nat => ⟨19, tl [(0, .sl (tR l)), (3, .optr 0 0 0 0), (7, I l.length), (8, I k)], [⟨64, 8, 0, [rX v], true, true, none⟩]⟩) (fun k => k ≤ l.length ∧ (l.take k).all (fun x => !Cls.eqB v x) = true) (fun k => l.length - k) 0 (by simp) (Wk.tl (by simp [hold, upd, tl_cons])) ?_
  rintro k ⟨hk, ha⟩
  by_cases h : k < l.length
  · have hw1 := w64n (show k < 4611686018427387904 by omega)
    simp -implicitDefEqProofs [List.lookup_cons, and_assoc, pick_and, pick_or, if_and, if_or, h]
    refine drawP_all _ (by decide) ?_
    simp -implicitDefEqProofs [List.lookup_cons, and_assoc, pick_and, pick_or, if_and, if_or, h, planEq]
    refine ⟨fun a1 a2 a3 a4 a5 a6 a7 a8 => ?_, fun hne => ?_⟩
    · have he : Cls.eqB v l[k] = true := by simp [Cls.eqB, a1, a2, a3, a4, a5, a6, a7, a8]
      have hf := idxB_found _ l k h ha he
      refine fin_pure (by simp) ?_
      simp -implicitDefEqProofs [pur2_i, pur2_b, pur2_s, pur2_nil, pur2_sl, pur2_tup, rn2_tup, rn2_agg, rn2_osl, rn1_v, rn1_osl, rn1_agg, rn0_v, rn0_sl, rn0, pickObs, pur_v, pur_b, pur_s, pur_nil, pur_sl, deI, deIs_sl, hf]
    · have he : Cls.eqB v l[k] = false := not_true fun he => by
        have e := (Cls.eqB_iff _ _).1 he
        rw [e] at hne
        exact hne rfl rfl rfl rfl rfl rfl rfl rfl
      have hg := all_stepC l (fun x => !Cls.eqB v x) k h ha (by simp [he])
      exact ⟨k + 1, by omega, by simpa using hg, by omega, Wk.tl (by simp [hold, upd, tl_cons, hw1])⟩
  · have e : k = l.length := by omega
    subst e
    rw [List.take_length] at ha
    have hf := idxB_none _ l ha
    simp -implicitDefEqProofs [List.lookup_cons, and_assoc, pick_and, pick_or, if_and, if_or]
    refine fin_pure (by simp) ?_
    simp -implicitDefEqProofs [pur2_i, pur2_b, pur2_s, pur2_nil, pur2_sl, pur2_tup, rn2_tup, rn2_agg, rn2_osl, rn1_v, rn1_osl, rn1_agg, rn0_v, rn0_sl, rn0, pickObs, pur_v, pur_b, pur_s, pur_nil, pur_sl, deI, deIs_sl, hf]
def F45 : Fun := ⟨fun xs => xs = [.sl (tR (deT (xs.getD 0 .top) : List Cls)), .agg (rX (deA (xs.getD 1 .top) : Cls))] ∧ (fun (l : List Cls) (v : Cls) => (l.length ≤ 1048576)) (deT (xs.getD 0 .top) : List Cls) (deA (xs.getD 1 .top) : Cls), fun xs => (fun (l : List Cls) (v : Cls) => ((B (l.any (Cls.eqB v)), []) : X × List Ob)) (deT (xs.getD 0 .top) : List Cls) (deA (xs.getD 1 .top) : Cls)⟩
theorem F45_in {xs : List X} (h : F45.pre xs) : ∃ (l : List Cls) (v : Cls), xs = [.sl (tR l), .agg (rX v)] ∧ (l.length ≤ 1048576) := ⟨_, _, h.1, h.2⟩
theorem F45_res (l : List Cls) (v : Cls) : F45.res [.sl (tR l), .agg (rX v)] = (B (l.any (Cls.eqB v)), []) := by simp [F45]
theorem F45_mk (l : List Cls) (v : Cls) (h : l.length ≤ 1048576) : F45.pre [.sl (tR l), .agg (rX v)] := by simpa [F45] using h
theorem c45 : GenCA K Tryd.prog 45 F45 := by
  refine contractA Tryd.mix K [(81, F81)] [] (by simp [c81]) (by simp) Tryd.func45 rfl (by decide) ?_
  intro xs hxs
  obtain ⟨l, v, rfl, hp⟩ := F45_in hxs
  rw [F45_res]
  refine ⟨by rw [Tryd.ntmps45]; simp, ?_⟩
  have hh := idxB_any (Cls.eqB v) l
  simp -implicitDefEqProofs [Tryd.f45, F81, List.lookup_cons, and_assoc, pick_and, pick_or, if_and, if_or, hp, hh]
  refine fin_pure (by simp) ?_
  simp -implicitDefEqProofs [pur2_i, pur2_b, pur2_s, pur2_nil, pur2_sl, pur2_tup, rn2_tup, rn2_agg, rn2_osl, rn1_v, rn1_osl, rn1_agg, rn0_v, rn0_sl, rn0, pickObs, pur_v, pur_b, pur_s, pur_nil, pur_sl, deI, deIs_sl]

/-! ### ids that rise are different -/
theorem ids_lt {l : List Cls} (h : (List.range l.length).all (upP l) = true) : ∀ d i, i + d + 1 < l.length → (atC l i).id < (atC l (i + d + 1)).id := by
  have h1 : ∀ i, i + 1 < l.length → (atC l i).id < (atC l (i + 1)).id := fun i hi => by
    have := all_range.1 h (i + 1) hi
    simpa [upP] using this
  intro d
  induction d with
  | zero => exact fun i hi => h1 i hi
  | succ d ih => exact fun i hi => Int.lt_trans (ih i (by omega)) (h1 (i + d + 1) hi)
theorem ids_inj {l : List Cls} (h : (List.range l.length).all (upP l) = true) {i j : Nat} (hi : i < l.length) (hj : j < l.length) (e : (atC l i).id = (atC l j).id) : i = j := by
  rcases Nat.lt_trichotomy i j with h1 | h1 | h1
  · have := ids_lt h (j - i - 1) i (by omega)
    rw [show i + (j - i - 1) + 1 = j by omega] at this
    omega
  · exact h1
  · have := ids_lt h (i - j - 1) j (by omega)
    rw [show j + (i - j - 1) + 1 = i by omega] at this
    omega
theorem fidx_at {l : List Cls} (h : (List.range l.length).all (upP l) = true) (i : Nat) (hi : i < l.length) : fidx l l[i].id = (i : Int) := by
  have : l.findIdx? (fun x => decide (x.id = l[i].id)) = some i := by
    rw [List.findIdx?_eq_some_iff_getElem]
    refine ⟨hi, by simp, fun j hj => ?_⟩
    have hj' : j < l.length := by omega
    simp only [decide_eq_true_eq]
    intro e
    have := ids_inj h hj' hi (by rw [atC_eq hj', atC_eq hi]; exact e)
    omega
  simp [fidx, this]
theorem fidx_id {l : List Cls} {id : Int} {j : Nat} (h : fidx l id = j) : ∃ hj : j < l.length, l[j].id = id := by
  unfold fidx at h
  cases hf : l.findIdx? (fun x => decide (x.id = id)) with
  | none => rw [hf] at h; simp at h
  | some i =>
    rw [hf] at h
    obtain ⟨hi, hp, _⟩ := List.findIdx?_eq_some_iff_getElem.1 hf
    simp at h hp
    have e : i = j := by omega
    subst e
    exact ⟨hi, hp⟩
theorem cfg_up {c : Cfg} (h : cfgOk c = true) : (List.range c.cls.length).all (upP c.cls) = true := by
  simp only [cfgOk, treeOk_def, Bool.and_eq_true] at h
  exact h.1.1.2.1.1.2

/-! ### kept -/
def keptL (c d : Cfg) (k : Nat) : List Int := ((c.cls.take k).filter fun x => d.cls.any (Cls.eqB x)).map Cls.id
theorem keptL_succ (c d : Cfg) (k : Nat) (h : k < c.cls.length) : keptL c d (k + 1) = keptL c d k ++ (if d.cls.any (Cls.eqB c.cls[k]) = true then [c.cls[k].id] else []) := by
  unfold keptL
  rw [takeS c.cls k h, List.filter_append, List.map_append]
  cases hq : d.cls.any (Cls.eqB c.cls[k]) <;> simp [hq, List.filter_cons]
theorem keptL_len (c d : Cfg) (k : Nat) : (keptL c d k).length ≤ k := by
  unfold keptL
  rw [List.length_map]
  exact Nat.le_trans (List.length_filter_le _ _) (by simp; omega)
def keptAns (c d : Cfg) : X × List Ob := if (isCfg c && isCfg d) = true then (.tup [.osl 0 0, B true], [iOb (keptL c d c.cls.length)]) else (.tup [.sl [], B false], [])
def F12 : Fun := ⟨fun xs => xs = [.agg (cX (deC (xs.getD 0 .top) : Cfg)), .agg (cX (deC (xs.getD 1 .top) : Cfg))] ∧ (fun (c : Cfg) (d : Cfg) => (okC c ∧ okC d)) (deC (xs.getD 0 .top) : Cfg) (deC (xs.getD 1 .top) : Cfg), fun xs => (fun (c : Cfg) (d : Cfg) => ((keptAns c d) : X × List Ob)) (deC (xs.getD 0 .top) : Cfg) (deC (xs.getD 1 .top) : Cfg)⟩
theorem F12_in {xs : List X} (h : F12.pre xs) : ∃ (c : Cfg) (d : Cfg), xs = [.agg (cX c), .agg (cX d)] ∧ (okC c ∧ okC d) := ⟨_, _, h.1, h.2⟩
theorem F12_res (c : Cfg) (d : Cfg) : F12.res [.agg (cX c), .agg (cX d)] = (keptAns c d) := by simp [F12]
theorem F12_mk (c : Cfg) (d : Cfg) (h : okC c ∧ okC d) : F12.pre [.agg (cX c), .agg (cX d)] := by simpa [F12] using h
theorem c12 : GenCA K Tryd.prog 12 F12 := by
  refine contractA Tryd.mix K [(44, F44), (45, F45)] [] (by simp [c44, c45]) (by simp) Tryd.func12 rfl (by decide) ?_
  intro xs hxs
  obtain ⟨c, d, rfl, hp⟩ := F12_in hxs
  rw [F12_res]
  refine ⟨by rw [Tryd.ntmps12]; simp, ?_⟩
  obtain ⟨hpc, hpd⟩ := hp
  cases gc : isCfg c with
  | false =>
    simp -implicitDefEqProofs [Tryd.f12, F44, F45, List.lookup_cons, and_assoc, pick_and, pick_or, if_and, if_or, hpc, gc]
    refine fin_pure (by simp) ?_
    simp -implicitDefEqProofs [pur2_i, pur2_b, pur2_s, pur2_nil, pur2_sl, pur2_tup, rn2_tup, rn2_agg, rn2_osl, rn1_v, rn1_osl, rn1_agg, rn0_v, rn0_sl, rn0, pickObs, pur_v, pur_b, pur_s, pur_nil, pur_sl, deI, deIs_sl, keptAns, gc]
  | true =>
  cases gd : isCfg d with
  | false =>
    simp -implicitDefEqProofs [Tryd.f12, F44, F45, List.lookup_cons, and_assoc, pick_and, pick_or, if_and, if_or, hpc, hpd, gc, gd]
    refine fin_pure (by simp) ?_
    simp -implicitDefEqProofs [pur2_i, pur2_b, pur2_s, pur2_nil, pur2_sl, pur2_tup, rn2_tup, rn2_agg, rn2_osl, rn1_v, rn1_osl, rn1_agg, rn0_v, rn0_sl, rn0, pickObs, pur_v, pur_b, pur_s, pur_nil, pur_sl, deI, deIs_sl, keptAns, gc, gd]
  | true =>
  have hl := hpc.1
  have hd := hpd.1
  simp -implicitDefEqProofs [Tryd.f12, List.lookup_cons, and_assoc, pick_and, pick_or, if_and, if_or, F44, hpc, hpd, gc, gd, eBuildSlice, srcRows, srcOk, chunk]
  refine loopP_inv (fun k : Nat => ⟨36, tl [(2, .optr 0 0 0 0), (3, .optr 1 0 0 0), (6, .osl 2 0), (19, .sl (tR c.cls)), (20, I c.cls.length), (21, I k)], [cBx c, cBx d, iOb (keptL c d k)]⟩) (fun k => k ≤ c.cls.length) (fun k => c.cls.length - k) 0 (Nat.zero_le _) (Wk.tl (by simp [hold, upd, tl_cons])) ?_
  intro k hk
  by_cases h : k < c.cls.length
  · have hw1 := w64n (show k < 4611686018427387904 by omega)
    have hS := keptL_succ c d k h
    have hln := keptL_len c d k
    cases hq : d.cls.any (Cls.eqB c.cls[k]) with
    | true =>
      rw [if_pos hq] at hS
      simp -implicitDefEqProofs [List.lookup_cons, and_assoc, pick_and, pick_or, if_and, if_or, h, cBx, iOb, hd, F45, hq, -List.any_eq_true, eAppend, eBuildSlice, srcRows, srcOk, chunk]
      refine ⟨by omega, by omega, k + 1, by omega, by omega, ?_⟩
      rw [show iR (keptL c d k) ++ [[I c.cls[k].id]] = iR (keptL c d (k + 1)) by rw [hS]; simp [← iR_append, iR_cons, iR_nil]]
      refine Wk.tlP [0, 1, 2] (by simp [pickOk, -List.all_eq_true, iR_ok, ok0]) ?_ ?_
      · simp [pickObs]
      · simp [hold, upd, tl_cons, rn1, rn0, hw1]
        exact ⟨rfl, rfl, rfl⟩
    | false =>
      rw [hq, if_neg (by simp), List.append_nil] at hS
      simp -implicitDefEqProofs [List.lookup_cons, and_assoc, pick_and, pick_or, if_and, if_or, h, cBx, iOb, hd, F45, hq, -List.any_eq_false, eAppend, eBuildSlice, srcRows, srcOk, chunk]
      refine ⟨k + 1, by omega, by omega, ?_⟩
      rw [hS]
      exact Wk.tlD (m := 3) rfl (by simp [hold, upd, tl_cons, hw1]) (by simp [okL_cons, okL_nil, ok1, ok0]) (okH_cBx _ _ _ (okH_cBx _ _ _ (okH_iR _ _ _ _ _ _ _ _ _ (by simp [okH_nil]))))
  · have e : k = c.cls.length := by omega
    subst e
    simp -implicitDefEqProofs [List.lookup_cons, and_assoc, pick_and, pick_or, if_and, if_or, iOb, cBx]
    refine fin_own [2] (by simp [pickOk, -List.all_eq_true, iR_ok]) ?_
    simp -implicitDefEqProofs [pur2_i, pur2_b, pur2_s, pur2_nil, pur2_sl, pur2_tup, rn2_tup, rn2_agg, rn2_osl, rn1_v, rn1_osl, rn1_agg, rn0_v, rn0_sl, rn0, pickObs, pur_v, pur_b, pur_s, pur_nil, pur_sl, deI, deIs_sl, iOb, keptAns, gc, gd]
theorem c10 : GenCA K Tryd.prog 10 F12 := by
  refine contractA Tryd.mix K [(40, F44), (41, F72)] [] (by simp [c40, c41]) (by simp) Tryd.func10 rfl (by decide) ?_
  intro xs hxs
  obtain ⟨c, d, rfl, hp⟩ := F12_in hxs
  rw [F12_res]
  refine ⟨by rw [Tryd.ntmps10]; simp, ?_⟩
  obtain ⟨hpc, hpd⟩ := hp
  cases gc : isCfg c with
  | false =>
    simp -implicitDefEqProofs [Tryd.f10, F44, F72, List.lookup_cons, and_assoc, pick_and, pick_or, if_and, if_or, hpc, gc]
    refine fin_pure (by simp) ?_
    simp -implicitDefEqProofs [pur2_i, pur2_b, pur2_s, pur2_nil, pur2_sl, pur2_tup, rn2_tup, rn2_agg, rn2_osl, rn1_v, rn1_osl, rn1_agg, rn0_v, rn0_sl, rn0, pickObs, pur_v, pur_b, pur_s, pur_nil, pur_sl, deI, deIs_sl, keptAns, gc]
  | true =>
  cases gd : isCfg d with
  | false =>
    simp -implicitDefEqProofs [Tryd.f10, F44, F72, List.lookup_cons, and_assoc, pick_and, pick_or, if_and, if_or, hpc, hpd, gc, gd]
    refine fin_pure (by simp) ?_
    simp -implicitDefEqProofs [pur2_i, pur2_b, pur2_s, pur2_nil, pur2_sl, pur2_tup, rn2_tup, rn2_agg, rn2_osl, rn1_v, rn1_osl, rn1_agg, rn0_v, rn0_sl, rn0, pickObs, pur_v, pur_b, pur_s, pur_nil, pur_sl, deI, deIs_sl, keptAns, gc, gd]
  | true =>
  have hl := hpc.1
  have hd := hpd.1
  have hud := cfg_up (c := d) (by rw [← isCfg_eq]; exact gd)
  simp -implicitDefEqProofs [Tryd.f10, List.lookup_cons, and_assoc, pick_and, pick_or, if_and, if_or, F44, hpc, hpd, gc, gd]
  refine loopP_inv (fun k : Nat => ⟨47, tl [(2, .optr 0 0 0 0), (3, .optr 1 0 0 0), (6, .osl 2 0), (19, .sl (tR c.cls)), (20, I c.cls.length), (21, I k)], [cBx c, cBx d, iOb (keptL c d k)]⟩) (fun k => k ≤ c.cls.length) (fun k => c.cls.length - k) 0 (Nat.zero_le _) (Wk.tlN (h := [cBx c, cBx d]) 3 1 6 (by simp [upd]) (by simp [hold, upd, tl_cons])) ?_
  intro k hk
  by_cases h : k < c.cls.length
  · have hw1 := w64n (show k < 4611686018427387904 by omega)
    have hS := keptL_succ c d k h
    have hln := keptL_len c d k
    have hout : d.cls.any (Cls.eqB c.cls[k]) = false → keptL c d (k + 1) = keptL c d k := fun hq => by rw [hS, hq, if_neg (by simp), List.append_nil]
    simp -implicitDefEqProofs [List.lookup_cons, and_assoc, pick_and, pick_or, if_and, if_or, h, cBx, iOb, hpd, F72]
    refine drawP_all _ (by decide) ?_
    cases hq : d.cls.any (Cls.eqB c.cls[k]) with
    | true =>
      rw [if_pos hq] at hS
      obtain ⟨y, hy, hye⟩ := List.any_eq_true.1 hq
      rw [← (Cls.eqB_iff _ _).1 hye] at hy
      obtain ⟨j, hj, hje⟩ := List.getElem_of_mem hy
      have hf : fidx d.cls c.cls[k].id = (j : Int) := by rw [← hje]; exact fidx_at hud j hj
      simp -implicitDefEqProofs [List.lookup_cons, and_assoc, pick_and, pick_or, if_and, if_or, h, cBx, iOb, hf, hj, hje, planEq, eAppend, eBuildSlice, srcRows, srcOk, chunk]
      refine ⟨by omega, by omega, k + 1, by omega, by omega, ?_⟩
      rw [show iR (keptL c d k) ++ [[I c.cls[k].id]] = iR (keptL c d (k + 1)) by rw [hS]; simp [← iR_append, iR_cons, iR_nil]]
      refine Wk.tlP [0, 1, 2] (by simp [pickOk, -List.all_eq_true, iR_ok, ok0]) ?_ ?_
      · simp [pickObs]
      · simp [hold, upd, tl_cons, rn1, rn0, hw1]
        exact ⟨rfl, rfl, rfl⟩
    | false =>
      by_cases hf0 : 0 ≤ fidx d.cls c.cls[k].id
      · obtain ⟨j, hf⟩ := Int.eq_ofNat_of_zero_le hf0
        obtain ⟨hj, hid⟩ := fidx_id hf
        have hne : ¬ d.cls[j] = c.cls[k] := fun e => by
          have : d.cls.any (Cls.eqB c.cls[k]) = true := List.any_eq_true.2 ⟨d.cls[j], List.getElem_mem hj, (Cls.eqB_iff _ _).2 e.symm⟩
          rw [this] at hq; cases hq
        simp -implicitDefEqProofs [List.lookup_cons, and_assoc, pick_and, pick_or, if_and, if_or, h, cBx, iOb, hf, hj, planEq, eAppend, eBuildSlice, srcRows, srcOk, chunk]
        refine ⟨fun a1 a2 a3 a4 a5 a6 a7 a8 => (hne ((Cls.eqB_iff _ _).1 (by simp [Cls.eqB, a1, a2, a3, a4, a5, a6, a7, a8]))).elim, fun _ => ?_⟩
        refine ⟨k + 1, by omega, by omega, ?_⟩
        rw [hout hq]
        exact Wk.tlD (m := 3) rfl (by simp [hold, upd, tl_cons, hw1]) (by simp [okL_cons, okL_nil, ok1, ok0]) (okH_cBx _ _ _ (okH_cBx _ _ _ (okH_iR _ _ _ _ _ _ _ _ _ (by simp [okH_nil]))))
      · simp -implicitDefEqProofs [List.lookup_cons, and_assoc, pick_and, pick_or, if_and, if_or, h, cBx, iOb, hf0, planEq, eAppend, eBuildSlice, srcRows, srcOk, chunk]
        refine ⟨k + 1, by omega, by omega, ?_⟩
        rw [hout hq]
        exact Wk.tlD (m := 3) rfl (by simp [hold, upd, tl_cons, hw1]) (by simp [okL_cons, okL_nil, ok1, ok0]) (okH_cBx _ _ _ (okH_cBx _ _ _ (okH_iR _ _ _ _ _ _ _ _ _ (by simp [okH_nil]))))
  · have e : k = c.cls.length := by omega
    subst e
    simp -implicitDefEqProofs [List.lookup_cons, and_assoc, pick_and, pick_or, if_and, if_or, iOb, cBx]
    refine fin_own [2] (by simp [pickOk, -List.all_eq_true, iR_ok]) ?_
    simp -implicitDefEqProofs [pur2_i, pur2_b, pur2_s, pur2_nil, pur2_sl, pur2_tup, rn2_tup, rn2_agg, rn2_osl, rn1_v, rn1_osl, rn1_agg, rn0_v, rn0_sl, rn0, pickObs, pur_v, pur_b, pur_s, pur_nil, pur_sl, deI, deIs_sl, iOb, keptAns, gc, gd]
end Go.Proofs
