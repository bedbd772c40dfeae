/-
  What is proved here: what a valid loaded configuration keeps, in plain words. Condition: none.
  What is proved here: ways along a list of places, in plain words. Condition: none.
-/
import Derived.Test.YtdpmlddmdogggaaGreatDoorIlA
set_option linter.unusedVariables false
set_option linter.unusedSimpArgs false
set_option linter.unnecessarySimpa false
set_option maxHeartbeats 8000000
set_option maxRecDepth 20000
namespace Go.Proofs
open Go.Abs Go.Srt
structure LdG (x : Ldd) : Prop where
  n : x.cls.length ≤ 24
  f : x.fil.length ≤ 16
  pos : 0 < x.cls.length
  lp : x.par.length = x.cls.length
  lf : x.fst.length = x.cls.length
  ln : x.nx.length = x.cls.length
  le : x.en.length = x.cls.length
  lt : x.tgt.length = x.fil.length
  par : ∀ (i : Nat) (h : i < x.par.length), (x.par[i] = -1 ∧ i = 0) ∨ ∃ p : Nat, x.par[i] = (p : Int) ∧ p < i
  fst : ∀ (i : Nat) (h : i < x.fst.length), x.fst[i] = -1 ∨ ∃ k : Nat, x.fst[i] = (k : Int) ∧ i < k ∧ k < x.cls.length
  nx : ∀ (i : Nat) (h : i < x.nx.length), x.nx[i] = -1 ∨ ∃ k : Nat, x.nx[i] = (k : Int) ∧ i < k ∧ k < x.cls.length
  root : ∀ h : 0 < x.en.length, x.en[0] = (x.cls.length : Int)
  tgt : ∀ (i : Nat) (h : i < x.tgt.length), ∃ k : Nat, x.tgt[i] = (k : Int) ∧ k < x.cls.length
  dflt : x.dflt = -1 ∨ ∃ k : Nat, x.dflt = (k : Int) ∧ k < x.cls.length
  cls : ∀ y ∈ x.cls, Cls.ok y = true
  fil : ∀ y ∈ x.fil, Fil.ok y = true
theorem headI_mem (l : List Nat) : headI l = -1 ∨ ∃ k, k ∈ l ∧ headI l = (k : Int) := by
  cases l with
  | nil => exact .inl rfl
  | cons k l => exact .inr ⟨k, by simp, rfl⟩
theorem walkN_up {l : List Cls} (T : Tree l) : ∀ (n i : Nat), i < l.length → ∀ j, j ∈ walkN l n i → j = i ∨ ∃ q, q < l.length ∧ j ∈ kids l q l.length := by
  intro n
  induction n with
  | zero =>
    intro i hi j hj
    simp only [walkN, List.mem_singleton] at hj
    exact .inl hj
  | succ n ih =>
    intro i hi j hj
    simp only [walkN, List.mem_cons, List.mem_flatMap] at hj
    rcases hj with hj | ⟨k, hk, hj⟩
    · exact .inl hj
    · rcases ih k (mem_kids.1 hk).1 j hj with rfl | h
      · exact .inr ⟨i, hi, hk⟩
      · exact .inr h
theorem wk_zero {l : List Cls} (H : Top l) : ∃ t, wk l = topN l :: t := ⟨_, walk_eq H.T H.lt⟩
theorem wk_head {l : List Cls} (H : Top l) (h : 0 < (wk l).length) : (wk l)[0] = topN l := by
  obtain ⟨t, e⟩ := wk_zero H
  simp only [e, List.getElem_cons_zero]
theorem pos_top {l : List Cls} (H : Top l) : pos l (topN l) = 0 := by
  have h : 0 < (wk l).length := by rw [wk_len H]; have := H.lt; omega
  have := pos_wk H h
  rwa [wk_head H h] at this
theorem pp_rng {l : List Cls} (H : Top l) {i : Nat} (h : i < (wk l).length) : (ppI l (wk l)[i] = -1 ∧ i = 0) ∨ ∃ p : Nat, ppI l (wk l)[i] = (p : Int) ∧ p < i := by
  have a1 := wk_lt H (List.getElem_mem h)
  unfold ppI
  by_cases hn : nxt l ((wk l)[i] : Nat) < 0
  · rw [if_pos hn]
    refine .inl ⟨rfl, ?_⟩
    rcases walkN_up H.T 8 (topN l) H.lt _ (List.getElem_mem h) with e | ⟨q, hq, hk⟩
    · have := pos_wk H h
      rw [e, pos_top H] at this
      exact this.symm
    · have := (nxt_kid H.T hq).2 (mem_kids.1 hk).2
      omega
  · rw [if_neg hn]
    refine .inr ⟨_, rfl, ?_⟩
    have hq := nxt_lt hn
    have hk : (wk l)[i] ∈ kids l (nxt l ((wk l)[i] : Nat)).toNat l.length := mem_kids.2 ⟨a1, (nxt_kid H.T hq).1 (by omega)⟩
    have := (pos_low H hq hk).1
    rwa [pos_wk H h] at this
theorem fs_rng {l : List Cls} (H : Top l) {i : Nat} (h : i < (wk l).length) : fsI l (wk l)[i] = -1 ∨ ∃ k : Nat, fsI l (wk l)[i] = (k : Int) ∧ i < k ∧ k < l.length := by
  have a1 := wk_lt H (List.getElem_mem h)
  unfold fsI
  rcases headI_mem ((kids l (wk l)[i] l.length).map (pos l)) with e | ⟨k, hk, e⟩
  · exact .inl e
  · obtain ⟨j, hj, rfl⟩ := List.mem_map.1 hk
    have := (pos_low H a1 hj).1
    rw [pos_wk H h] at this
    exact .inr ⟨_, e, this, pos_lt H (mem_kids.1 hj).1⟩
theorem nx_rng {l : List Cls} (H : Top l) {i : Nat} (h : i < (wk l).length) : nxI l (wk l)[i] = -1 ∨ ∃ k : Nat, nxI l (wk l)[i] = (k : Int) ∧ i < k ∧ k < l.length := by
  unfold nxI
  rcases headI_mem (((sibs l (wk l)[i]).map (pos l)).filter fun m => decide (pos l (wk l)[i] < m)) with e | ⟨k, hk, e⟩
  · exact .inl e
  · obtain ⟨h1, h2⟩ := List.mem_filter.1 hk
    obtain ⟨j, hj, rfl⟩ := List.mem_map.1 h1
    simp only [decide_eq_true_eq] at h2
    rw [pos_wk H h] at h2
    refine .inr ⟨_, e, h2, pos_lt H ?_⟩
    unfold sibs at hj
    split at hj
    · simp at hj
    · exact (mem_kids.1 hj).1
theorem isLd_loadOf {x : Ldd} (h : isLd x = true) : isCfg (unU x) = true ∧ x = loadOf (unU x) := by
  simp only [isLd, Bool.and_eq_true, sameL, decide_eq_true_eq] at h
  obtain ⟨_, h1, e1, e2, e3, e4, e5, e6, e7⟩ := h
  refine ⟨h1, ?_⟩
  have e8 : (loadOf (unU x)).name = x.name := rfl
  have e9 : (loadOf (unU x)).fil = x.fil := rfl
  revert e1 e2 e3 e4 e5 e6 e7 e8 e9
  generalize loadOf (unU x) = y
  cases x; cases y
  simp
  intros
  simp_all
theorem loadOf_G {c : Cfg} (hg : isCfg c = true) (hf : c.fil.length ≤ 16) : LdG (loadOf c) := by
  have H := topOf hg
  have hw := wk_len H
  have hlim := cfg_lim hg
  have h0 := H.lt
  refine ⟨?_, hf, ?_, ?_, ?_, ?_, ?_, ?_, fun i h => ?_, fun i h => ?_, fun i h => ?_, fun h => ?_, fun i h => ?_, ?_, fun y hy => ?_, fun y hy => ?_⟩
  · simp only [loadOf, List.length_map]; omega
  · simp only [loadOf, List.length_map]; omega
  · simp only [loadOf, List.length_map]
  · simp only [loadOf, List.length_map]
  · simp only [loadOf, List.length_map]
  · simp only [loadOf, List.length_map]
  · simp only [loadOf, List.length_map]
  · simp only [loadOf, List.length_map] at h
    simp only [loadOf, List.getElem_map]
    exact pp_rng H h
  · simp only [loadOf, List.length_map] at h
    simp only [loadOf, List.getElem_map, List.length_map, hw]
    exact fs_rng H h
  · simp only [loadOf, List.length_map] at h
    simp only [loadOf, List.getElem_map, List.length_map, hw]
    exact nx_rng H h
  · simp only [loadOf, List.length_map] at h
    simp only [loadOf, List.getElem_map, List.length_map]
    rw [wk_head H h]
    unfold enN
    rw [pos_top H]
    show ((0 + (wk c.cls).length : Nat) : Int) = _
    omega
  · simp only [loadOf, List.length_map] at h
    simp only [loadOf, List.getElem_map, List.length_map, hw]
    have := tgI_rng hg (fil_tgt hg h)
    exact ⟨_, (Int.toNat_of_nonneg this.1).symm, by omega⟩
  · simp only [loadOf, List.length_map, hw]
    by_cases hd : c.dflt = 0
    · rw [if_pos hd]; exact .inl rfl
    · rw [if_neg hd]
      have := tgI_rng hg (dflt_tgt hg hd)
      exact .inr ⟨_, (Int.toNat_of_nonneg this.1).symm, by omega⟩
  · simp only [loadOf, List.mem_map] at hy
    obtain ⟨j, hj, rfl⟩ := hy
    have hjl := wk_lt H hj
    have h := hg
    rw [isCfg_eq] at h
    simp only [cfgOk, treeOk_def, Bool.and_eq_true] at h
    rw [atC_eq hjl]
    exact List.all_eq_true.1 h.1.1.2.1.1.1 _ (List.getElem_mem hjl)
  · have h := hg
    rw [isCfg_eq] at h
    simp only [cfgOk, filOk, filUp, Bool.and_eq_true, decide_eq_true_eq] at h
    obtain ⟨i, hi, rfl⟩ := List.mem_iff_getElem.1 hy
    have hi' : i < c.fil.length := hi
    have h1 := all_range.1 h.1.2.1 i hi'
    simp only [Bool.and_eq_true] at h1
    have h2 := h1.1.1
    rw [atF_eq hi'] at h2
    exact h2
theorem isLd_G {x : Ldd} (h : isLd x = true) : LdG x := by
  obtain ⟨h1, h2⟩ := isLd_loadOf h
  simp only [isLd, okN, Bool.and_eq_true, decide_eq_true_eq] at h
  rw [h2]
  exact loadOf_G h1 h.1.2
end Go.Proofs
namespace Go.Proofs
open Go.Abs
def hopN (f : List Int) : Nat → Int → List Int
  | 0, _ => []
  | n + 1, k => if k < 0 then [] else k :: hopN f n (f.getD k.toNat (-1))
def hop (f : List Int) (k : Int) : List Int := hopN f 25 k
theorem hopN_neg (f : List Int) (n : Nat) {k : Int} (h : k < 0) : hopN f n k = [] := by
  cases n with
  | zero => rfl
  | succ n => simp [hopN, h]
theorem hop_neg (f : List Int) {k : Int} (h : k < 0) : hop f k = [] := hopN_neg f 25 h
theorem hopN_len (f : List Int) : ∀ (n : Nat) (k : Int), (hopN f n k).length ≤ n
  | 0, k => by simp [hopN]
  | n + 1, k => by
    simp only [hopN]
    split
    · simp
    · simp only [List.length_cons]
      have := hopN_len f n (f.getD k.toNat (-1))
      omega
theorem hop_len (f : List Int) (k : Int) : (hop f k).length ≤ 25 := hopN_len f 25 k
theorem hopN_enough (f : List Int) (μ : Nat → Nat) (ok : Nat → Prop) (hs : ∀ k, ok k → f.getD k (-1) < 0 ∨ ∃ j : Nat, f.getD k (-1) = (j : Int) ∧ ok j ∧ μ j < μ k) :
    ∀ (n m k : Nat), ok k → μ k < n → μ k < m → hopN f n (k : Int) = hopN f m (k : Int)
  | 0, m, k, _, h, _ => by omega
  | n + 1, 0, k, _, _, h => by omega
  | n + 1, m + 1, k, ho, h1, h2 => by
    simp only [hopN]
    rw [if_neg (by omega), if_neg (by omega), Int.toNat_natCast]
    congr 1
    rcases hs k ho with h | ⟨j, e, hj, hm⟩
    · rw [hopN_neg f n h, hopN_neg f m h]
    · rw [e]
      exact hopN_enough f μ ok hs n m j hj (by omega) (by omega)
theorem hop_step (f : List Int) (μ : Nat → Nat) (ok : Nat → Prop) (hs : ∀ k, ok k → f.getD k (-1) < 0 ∨ ∃ j : Nat, f.getD k (-1) = (j : Int) ∧ ok j ∧ μ j < μ k) {k : Nat} (ho : ok k) (hm : μ k < 25) :
    hop f (k : Int) = (k : Int) :: hop f (f.getD k (-1)) := by
  have e : hop f (k : Int) = (k : Int) :: hopN f 24 (f.getD k (-1)) := by
    simp only [hop, hopN]
    rw [if_neg (by omega), Int.toNat_natCast]
  rw [e]
  congr 1
  rcases hs k ho with h | ⟨j, e, hj, hmj⟩
  · rw [hopN_neg f 24 h, hop_neg f h]
  · rw [e]
    exact hopN_enough f μ ok hs 24 25 j hj (by omega) (by omega)
theorem getD_at {f : List Int} {k : Nat} (h : k < f.length) : f.getD k (-1) = f[k] := by simp [h]
theorem hop_par {x : Ldd} (G : LdG x) {k : Nat} (h : k < x.cls.length) : hop x.par (k : Int) = (k : Int) :: hop x.par (x.par.getD k (-1)) := by
  have hn := G.n
  refine hop_step x.par (fun k => k) (fun k => k < x.cls.length) (fun k hk => ?_) h (by omega)
  have hk' : k < x.par.length := by rw [G.lp]; exact hk
  rw [getD_at hk']
  rcases G.par k hk' with ⟨e, _⟩ | ⟨p, e, hp⟩
  · exact .inl (by omega)
  · exact .inr ⟨p, e, by omega, hp⟩
theorem hop_rng {f : List Int} {n : Nat} (hs : ∀ k, k < n → f.getD k (-1) < 0 ∨ ∃ j : Nat, f.getD k (-1) = (j : Int) ∧ j < n) : ∀ (m : Nat) (i : Int), (i < 0 ∨ ∃ j : Nat, i = (j : Int) ∧ j < n) → ∀ k ∈ hopN f m i, ∃ j : Nat, k = (j : Int) ∧ j < n
  | 0, i, _, k, hk => by simp [hopN] at hk
  | m + 1, i, hi, k, hk => by
    simp only [hopN] at hk
    split at hk
    · simp at hk
    · rename_i h
      obtain ⟨j, rfl, hj⟩ := hi.resolve_left h
      rw [Int.toNat_natCast] at hk
      rcases List.mem_cons.1 hk with rfl | hk
      · exact ⟨j, rfl, hj⟩
      · exact hop_rng hs m _ (hs j hj) k hk
theorem par_rng {x : Ldd} (G : LdG x) (k : Nat) (h : k < x.cls.length) : x.par.getD k (-1) < 0 ∨ ∃ j : Nat, x.par.getD k (-1) = (j : Int) ∧ j < x.cls.length := by
  have hk' : k < x.par.length := by rw [G.lp]; exact h
  rw [getD_at hk']
  rcases G.par k hk' with ⟨e, _⟩ | ⟨p, e, hp⟩
  · exact .inl (by omega)
  · exact .inr ⟨p, e, by omega⟩
theorem way_rng {x : Ldd} (G : LdG x) {i : Nat} (h : i < x.cls.length) : ∀ k ∈ hop x.par (i : Int), ∃ j : Nat, k = (j : Int) ∧ j < x.cls.length :=
  hop_rng (par_rng G) 25 _ (.inr ⟨i, rfl, h⟩)
end Go.Proofs
