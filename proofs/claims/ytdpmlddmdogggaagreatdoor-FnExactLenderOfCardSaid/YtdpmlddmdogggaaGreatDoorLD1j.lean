/-
  What is proved here: places in the walk of a valid configuration, in plain words. Condition: none.
-/
import Derived.Test.YtdpmlddmdogggaaGreatDoorPWs
namespace Go.Proofs
open Go.Abs
set_option linter.unusedSimpArgs false
set_option linter.unnecessarySimpa false
set_option linter.unusedVariables false
set_option maxHeartbeats 8000000
set_option maxRecDepth 20000
def wk (l : List Cls) : List Nat := walk l (topN l)
def pos (l : List Cls) (j : Nat) : Nat := (wk l).idxOf j
theorem walkN_in {l : List Cls} (T : Tree l) : ∀ (n i : Nat), i < l.length → 8 ≤ n + dp l i → ∀ j, j ∈ walkN l n i → ∃ pre post, walkN l n i = pre ++ walk l j ++ post := by
  intro n
  induction n with
  | zero =>
    intro i hi hn j hj
    simp only [walkN, List.mem_singleton] at hj
    subst hj
    exact ⟨[], [], by rw [walkN_enough T 0 8 j hi hn (by omega)]; simp [walk]⟩
  | succ n ih =>
    intro i hi hn j hj
    by_cases e : j = i
    · subst e
      exact ⟨[], [], by rw [walkN_enough T (n + 1) 8 j hi hn (by omega)]; simp [walk]⟩
    · simp only [walkN, List.mem_cons, e, false_or, List.mem_flatMap] at hj
      obtain ⟨k, hk, hj⟩ := hj
      obtain ⟨h1, h2⟩ := mem_kids.1 hk
      have hd := dp_kid T hi h1 h2
      obtain ⟨pre, post, e⟩ := ih k h1 (by omega) j hj
      obtain ⟨a, b, hab⟩ := List.append_of_mem hk
      refine ⟨i :: (a.flatMap (walkN l n) ++ pre), post ++ b.flatMap (walkN l n), ?_⟩
      simp only [walkN, hab, List.flatMap_append, List.flatMap_cons, e, List.append_assoc, List.cons_append]
structure Top (l : List Cls) : Prop where
  T : Tree l
  lt : topN l < l.length
  all : ∀ j, j < l.length → j ∈ wk l
  up : nxt l (topN l : Int) < 0
theorem topOf {c : Cfg} (h : isCfg c = true) : Top c.cls := ⟨tree_of (by rw [← isCfg_eq]; exact h), (top_spec h).1, top_all h, top_nxt h⟩
theorem wk_lt {l : List Cls} (H : Top l) {j : Nat} (h : j ∈ wk l) : j < l.length := walk_lt H.T H.lt h
theorem wk_nodup {l : List Cls} (H : Top l) : (wk l).Nodup := walk_nodup H.T H.lt
theorem wk_len {l : List Cls} (H : Top l) : (wk l).length = l.length := by
  have hp : (wk l).Perm (List.range l.length) := (List.perm_ext_iff_of_nodup (wk_nodup H) List.nodup_range).2 fun j => by
    rw [List.mem_range]
    exact ⟨wk_lt H, H.all j⟩
  have := hp.length_eq
  simpa using this
theorem pos_lt {l : List Cls} (H : Top l) {j : Nat} (h : j < l.length) : pos l j < l.length := by
  rw [← wk_len H]
  exact List.idxOf_lt_length_iff.2 (H.all j h)
theorem wk_pos {l : List Cls} (H : Top l) {j : Nat} (h : j < l.length) (h' : pos l j < (wk l).length) : (wk l)[pos l j] = j := List.getElem_idxOf h'
theorem pos_wk {l : List Cls} (H : Top l) {m : Nat} (h : m < (wk l).length) : pos l (wk l)[m] = m := (wk_nodup H).idxOf_getElem m h
theorem pos_inj {l : List Cls} (H : Top l) {i j : Nat} (hi : i < l.length) (hj : j < l.length) (h : pos l i = pos l j) : i = j := by
  have h1 := wk_pos H hi (by rw [wk_len H]; exact pos_lt H hi)
  have h2 := wk_pos H hj (by rw [wk_len H]; exact pos_lt H hj)
  rw [← h1, ← h2]
  congr 1
theorem pos_pre {l : List Cls} (H : Top l) {pre post : List Nat} {j : Nat} (h : wk l = pre ++ j :: post) : pos l j = pre.length := by
  have hn := wk_nodup H
  rw [h] at hn
  have hj : j ∉ pre := fun hc => (List.nodup_append.1 hn).2.2 j hc j (by simp) rfl
  unfold pos
  rw [h, List.idxOf_append]
  simp [hj]
theorem pos_in {l : List Cls} (H : Top l) {j : Nat} (h : j < l.length) : ∃ pre post, wk l = pre ++ walk l j ++ post ∧ pre.length = pos l j := by
  obtain ⟨pre, post, e⟩ := walkN_in H.T 8 (topN l) H.lt (by omega) j (H.all j h)
  refine ⟨pre, post, e, ?_⟩
  have e' : wk l = pre ++ j :: ((kids l j l.length).flatMap (walk l) ++ post) := by
    show walkN l 8 (topN l) = _
    rw [e, walk_eq H.T h]
    simp
  exact (pos_pre H e').symm
theorem pos_kid {l : List Cls} (H : Top l) {i k : Nat} {a b : List Nat} (hi : i < l.length) (hk : kids l i l.length = a ++ k :: b) : pos l k = pos l i + 1 + (a.flatMap (walk l)).length := by
  obtain ⟨pre, post, e, hp⟩ := pos_in H hi
  have hm : k ∈ kids l i l.length := by rw [hk]; simp
  have hkl := (mem_kids.1 hm).1
  rw [walk_eq H.T hi, hk, List.flatMap_append, List.flatMap_cons, walk_eq H.T hkl] at e
  have := pos_pre H (j := k) (pre := pre ++ i :: a.flatMap (walk l)) (post := (kids l k l.length).flatMap (walk l) ++ b.flatMap (walk l) ++ post) (by rw [e]; simp)
  rw [this]
  simp
  omega
theorem walk_pos1 {l : List Cls} (H : Top l) {i : Nat} (hi : i < l.length) : 1 ≤ (walk l i).length := by
  rw [walk_eq H.T hi]
  simp
def enN (l : List Cls) (i : Nat) : Nat := pos l i + (walk l i).length
theorem en_le {l : List Cls} (H : Top l) {i : Nat} (hi : i < l.length) : enN l i ≤ l.length := by
  obtain ⟨pre, post, e, hp⟩ := pos_in H hi
  have := wk_len H
  rw [e] at this
  simp at this
  unfold enN
  omega
theorem en_last {l : List Cls} (H : Top l) {i k : Nat} {a : List Nat} (hi : i < l.length) (hk : kids l i l.length = a ++ [k]) : enN l i = enN l k := by
  have h := pos_kid H hi (b := []) hk
  unfold enN
  rw [walk_eq H.T hi, hk, h]
  simp
  omega
theorem en_leaf {l : List Cls} (H : Top l) {i : Nat} (hi : i < l.length) (hk : kids l i l.length = []) : enN l i = pos l i + 1 := by
  unfold enN
  rw [walk_eq H.T hi, hk]
  simp
theorem pos_sorted {l : List Cls} (H : Top l) {i : Nat} (hi : i < l.length) : ((kids l i l.length).map (pos l)).Pairwise (· < ·) := by
  rw [List.pairwise_iff_getElem]
  intro m n hm hn hmn
  simp only [List.length_map] at hm hn
  simp only [List.getElem_map]
  have e1 : kids l i l.length = (kids l i l.length).take m ++ (kids l i l.length)[m] :: (kids l i l.length).drop (m + 1) := by
    rw [← List.drop_eq_getElem_cons hm, List.take_append_drop]
  have e2 : kids l i l.length = (kids l i l.length).take n ++ (kids l i l.length)[n] :: (kids l i l.length).drop (n + 1) := by
    rw [← List.drop_eq_getElem_cons hn, List.take_append_drop]
  have h1 := pos_kid H hi e1
  have h2 := pos_kid H hi e2
  have hml : (kids l i l.length)[m] < l.length := (mem_kids.1 (List.getElem_mem hm)).1
  have h3 : ((kids l i l.length).take n).flatMap (walk l) = ((kids l i l.length).take m).flatMap (walk l) ++ (walk l (kids l i l.length)[m] ++ (((kids l i l.length).take n).drop (m + 1)).flatMap (walk l)) := by
    rw [← List.flatMap_cons, ← List.flatMap_append]
    congr 1
    have : (kids l i l.length)[m] = ((kids l i l.length).take n)[m]'(by simp; omega) := by simp
    rw [this, ← List.drop_eq_getElem_cons]
    conv => lhs; rw [← List.take_append_drop m ((kids l i l.length).take n)]
    rw [List.take_take, Nat.min_eq_left (by omega)]
  have h4 := walk_pos1 H hml
  rw [h1, h2, h3]
  simp only [List.length_append]
  omega
theorem pos_low {l : List Cls} (H : Top l) {i k : Nat} (hi : i < l.length) (hk : k ∈ kids l i l.length) : pos l i < pos l k ∧ enN l k ≤ enN l i := by
  obtain ⟨a, b, e⟩ := List.append_of_mem hk
  have h := pos_kid H hi e
  refine ⟨by omega, ?_⟩
  unfold enN
  rw [walk_eq H.T hi, e, h]
  simp
  omega
def headI : List Nat → Int
  | [] => -1
  | k :: _ => (k : Int)
def lastI (l : List Nat) : Int := match l.getLast? with | some k => (k : Int) | none => -1
theorem headI_app (a b : List Nat) : headI (a ++ b) = if a = [] then headI b else headI a := by
  cases a <;> simp [headI]
theorem lastI_neg (a : List Nat) : lastI a < 0 ↔ a = [] := by
  unfold lastI
  cases h : a.getLast? with
  | none => simp at h; simp [h]
  | some k =>
    have : a ≠ [] := fun e => by rw [e] at h; simp at h
    simp [this]
theorem lastI_app (a : List Nat) (k : Nat) : lastI (a ++ [k]) = (k : Int) := by simp [lastI]
def ppI (l : List Cls) (i : Nat) : Int := if nxt l (i : Int) < 0 then -1 else (pos l (nxt l (i : Int)).toNat : Int)
def fsI (l : List Cls) (i : Nat) : Int := headI ((kids l i l.length).map (pos l))
def sibs (l : List Cls) (i : Nat) : List Nat := if nxt l (i : Int) < 0 then [] else kids l (nxt l (i : Int)).toNat l.length
def nxI (l : List Cls) (i : Nat) : Int := headI (((sibs l i).map (pos l)).filter fun m => decide (pos l i < m))
def tgI (l : List Cls) (id : Int) : Int := (pos l (fidx l id).toNat : Int)
structure Ldd where
  name : ByteArray
  cls : List Cls
  par : List Int
  fst : List Int
  nx : List Int
  en : List Int
  fil : List Fil
  tgt : List Int
  dflt : Int
def loadOf (c : Cfg) : Ldd := ⟨c.name, (wk c.cls).map (atC c.cls), (wk c.cls).map (ppI c.cls), (wk c.cls).map (fsI c.cls), (wk c.cls).map (nxI c.cls), (wk c.cls).map fun i => (enN c.cls i : Int), c.fil, c.fil.map fun x => tgI c.cls x.target, if c.dflt = 0 then -1 else tgI c.cls c.dflt⟩
def pw (l : List Cls) (m : Nat) : Int := ppI l ((wk l).getD m 0)
def gk (l : List Cls) (i q : Nat) : List Nat := (List.range i).filter fun m => decide (pw l m = (q : Int))
def sk (l : List Cls) (i m : Nat) : List Nat := (List.range i).filter fun k => decide (m < k ∧ pw l k = pw l m ∧ 0 ≤ pw l k)
def pK (l : List Cls) (i : Nat) : List Int := (List.range l.length).map fun m => if m < i then pw l m else 0
def lK (l : List Cls) (i : Nat) : List Int := (List.range l.length).map fun q => lastI (gk l i q)
def fK (l : List Cls) (i : Nat) : List Int := (List.range l.length).map fun q => headI (gk l i q)
def nK (l : List Cls) (i : Nat) : List Int := (List.range l.length).map fun m => headI (sk l i m)
theorem set_range (n : Nat) (f g : Nat → Int) (p : Nat) (v : Int) (h1 : ∀ q, q < n → q ≠ p → g q = f q) (h2 : p < n → g p = v) : ((List.range n).map f).set p v = (List.range n).map g := by
  refine List.ext_getElem (by simp) fun q q1 q2 => ?_
  simp only [List.length_map, List.length_range] at q2
  simp only [List.getElem_set, List.getElem_map, List.getElem_range]
  by_cases e : p = q
  · rw [if_pos e]; subst e; exact (h2 q2).symm
  · rw [if_neg e]; exact (h1 q q2 (Ne.symm e)).symm
theorem same_range (n : Nat) (f g : Nat → Int) (h1 : ∀ q, q < n → g q = f q) : (List.range n).map f = (List.range n).map g := List.map_congr_left fun q hq => (h1 q (List.mem_range.1 hq)).symm
theorem gk_succ (l : List Cls) (i q : Nat) : gk l (i + 1) q = gk l i q ++ (if pw l i = (q : Int) then [i] else []) := by
  unfold gk
  rw [List.range_succ, List.filter_append]
  congr 1
  by_cases h : pw l i = (q : Int) <;> simp [h]
theorem sk_succ (l : List Cls) (i m : Nat) : sk l (i + 1) m = sk l i m ++ (if m < i ∧ pw l i = pw l m ∧ 0 ≤ pw l i then [i] else []) := by
  unfold sk
  rw [List.range_succ, List.filter_append]
  congr 1
  by_cases h : m < i ∧ pw l i = pw l m ∧ 0 ≤ pw l i
  · rw [if_pos h, List.filter_cons, if_pos (by simpa using h)]; rfl
  · rw [if_neg h, List.filter_cons, if_neg (by simpa using h)]; rfl
theorem pK_neg {l : List Cls} {i : Nat} (hi : i < l.length) (h : pw l i < 0) : (pK l i).set i (-1) = pK l (i + 1) := by
  refine set_range _ _ _ _ _ (fun q hq hne => ?_) fun _ => ?_
  · by_cases e : q < i
    · rw [if_pos e, if_pos (by omega)]
    · rw [if_neg e, if_neg (by omega)]
  · rw [if_pos (by omega)]
    unfold pw ppI at h ⊢
    split
    · rfl
    · rename_i h1; rw [if_neg h1] at h; omega
theorem pK_pos {l : List Cls} {i p : Nat} (h : pw l i = (p : Int)) : (pK l i).set i p = pK l (i + 1) := by
  refine set_range _ _ _ _ _ (fun q hq hne => ?_) fun _ => ?_
  · by_cases e : q < i
    · rw [if_pos e, if_pos (by omega)]
    · rw [if_neg e, if_neg (by omega)]
  · rw [if_pos (by omega), h]
theorem K_neg {l : List Cls} {i : Nat} (h : pw l i < 0) : lK l i = lK l (i + 1) ∧ fK l i = fK l (i + 1) ∧ nK l i = nK l (i + 1) := by
  refine ⟨same_range _ _ _ fun q _ => ?_, same_range _ _ _ fun q _ => ?_, same_range _ _ _ fun q _ => ?_⟩
  · rw [gk_succ, if_neg (by omega), List.append_nil]
  · rw [gk_succ, if_neg (by omega), List.append_nil]
  · rw [sk_succ, if_neg (by omega), List.append_nil]
theorem lK_pos {l : List Cls} {i p : Nat} (h : pw l i = (p : Int)) : (lK l i).set p i = lK l (i + 1) := by
  refine set_range _ _ _ _ _ (fun q hq hne => ?_) fun _ => ?_
  · rw [gk_succ, if_neg (by omega), List.append_nil]
  · rw [gk_succ, if_pos h, lastI_app]
theorem lK_get {l : List Cls} {i p : Nat} (hp : p < l.length) : (lK l i)[p]? = some (lastI (gk l i p)) := by simp [lK, hp]
theorem gk_last {l : List Cls} {i p k : Nat} (h : lastI (gk l i p) = (k : Int)) : k < i ∧ pw l k = (p : Int) ∧ ∀ m, m < i → pw l m = (p : Int) → m ≤ k := by
  unfold lastI at h
  cases hg : (gk l i p).getLast? with
  | none => rw [hg] at h; simp at h
  | some j =>
    rw [hg] at h
    have e : j = k := by simp only at h; omega
    subst e
    have hm : j ∈ gk l i p := List.mem_of_getLast? hg
    simp only [gk, List.mem_filter, List.mem_range, decide_eq_true_eq] at hm
    refine ⟨hm.1, hm.2, fun m h1 h2 => ?_⟩
    have hmm : m ∈ gk l i p := by simp only [gk, List.mem_filter, List.mem_range, decide_eq_true_eq]; exact ⟨h1, h2⟩
    obtain ⟨pre, e⟩ := List.getLast?_eq_some_iff.1 hg
    have hs : (gk l i p).Pairwise (· < ·) := List.Pairwise.filter _ List.pairwise_lt_range
    rw [e] at hs hmm
    rcases List.mem_append.1 hmm with h3 | h3
    · have := (List.pairwise_append.1 hs).2.2 m h3 j (by simp)
      omega
    · simp at h3; omega
theorem FN_first {l : List Cls} {i p : Nat} (hi : i < l.length) (h : pw l i = (p : Int)) (hl : lastI (gk l i p) < 0) : (fK l i).set p i = fK l (i + 1) ∧ nK l i = nK l (i + 1) := by
  have hg := (lastI_neg _).1 hl
  refine ⟨set_range _ _ _ _ _ (fun q hq hne => ?_) fun _ => ?_, same_range _ _ _ fun m _ => ?_⟩
  · rw [gk_succ, if_neg (by omega), List.append_nil]
  · rw [gk_succ, if_pos h, hg]; rfl
  · rw [sk_succ, if_neg, List.append_nil]
    rintro ⟨h1, h2, _⟩
    have : m ∈ gk l i p := by simp only [gk, List.mem_filter, List.mem_range, decide_eq_true_eq]; exact ⟨h1, by omega⟩
    rw [hg] at this
    simp at this
theorem FN_more {l : List Cls} {i p k : Nat} (hi : i < l.length) (h : pw l i = (p : Int)) (hl : lastI (gk l i p) = (k : Int)) : fK l i = fK l (i + 1) ∧ (nK l i).set k i = nK l (i + 1) := by
  obtain ⟨k1, k2, k3⟩ := gk_last hl
  have hne : gk l i p ≠ [] := fun e => by rw [e] at hl; simp [lastI] at hl
  refine ⟨same_range _ _ _ fun q _ => ?_, set_range _ _ _ _ _ (fun m hq hm => ?_) fun _ => ?_⟩
  · rw [gk_succ]
    split
    · rename_i e
      have : q = p := by omega
      subst this
      rw [headI_app, if_neg hne]
    · rw [List.append_nil]
  · rw [sk_succ]
    split
    · rename_i e
      rw [headI_app, if_neg]
      intro hc
      have hmk := k3 m e.1 (by omega)
      have : k ∈ sk l i m := by
        simp only [sk, List.mem_filter, List.mem_range, decide_eq_true_eq]
        exact ⟨k1, by omega, by omega, by omega⟩
      rw [hc] at this
      simp at this
    · rw [List.append_nil]
  · rw [sk_succ, if_pos ⟨k1, by omega, by omega⟩, headI_app, if_pos]
    · rfl
    · rw [List.eq_nil_iff_forall_not_mem]
      intro m hm
      simp only [sk, List.mem_filter, List.mem_range, decide_eq_true_eq] at hm
      have := k3 m hm.1 (by omega)
      omega
theorem sorted_eq {a b : List Nat} (ha : a.Pairwise (· < ·)) (hb : b.Pairwise (· < ·)) (h : ∀ m, m ∈ a ↔ m ∈ b) : a = b := by
  refine List.Perm.eq_of_pairwise (le := fun a b : Nat => a < b) (fun x y _ _ h1 h2 => by omega) ha hb ?_
  exact (List.perm_ext_iff_of_nodup (ha.imp fun h => by omega) (hb.imp fun h => by omega)).2 h
theorem pw_wk {l : List Cls} {m : Nat} (h : m < (wk l).length) : pw l m = ppI l (wk l)[m] := by simp [pw, h]
theorem pw_kid {l : List Cls} (H : Top l) {m q : Nat} (hm : m < l.length) (hq : q < l.length) : pw l m = (q : Int) ↔ (wk l)[m]'(by rw [wk_len H]; exact hm) ∈ kids l ((wk l)[q]'(by rw [wk_len H]; exact hq)) l.length := by
  have hm' : m < (wk l).length := by rw [wk_len H]; exact hm
  have hq' : q < (wk l).length := by rw [wk_len H]; exact hq
  have a1 := wk_lt H (List.getElem_mem hm')
  have a2 := wk_lt H (List.getElem_mem hq')
  rw [pw_wk hm', mem_kids, ← nxt_kid H.T a2]
  unfold ppI
  constructor
  · intro h
    refine ⟨a1, ?_⟩
    split at h
    · omega
    · rename_i hn
      have hlt := nxt_lt hn
      have : pos l (nxt l ((wk l)[m] : Nat)).toNat = pos l (wk l)[q] := by rw [pos_wk H hq']; omega
      have := pos_inj H hlt a2 this
      omega
  · rintro ⟨_, h⟩
    rw [if_neg (by omega), h, Int.toNat_natCast, pos_wk H hq']
theorem gk_kids {l : List Cls} (H : Top l) {q : Nat} (hq : q < l.length) : gk l l.length q = (kids l ((wk l)[q]'(by rw [wk_len H]; exact hq)) l.length).map (pos l) := by
  have hq' : q < (wk l).length := by rw [wk_len H]; exact hq
  refine sorted_eq (List.Pairwise.filter _ List.pairwise_lt_range) (pos_sorted H (wk_lt H (List.getElem_mem hq'))) fun m => ?_
  simp only [gk, List.mem_filter, List.mem_range, decide_eq_true_eq, List.mem_map]
  constructor
  · rintro ⟨h1, h2⟩
    exact ⟨_, (pw_kid H h1 hq).1 h2, pos_wk H (by rw [wk_len H]; exact h1)⟩
  · rintro ⟨k, hk, rfl⟩
    have hkl := (mem_kids.1 hk).1
    have hp := pos_lt H hkl
    refine ⟨hp, (pw_kid H hp hq).2 ?_⟩
    rw [wk_pos H hkl]
    exact hk
theorem map_wk {l : List Cls} (H : Top l) (f g : Nat → Int) (h : ∀ m (hm : m < (wk l).length), f m = g (wk l)[m]) : (List.range l.length).map f = (wk l).map g := by
  refine List.ext_getElem (by simp [wk_len H]) fun m h1 h2 => ?_
  simp only [List.getElem_map, List.getElem_range]
  exact h m (by simpa using h2)
theorem pK_end {l : List Cls} (H : Top l) : pK l l.length = (wk l).map (ppI l) := map_wk H _ _ fun m hm => by
  rw [if_pos (by rw [← wk_len H]; exact hm), pw_wk hm]
theorem fK_end {l : List Cls} (H : Top l) : fK l l.length = (wk l).map (fsI l) := map_wk H _ _ fun m hm => by
  rw [gk_kids H (by rw [← wk_len H]; exact hm)]
  rfl
theorem nK_end {l : List Cls} (H : Top l) : nK l l.length = (wk l).map (nxI l) := map_wk H _ _ fun m hm => by
  have hml : m < l.length := by rw [← wk_len H]; exact hm
  have a1 := wk_lt H (List.getElem_mem hm)
  unfold nxI sibs
  by_cases hn : nxt l ((wk l)[m] : Nat) < 0
  · rw [if_pos hn]
    have e : pw l m = -1 := by rw [pw_wk hm]; unfold ppI; rw [if_pos hn]
    have : sk l l.length m = [] := by
      rw [List.eq_nil_iff_forall_not_mem]
      intro k hk
      simp only [sk, List.mem_filter, List.mem_range, decide_eq_true_eq] at hk
      omega
    rw [this]
    rfl
  · rw [if_neg hn]
    have hlt := nxt_lt hn
    have hp := pos_lt H hlt
    have e : pw l m = (pos l (nxt l ((wk l)[m] : Nat)).toNat : Int) := by rw [pw_wk hm]; unfold ppI; rw [if_neg hn]
    have h1 := gk_kids H hp
    rw [wk_pos H hlt] at h1
    rw [← h1, pos_wk H hm]
    congr 1
    unfold sk gk
    rw [List.filter_filter]
    refine List.filter_congr fun k hk => ?_
    rw [e, ← Bool.decide_and, decide_eq_decide]
    omega
theorem lK_end {l : List Cls} (H : Top l) {q : Nat} (hq : q < l.length) : lastI (gk l l.length q) = lastI ((kids l ((wk l)[q]'(by rw [wk_len H]; exact hq)) l.length).map (pos l)) := by rw [gk_kids H hq]
def eK (l : List Cls) (i : Nat) : List Int := (List.range l.length).map fun m => if i ≤ m then (enN l ((wk l).getD m 0) : Int) else 0
theorem eK_end {l : List Cls} (H : Top l) : eK l 0 = (wk l).map fun i => (enN l i : Int) := map_wk H _ _ fun m hm => by simp [hm]
theorem eK_leaf {l : List Cls} (H : Top l) {i : Nat} (hi : i < l.length) (h : lastI (gk l l.length i) < 0) : (eK l (i + 1)).set i ((i : Int) + 1) = eK l i := by
  have hi' : i < (wk l).length := by rw [wk_len H]; exact hi
  rw [lK_end H hi, lastI_neg, List.map_eq_nil_iff] at h
  have a1 := wk_lt H (List.getElem_mem hi')
  have := en_leaf H a1 h
  rw [pos_wk H hi'] at this
  refine set_range _ _ _ _ _ (fun q hq hne => ?_) fun _ => ?_
  · by_cases e : i ≤ q
    · rw [if_pos e, if_pos (by omega)]
    · rw [if_neg e, if_neg (by omega)]
  · rw [if_pos (by omega)]
    simp only [List.getD_eq_getElem?_getD, List.getElem?_eq_getElem hi', Option.getD_some, this]
    omega
theorem eK_last {l : List Cls} (H : Top l) {i k : Nat} (hi : i < l.length) (h : lastI (gk l l.length i) = (k : Int)) : i < k ∧ k < l.length ∧ (eK l (i + 1))[k]? = some ((enN l ((wk l).getD k 0) : Nat) : Int) ∧ ((eK l (i + 1)).set i ((i : Int) + 1)).set i ((enN l ((wk l).getD k 0) : Nat) : Int) = eK l i := by
  have hi' : i < (wk l).length := by rw [wk_len H]; exact hi
  have a1 := wk_lt H (List.getElem_mem hi')
  rw [lK_end H hi] at h
  unfold lastI at h
  rw [List.getLast?_map] at h
  cases hg : (kids l (wk l)[i] l.length).getLast? with
  | none => rw [hg] at h; simp at h
  | some j =>
    rw [hg] at h
    have e : pos l j = k := by simp only [Option.map_some] at h; omega
    obtain ⟨a, ea⟩ := List.getLast?_eq_some_iff.1 hg
    have hj : j ∈ kids l (wk l)[i] l.length := by rw [ea]; simp
    have hjl := (mem_kids.1 hj).1
    have h1 := (pos_low H a1 hj).1
    rw [pos_wk H hi', e] at h1
    have hkl : k < l.length := by rw [← e]; exact pos_lt H hjl
    have hw : (wk l).getD k 0 = j := by
      subst e
      have := wk_pos H hjl (by rw [wk_len H]; exact hkl)
      simp only [List.getD_eq_getElem?_getD, List.getElem?_eq_getElem (show pos l j < (wk l).length by rw [wk_len H]; exact hkl), Option.getD_some, this]
    have he := en_last H a1 ea
    refine ⟨h1, hkl, ?_, ?_⟩
    · rw [hw]
      simp only [eK, List.getElem?_map, List.getElem?_range hkl, Option.map_some]
      rw [if_pos (by omega), hw]
    · rw [List.set_set, hw]
      refine set_range _ _ _ _ _ (fun q hq hne => ?_) fun _ => ?_
      · by_cases e : i ≤ q
        · rw [if_pos e, if_pos (by omega)]
        · rw [if_neg e, if_neg (by omega)]
      · rw [if_pos (by omega)]
        simp only [List.getD_eq_getElem?_getD, List.getElem?_eq_getElem hi', Option.getD_some, he]
end Go.Proofs
