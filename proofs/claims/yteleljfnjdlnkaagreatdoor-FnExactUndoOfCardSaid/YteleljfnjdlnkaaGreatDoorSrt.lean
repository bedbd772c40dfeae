/-
  What is proved here: the library's stable sort in plain Lean: insertion (sink, insS), rotation (rot), and one step of the merge in place (half). Condition: none.
  What is proved here: the library's merge in place and its stable sort in plain Lean. Condition: none.
  What is proved here: lists in the order of a key: one is put in, one is taken out; the stable sort finds the same list. Condition: none.
-/
set_option linter.unusedVariables false
set_option linter.unusedSimpArgs false
set_option linter.unnecessarySimpa false
namespace Go.Srt
variable {α : Type}

def swp (d : α) (l : List α) (i j : Nat) : List α := (l.set i (l.getD j d)).set j (l.getD i d)
theorem swp_len (d : α) (l : List α) (i j : Nat) : (swp d l i j).length = l.length := by simp [swp]
theorem swp_get (d : α) (l : List α) (i j k : Nat) (hi : i < l.length) (hj : j < l.length) : (swp d l i j).getD k d = if k = j then l.getD i d else if k = i then l.getD j d else l.getD k d := by
  unfold swp
  simp only [List.getD_eq_getElem?_getD, List.getElem?_set]
  by_cases h1 : k = j
  · subst h1
    simp [hj]
  · have h1' : ¬ j = k := fun e => h1 e.symm
    by_cases h2 : k = i
    · subst h2
      simp [h1, h1', hi]
    · have h2' : ¬ i = k := fun e => h2 e.symm
      simp [h1, h1', h2, h2']
/-- a[j] goes down as long as it is less than the one below, not below a -/
def sink (d : α) (lt : α → α → Bool) (a : Nat) : Nat → List α → List α
  | 0, l => l
  | j + 1, l => if a < j + 1 ∧ lt (l.getD (j + 1) d) (l.getD j d) = true then sink d lt a j (swp d l (j + 1) j) else l
/-- the insertion sort of [a, i) -/
def insS (d : α) (lt : α → α → Bool) (a : Nat) : Nat → List α → List α
  | 0, l => l
  | i + 1, l => if a < i then sink d lt a i (insS d lt a i l) else l
theorem sink_len (d : α) (lt : α → α → Bool) (a : Nat) : ∀ (j : Nat) (l : List α), (sink d lt a j l).length = l.length
  | 0, l => rfl
  | j + 1, l => by
    unfold sink
    split
    · rw [sink_len d lt a j, swp_len]
    · rfl
theorem insS_len (d : α) (lt : α → α → Bool) (a : Nat) : ∀ (i : Nat) (l : List α), (insS d lt a i l).length = l.length
  | 0, l => rfl
  | i + 1, l => by
    unfold insS
    split
    · rw [sink_len, insS_len d lt a i]
    · rfl
/-- places outside stay -/
theorem sink_out (d : α) (lt : α → α → Bool) (a : Nat) : ∀ (j : Nat) (l : List α) (k : Nat), j < l.length → (k < a ∨ j < k) → (sink d lt a j l).getD k d = l.getD k d
  | 0, l, k, _, _ => rfl
  | j + 1, l, k, hj, hk => by
    unfold sink
    split
    · rename_i h
      rw [sink_out d lt a j _ k (by rw [swp_len]; omega) (by omega), swp_get d l (j + 1) j k hj (by omega)]
      rw [if_neg (by omega), if_neg (by omega)]
    · rfl
/-- sorted on [a, b) by a key -/
def srt (d : α) (key : α → Int) (l : List α) (a b : Nat) : Prop := ∀ i k, a ≤ i → i ≤ k → k < b → key (l.getD i d) ≤ key (l.getD k d)
theorem sink_srt (d : α) (key : α → Int) (a N : Nat) : ∀ (j : Nat) (l : List α), N ≤ l.length → j < N → a ≤ j →
    (∀ i k, a ≤ i → i ≤ k → k < N → i ≠ j → k ≠ j → key (l.getD i d) ≤ key (l.getD k d)) → (∀ k, j < k → k < N → key (l.getD j d) ≤ key (l.getD k d)) →
    srt d key (sink d (fun x y => decide (key x < key y)) a j l) a N
  | 0, l, hN, hj, ha, h1, h2 => by
    intro i k hi hik hk
    show key (l.getD i d) ≤ key (l.getD k d)
    by_cases e1 : i = 0
    · by_cases e2 : k = 0
      · rw [e1, e2]; exact Int.le_refl _
      · rw [e1]; exact h2 k (by omega) hk
    · exact h1 i k hi hik hk e1 (by omega)
  | j + 1, l, hN, hj, ha, h1, h2 => by
    unfold sink
    split
    · rename_i hc
      obtain ⟨hc1, hc2⟩ := hc
      simp only [decide_eq_true_eq] at hc2
      have hg : ∀ k, (swp d l (j + 1) j).getD k d = if k = j then l.getD (j + 1) d else if k = j + 1 then l.getD j d else l.getD k d := fun k => swp_get d l (j + 1) j k (by omega) (by omega)
      refine sink_srt d key a N j _ (by rw [swp_len]; exact hN) (by omega) (by omega) ?_ ?_
      · intro i k hi hik hk hij hkj
        rw [hg i, hg k, if_neg hij, if_neg hkj]
        by_cases e1 : i = j + 1
        · rw [if_pos e1]
          by_cases e2 : k = j + 1
          · rw [if_pos e2]; exact Int.le_refl _
          · rw [if_neg e2]; exact h1 j k (by omega) (by omega) hk (by omega) e2
        · rw [if_neg e1]
          by_cases e2 : k = j + 1
          · rw [if_pos e2]; exact h1 i j hi (by omega) (by omega) e1 (by omega)
          · rw [if_neg e2]; exact h1 i k hi hik hk e1 e2
      · intro k hk1 hk2
        rw [hg j, hg k, if_pos rfl, if_neg (by omega)]
        by_cases e2 : k = j + 1
        · rw [if_pos e2]; omega
        · rw [if_neg e2]; exact h2 k (by omega) hk2
    · rename_i hc
      intro i k hi hik hk
      by_cases e1 : i = j + 1
      · by_cases e2 : k = j + 1
        · rw [e1, e2]; exact Int.le_refl _
        · rw [e1]; exact h2 k (by omega) hk
      · by_cases e2 : k = j + 1
        · have h3 : key (l.getD j d) ≤ key (l.getD (j + 1) d) := by
            simp only [decide_eq_true_eq] at hc
            have : a < j + 1 := by omega
            have : ¬ key (l.getD (j + 1) d) < key (l.getD j d) := fun e => hc ⟨this, e⟩
            omega
          have h4 : key (l.getD i d) ≤ key (l.getD j d) := by
            by_cases e3 : i = j
            · rw [e3]; exact Int.le_refl _
            · exact h1 i j hi (by omega) (by omega) e1 (by omega)
          rw [e2]; omega
        · exact h1 i k hi hik hk e1 e2
theorem insS_srt (d : α) (key : α → Int) (a : Nat) : ∀ (i : Nat) (l : List α), i ≤ l.length → srt d key (insS d (fun x y => decide (key x < key y)) a i l) a i
  | 0, l, _ => by intro i k _ _ h; omega
  | i + 1, l, hi => by
    unfold insS
    split
    · rename_i ha
      have ih := insS_srt d key a i l (by omega)
      refine sink_srt d key a (i + 1) i _ (by rw [insS_len]; exact hi) (by omega) (by omega) (fun x y h1 h2 h3 h4 h5 => ih x y h1 h2 (by omega)) (fun k h1 h2 => by omega)
    · intro x y h1 h2 h3
      have : x = y := by omega
      rw [this]; exact Int.le_refl _
/-- the same elements -/
theorem swp_perm (d : α) (l : List α) (i j : Nat) (hi : i < l.length) (hj : j < l.length) : (swp d l i j).Perm l := by
  have h := Array.swap_perm (xs := l.toArray) (i := i) (j := j) (by simpa using hi) (by simpa using hj)
  have e : (l.toArray.swap i j (by simpa using hi) (by simpa using hj)).toList = swp d l i j := by
    simp [Array.swap, swp, hi, hj]
  rw [Array.perm_iff_toList_perm, e] at h
  exact h
theorem sink_perm (d : α) (lt : α → α → Bool) (a : Nat) : ∀ (j : Nat) (l : List α), j < l.length → (sink d lt a j l).Perm l
  | 0, l, _ => List.Perm.refl _
  | j + 1, l, hj => by
    unfold sink
    split
    · exact (sink_perm d lt a j _ (by rw [swp_len]; omega)).trans (swp_perm d l (j + 1) j hj (by omega))
    · exact List.Perm.refl _
theorem insS_perm (d : α) (lt : α → α → Bool) (a : Nat) : ∀ (i : Nat) (l : List α), i ≤ l.length → (insS d lt a i l).Perm l
  | 0, l, _ => List.Perm.refl _
  | i + 1, l, hi => by
    unfold insS
    split
    · exact (sink_perm d lt a i _ (by rw [insS_len]; omega)).trans (insS_perm d lt a i l (by omega))
    · exact List.Perm.refl _

/-- [s, m) and [m, e) change places -/
def rot (l : List α) (s m e : Nat) : List α := l.take s ++ ((l.drop m).take (e - m) ++ ((l.drop s).take (m - s) ++ l.drop e))
theorem rot_len (l : List α) (s m e : Nat) (h1 : s ≤ m) (h2 : m ≤ e) (h3 : e ≤ l.length) : (rot l s m e).length = l.length := by
  unfold rot
  simp only [List.length_append, List.length_take, List.length_drop]
  omega
theorem rot_get (d : α) (l : List α) (s m e k : Nat) (h1 : s ≤ m) (h2 : m ≤ e) (h3 : e ≤ l.length) : (rot l s m e).getD k d = if k < s then l.getD k d else if k < s + (e - m) then l.getD (k - s + m) d else if k < e then l.getD (k - (e - m)) d else l.getD k d := by
  unfold rot
  simp only [List.getD_eq_getElem?_getD]
  have l1 : (l.take s).length = s := by simp; omega
  have l2 : ((l.drop m).take (e - m)).length = e - m := by simp; omega
  have l3 : ((l.drop s).take (m - s)).length = m - s := by simp; omega
  by_cases c1 : k < s
  · rw [if_pos c1, List.getElem?_append_left (by omega), List.getElem?_take_of_lt c1]
  · rw [if_neg c1, List.getElem?_append_right (by omega), l1]
    by_cases c2 : k < s + (e - m)
    · rw [if_pos c2, List.getElem?_append_left (by omega), List.getElem?_take_of_lt (by omega), List.getElem?_drop]
      congr 2
      omega
    · rw [if_neg c2, List.getElem?_append_right (by omega), l2]
      by_cases c3 : k < e
      · rw [if_pos c3, List.getElem?_append_left (by omega), List.getElem?_take_of_lt (by omega), List.getElem?_drop]
        congr 2
        omega
      · rw [if_neg c3, List.getElem?_append_right (by omega), l3, List.getElem?_drop]
        congr 2
        omega
theorem rot_perm (l : List α) (s m e : Nat) (h1 : s ≤ m) (h2 : m ≤ e) : (rot l s m e).Perm l := by
  have e1 : l = l.take s ++ ((l.drop s).take (m - s) ++ ((l.drop m).take (e - m) ++ l.drop e)) := by
    have a1 : l.drop s = (l.drop s).take (m - s) ++ l.drop m := by
      conv => lhs; rw [← List.take_append_drop (m - s) (l.drop s)]
      rw [List.drop_drop, show s + (m - s) = m by omega]
    have a2 : l.drop m = (l.drop m).take (e - m) ++ l.drop e := by
      conv => lhs; rw [← List.take_append_drop (e - m) (l.drop m)]
      rw [List.drop_drop, show m + (e - m) = e by omega]
    rw [← a2, ← a1, List.take_append_drop]
  conv => rhs; rw [e1]
  unfold rot
  refine List.Perm.append_left _ ?_
  rw [← List.append_assoc, ← List.append_assoc]
  exact List.Perm.append_right _ List.perm_append_comm
/-- what holds behind the turn at (s, m, e), where mid = s + (e - m) -/
theorem half (d : α) (key : α → Int) (l : List α) (a m b s e : Nat) (ha : a ≤ s) (h1 : s ≤ m) (h2 : m ≤ e) (h3 : e ≤ b) (hb : b ≤ l.length) (sl : srt d key l a m) (sr : srt d key l m b)
    (c1 : a < s → e < b → key (l.getD (s - 1) d) ≤ key (l.getD e d)) (c2 : m < e → s < m → key (l.getD (e - 1) d) ≤ key (l.getD s d)) :
    srt d key (rot l s m e) a s ∧ srt d key (rot l s m e) s (s + (e - m)) ∧ srt d key (rot l s m e) (s + (e - m)) e ∧ srt d key (rot l s m e) e b ∧ ∀ i k, a ≤ i → i < s + (e - m) → s + (e - m) ≤ k → k < b → key ((rot l s m e).getD i d) ≤ key ((rot l s m e).getD k d) := by
  have g := fun k => rot_get d l s m e k h1 h2 (by omega)
  refine ⟨?_, ?_, ?_, ?_, ?_⟩
  · intro i k hi hik hk
    rw [g i, g k, if_pos (by omega), if_pos hk]
    exact sl i k hi hik (by omega)
  · intro i k hi hik hk
    rw [g i, g k, if_neg (by omega), if_pos (by omega), if_neg (by omega), if_pos hk]
    exact sr _ _ (by omega) (by omega) (by omega)
  · intro i k hi hik hk
    rw [g i, g k, if_neg (by omega), if_neg (by omega), if_pos (by omega), if_neg (by omega), if_neg (by omega), if_pos hk]
    exact sl _ _ (by omega) (by omega) (by omega)
  · intro i k hi hik hk
    rw [g i, g k, if_neg (by omega), if_neg (by omega), if_neg (by omega), if_neg (by omega), if_neg (by omega), if_neg (by omega)]
    exact sr _ _ (by omega) (by omega) (by omega)
  · intro i k hi hi2 hk hk2
    rw [g i, g k]
    rw [if_neg (show ¬ k < s by omega), if_neg (show ¬ k < s + (e - m) by omega)]
    by_cases p1 : i < s
    · rw [if_pos p1]
      by_cases p2 : k < e
      · rw [if_pos p2]
        exact sl _ _ hi (by omega) (by omega)
      · rw [if_neg p2]
        have q1 := sl i (s - 1) hi (by omega) (by omega)
        have q2 := c1 (by omega) (by omega)
        have q3 := sr e k (by omega) (by omega) hk2
        omega
    · rw [if_neg p1, if_pos hi2]
      by_cases p2 : k < e
      · rw [if_pos p2]
        have q1 := sr (i - s + m) (e - 1) (by omega) (by omega) (by omega)
        have q2 := c2 (by omega) (by omega)
        have q3 := sl s (k - (e - m)) ha (by omega) (by omega)
        omega
      · rw [if_neg p2]
        exact sr _ _ (by omega) (by omega) hk2
end Go.Srt

namespace Go.Srt
variable {α : Type}

theorem ext_getD (d : α) {l m : List α} (hl : l.length = m.length) (h : ∀ k, k < l.length → l.getD k d = m.getD k d) : l = m := by
  refine List.ext_getElem hl fun k h1 h2 => ?_
  have := h k h1
  simpa [List.getD_eq_getElem?_getD, h1, h2] using this
/-- the places [a, a + n) and [b, b + n) are swapped -/
def swr (d : α) (l : List α) (a b : Nat) : Nat → List α
  | 0 => l
  | n + 1 => swp d (swr d l a b n) (a + n) (b + n)
theorem swr_len (d : α) (l : List α) (a b : Nat) : ∀ n, (swr d l a b n).length = l.length
  | 0 => rfl
  | n + 1 => by rw [swr, swp_len, swr_len d l a b n]
theorem swr_get (d : α) (l : List α) (a b : Nat) : ∀ n k, a + n ≤ b → b + n ≤ l.length → (swr d l a b n).getD k d = if a ≤ k ∧ k < a + n then l.getD (k - a + b) d else if b ≤ k ∧ k < b + n then l.getD (k - b + a) d else l.getD k d
  | 0, k, _, _ => by
    rw [if_neg (by omega), if_neg (by omega)]; rfl
  | n + 1, k, h1, h2 => by
    have ih := fun k => swr_get d l a b n k (by omega) (by omega)
    rw [swr, swp_get d _ _ _ _ (by rw [swr_len]; omega) (by rw [swr_len]; omega), ih, ih, ih]
    by_cases e1 : k = b + n
    · subst e1
      rw [if_pos rfl, if_neg (by omega), if_neg (by omega), if_neg (by omega), if_pos (by omega)]
      congr 1; omega
    · rw [if_neg e1]
      by_cases e2 : k = a + n
      · subst e2
        rw [if_pos rfl, if_neg (by omega), if_neg (by omega), if_pos (by omega)]
        congr 1; omega
      · rw [if_neg e2]
        by_cases c1 : a ≤ k ∧ k < a + n
        · rw [if_pos c1, if_pos (by omega)]
        · rw [if_neg c1, if_neg (show ¬ (a ≤ k ∧ k < a + (n + 1)) by omega)]
          by_cases c2 : b ≤ k ∧ k < b + n
          · rw [if_pos c2, if_pos (by omega)]
          · rw [if_neg c2, if_neg (by omega)]
theorem rot_same (d : α) (l : List α) (m i : Nat) (h1 : i ≤ m) (h2 : m + i ≤ l.length) : swr d l (m - i) m i = rot l (m - i) m (m + i) := by
  refine ext_getD d (by rw [swr_len, rot_len _ _ _ _ (by omega) (by omega) h2]) fun k hk => ?_
  rw [swr_get d l _ _ _ _ (by omega) (by omega), rot_get d l _ _ _ _ (by omega) (by omega) h2]
  by_cases c1 : k < m - i
  · rw [if_neg (by omega), if_neg (by omega), if_pos c1]
  · rw [if_neg c1]
    by_cases c2 : k < m
    · rw [if_pos (by omega), if_pos (by omega)]
    · rw [if_neg (by omega), if_neg (show ¬ k < m - i + (m + i - m) by omega)]
      by_cases c3 : k < m + i
      · rw [if_pos (by omega), if_pos c3]
        congr 1; omega
      · rw [if_neg (by omega), if_neg c3]
theorem rot_lo (d : α) (l : List α) (m i j : Nat) (hi : i ≤ m) (hj : m + j ≤ l.length) (h : j < i) : rot (swr d l (m - i) m j) (m - (i - j)) m (m + j) = rot l (m - i) m (m + j) := by
  have hl : (rot (swr d l (m - i) m j) (m - (i - j)) m (m + j)).length = l.length := by rw [rot_len _ _ _ _ (by omega) (by omega) (by rw [swr_len]; omega), swr_len]
  refine ext_getD d (by rw [hl, rot_len _ _ _ _ (by omega) (by omega) hj]) fun k hk => ?_
  have g := fun k => swr_get d l (m - i) m j k (by omega) (by omega)
  rw [rot_get d _ _ _ _ _ (by omega) (by omega) (by rw [swr_len]; omega), rot_get d l _ _ _ _ (by omega) (by omega) hj, g, g, g]
  by_cases c1 : k < m - i
  · rw [if_pos (by omega), if_neg (by omega), if_neg (by omega), if_pos c1]
  · rw [if_neg c1]
    by_cases c2 : k < m - i + j
    · rw [if_pos (by omega), if_pos (by omega), if_pos (by omega)]
    · rw [if_neg (show ¬ k < m - (i - j) by omega), if_neg (show ¬ k < m - i + (m + j - m) by omega)]
      by_cases c3 : k < m - (i - j) + (m + j - m)
      · rw [if_pos c3, if_neg (by omega), if_pos (by omega), if_pos (by omega)]
        congr 1; omega
      · rw [if_neg c3]
        by_cases c4 : k < m + j
        · rw [if_pos c4, if_neg (by omega), if_neg (by omega), if_pos c4]
        · rw [if_neg c4, if_neg (by omega), if_neg (by omega), if_neg c4]
theorem rot_hi (d : α) (l : List α) (m i j : Nat) (hi : i ≤ m) (hj : m + j ≤ l.length) (h : i < j) : rot (swr d l (m - i) (m + j - i) i) (m - i) m (m + (j - i)) = rot l (m - i) m (m + j) := by
  have hl : (rot (swr d l (m - i) (m + j - i) i) (m - i) m (m + (j - i))).length = l.length := by rw [rot_len _ _ _ _ (by omega) (by omega) (by rw [swr_len]; omega), swr_len]
  refine ext_getD d (by rw [hl, rot_len _ _ _ _ (by omega) (by omega) hj]) fun k hk => ?_
  have g := fun k => swr_get d l (m - i) (m + j - i) i k (by omega) (by omega)
  rw [rot_get d _ _ _ _ _ (by omega) (by omega) (by rw [swr_len]; omega), rot_get d l _ _ _ _ (by omega) (by omega) hj, g, g, g]
  by_cases c1 : k < m - i
  · rw [if_pos (by omega), if_neg (by omega), if_neg (by omega), if_pos c1]
  · rw [if_neg c1, if_neg c1]
    by_cases c2 : k < m - i + (m + (j - i) - m)
    · rw [if_pos c2, if_neg (by omega), if_neg (by omega), if_pos (by omega)]
    · rw [if_neg c2]
      by_cases c3 : k < m + (j - i)
      · rw [if_pos c3, if_pos (by omega), if_pos (by omega)]
        congr 1; omega
      · rw [if_neg c3, if_neg (by omega)]
        by_cases c4 : k < m + j
        · rw [if_pos (by omega), if_neg (by omega), if_pos c4]
          congr 1; omega
        · rw [if_neg (by omega), if_neg (by omega), if_neg c4]
/-- one place goes up, one goes down -/
theorem rot_one (l : List α) (a : Nat) (h : a < l.length) : rot l a (a + 1) (a + 1) = l := by
  have d : α := l[a]
  refine ext_getD d (rot_len _ _ _ _ (by omega) (by omega) h) fun k hk => ?_
  rw [rot_get d l _ _ _ _ (by omega) (by omega) h]
  by_cases c1 : k < a
  · rw [if_pos c1]
  · rw [if_neg c1, if_neg (by omega)]
    split
    · congr 1; omega
    · rfl
theorem rot_up (d : α) (l : List α) (a k : Nat) (hk : a ≤ k) (h : k + 1 < l.length) : swp d (rot l a (a + 1) (k + 1)) k (k + 1) = rot l a (a + 1) (k + 2) := by
  have hl : (rot l a (a + 1) (k + 1)).length = l.length := rot_len _ _ _ _ (by omega) (by omega) (by omega)
  refine ext_getD d (by rw [swp_len, hl, rot_len _ _ _ _ (by omega) (by omega) (by omega)]) fun i hi => ?_
  have g := fun i => rot_get d l a (a + 1) (k + 1) i (by omega) (by omega) (by omega)
  rw [swp_get d _ _ _ _ (by rw [hl]; omega) (by rw [hl]; omega), g, g, g, rot_get d l a (a + 1) (k + 2) i (by omega) (by omega) (by omega)]
  by_cases c1 : i = k + 1
  · subst c1
    rw [if_pos rfl, if_neg (by omega), if_neg (by omega), if_pos (by omega), if_neg (by omega), if_neg (by omega), if_pos (by omega)]
    congr 1; omega
  · rw [if_neg c1]
    by_cases c2 : i = k
    · subst c2
      rw [if_pos rfl, if_neg (by omega), if_neg (by omega), if_neg (by omega), if_neg (by omega), if_pos (by omega)]
      congr 1; omega
    · rw [if_neg c2]
      by_cases c3 : i < a
      · rw [if_pos c3, if_pos c3]
      · rw [if_neg c3, if_neg c3]
        by_cases c4 : i < k
        · rw [if_pos (by omega), if_pos (by omega)]
        · rw [if_neg (by omega), if_neg (by omega), if_neg (by omega), if_neg (by omega)]
theorem rot_none (l : List α) (m : Nat) (h : m < l.length) : rot l m m (m + 1) = l := by
  have d : α := l[m]
  refine ext_getD d (rot_len _ _ _ _ (by omega) (by omega) h) fun k hk => ?_
  rw [rot_get d l _ _ _ _ (by omega) (by omega) h]
  by_cases c1 : k < m
  · rw [if_pos c1]
  · rw [if_neg c1]
    split
    · congr 1; omega
    · rw [if_neg (by omega)]
theorem rot_dn (d : α) (l : List α) (m k : Nat) (hk : k < m) (h : m < l.length) : swp d (rot l (k + 1) m (m + 1)) (k + 1) k = rot l k m (m + 1) := by
  have hl : (rot l (k + 1) m (m + 1)).length = l.length := rot_len _ _ _ _ (by omega) (by omega) (by omega)
  refine ext_getD d (by rw [swp_len, hl, rot_len _ _ _ _ (by omega) (by omega) (by omega)]) fun i hi => ?_
  have g := fun i => rot_get d l (k + 1) m (m + 1) i (by omega) (by omega) (by omega)
  rw [swp_get d _ _ _ _ (by rw [hl]; omega) (by rw [hl]; omega), g, g, g, rot_get d l k m (m + 1) i (by omega) (by omega) (by omega)]
  by_cases c1 : i = k
  · subst c1
    rw [if_pos rfl, if_neg (by omega), if_pos (by omega), if_neg (by omega), if_pos (by omega)]
    congr 1; omega
  · rw [if_neg c1]
    by_cases c2 : i = k + 1
    · subst c2
      rw [if_pos rfl, if_pos (by omega), if_neg (by omega), if_neg (by omega), if_pos (by omega)]
      congr 1; omega
    · rw [if_neg c2]
      by_cases c3 : i < k
      · rw [if_pos (by omega), if_pos c3]
      · rw [if_neg (show ¬ i < k + 1 by omega), if_neg (show ¬ i < k + 1 + (m + 1 - m) by omega), if_neg c3, if_neg (show ¬ i < k + (m + 1 - m) by omega)]

/-- the library's search in [i, j) -/
def bs (p : Nat → Bool) (i j : Nat) : Nat :=
  if i < j then (if p ((i + j) / 2) = true then bs p ((i + j) / 2 + 1) j else bs p i ((i + j) / 2)) else i
termination_by j - i
theorem bs_end (p : Nat → Bool) {i j : Nat} (h : ¬ i < j) : bs p i j = i := by rw [bs, if_neg h]
theorem bs_yes (p : Nat → Bool) {i j : Nat} (h : i < j) (hp : p ((i + j) / 2) = true) : bs p i j = bs p ((i + j) / 2 + 1) j := by rw [bs, if_pos h, if_pos hp]
theorem bs_no (p : Nat → Bool) {i j : Nat} (h : i < j) (hp : ¬ p ((i + j) / 2) = true) : bs p i j = bs p i ((i + j) / 2) := by rw [bs, if_pos h, if_neg hp]
theorem bs_all (p : Nat → Bool) : ∀ (n i j : Nat), j - i ≤ n → i ≤ j → i ≤ bs p i j ∧ bs p i j ≤ j ∧ (i < bs p i j → p (bs p i j - 1) = true) ∧ (bs p i j < j → p (bs p i j) = false)
  | 0, i, j, hn, hj => by
    rw [bs_end p (by omega)]
    exact ⟨Nat.le_refl _, hj, fun h => by omega, fun h => by omega⟩
  | n + 1, i, j, hn, hj => by
    by_cases h : i < j
    · by_cases hp : p ((i + j) / 2) = true
      · rw [bs_yes p h hp]
        obtain ⟨h1, h2, h3, h4⟩ := bs_all p n ((i + j) / 2 + 1) j (by omega) (by omega)
        refine ⟨by omega, h2, fun _ => ?_, h4⟩
        by_cases e : bs p ((i + j) / 2 + 1) j = (i + j) / 2 + 1
        · rw [e]; exact hp
        · exact h3 (by omega)
      · rw [bs_no p h hp]
        obtain ⟨h1, h2, h3, h4⟩ := bs_all p n i ((i + j) / 2) (by omega) (by omega)
        refine ⟨h1, by omega, h3, fun _ => ?_⟩
        by_cases e : bs p i ((i + j) / 2) = (i + j) / 2
        · rw [e]; simpa using hp
        · exact h4 (by omega)
    · rw [bs_end p h]
      exact ⟨Nat.le_refl _, hj, fun h => by omega, fun h => by omega⟩

/-- where the two halves are cut -/
def cutS (d : α) (lt : α → α → Bool) (a m b : Nat) (l : List α) : Nat :=
  bs (fun c => !lt (l.getD ((a + b) / 2 + m - 1 - c) d) (l.getD c d)) (if (a + b) / 2 < m then (a + b) / 2 + m - b else a) (if (a + b) / 2 < m then (a + b) / 2 else m)
/-- [a, m) and [m, b) are merged -/
def sym (d : α) (lt : α → α → Bool) (a m b : Nat) (l : List α) : List α :=
  if m = a + 1 then rot l a (a + 1) (bs (fun h => lt (l.getD h d) (l.getD a d)) m b)
  else if b = m + 1 then rot l (bs (fun h => !lt (l.getD m d) (l.getD h d)) a m) m (m + 1)
  else
    let s := cutS d lt a m b l
    let e := (a + b) / 2 + m - s
    let l1 := if s < m ∧ m < e then rot l s m e else l
    let l2 := if a < s ∧ s < (a + b) / 2 then sym d lt a s ((a + b) / 2) l1 else l1
    if (a + b) / 2 < e ∧ e < b then sym d lt ((a + b) / 2) e b l2 else l2
termination_by b - a
decreasing_by all_goals omega
theorem sym_a (d : α) (lt : α → α → Bool) (a m b : Nat) (l : List α) (h : m = a + 1) : sym d lt a m b l = rot l a (a + 1) (bs (fun h => lt (l.getD h d) (l.getD a d)) m b) := by rw [sym, if_pos h]
theorem sym_b (d : α) (lt : α → α → Bool) (a m b : Nat) (l : List α) (h : ¬ m = a + 1) (h' : b = m + 1) : sym d lt a m b l = rot l (bs (fun h => !lt (l.getD m d) (l.getD h d)) a m) m (m + 1) := by rw [sym, if_neg h, if_pos h']
def sym1 (s m e : Nat) (l : List α) : List α := if s < m ∧ m < e then rot l s m e else l
def sym2 (d : α) (lt : α → α → Bool) (a s mid : Nat) (l : List α) : List α := if a < s ∧ s < mid then sym d lt a s mid l else l
theorem sym_c (d : α) (lt : α → α → Bool) (a m b : Nat) (l : List α) (h : ¬ m = a + 1) (h' : ¬ b = m + 1) : sym d lt a m b l = sym2 d lt ((a + b) / 2) ((a + b) / 2 + m - cutS d lt a m b l) b (sym2 d lt a (cutS d lt a m b l) ((a + b) / 2) (sym1 (cutS d lt a m b l) m ((a + b) / 2 + m - cutS d lt a m b l) l)) := by
  rw [sym, if_neg h, if_neg h']; rfl
theorem cutS_bd (d : α) (lt : α → α → Bool) {a m b : Nat} (l : List α) (h1 : a < m) (h2 : m < b) : a ≤ cutS d lt a m b l ∧ cutS d lt a m b l ≤ m ∧ cutS d lt a m b l ≤ (a + b) / 2 ∧ m ≤ (a + b) / 2 + m - cutS d lt a m b l ∧ (a + b) / 2 + m - cutS d lt a m b l ≤ b := by
  unfold cutS
  split
  · obtain ⟨g1, g2, _⟩ := bs_all (fun c => !lt (l.getD ((a + b) / 2 + m - 1 - c) d) (l.getD c d)) _ ((a + b) / 2 + m - b) ((a + b) / 2) (Nat.le_refl _) (by omega)
    omega
  · obtain ⟨g1, g2, _⟩ := bs_all (fun c => !lt (l.getD ((a + b) / 2 + m - 1 - c) d) (l.getD c d)) _ a m (Nat.le_refl _) (by omega)
    omega
theorem cutS_at (d : α) (key : α → Int) {a m b : Nat} (l : List α) (h1 : a < m) (h2 : m < b) (s e : Nat) (hs : s = cutS d (fun x y => decide (key x < key y)) a m b l) (he : e = (a + b) / 2 + m - s) :
    (a < s → e < b → key (l.getD (s - 1) d) ≤ key (l.getD e d)) ∧ (m < e → s < m → key (l.getD (e - 1) d) ≤ key (l.getD s d)) := by
  unfold cutS at hs
  split at hs
  · obtain ⟨g1, g2, g3, g4⟩ := bs_all (fun c => !(fun x y => decide (key x < key y)) (l.getD ((a + b) / 2 + m - 1 - c) d) (l.getD c d)) _ ((a + b) / 2 + m - b) ((a + b) / 2) (Nat.le_refl _) (by omega)
    rw [← hs] at g1 g2 g3 g4
    simp only [Bool.not_eq_true', Bool.not_eq_false', decide_eq_true_eq, decide_eq_false_iff_not] at g3 g4
    refine ⟨fun c1 c2 => ?_, fun c1 c2 => ?_⟩
    · have := g3 (by omega)
      rw [show (a + b) / 2 + m - 1 - (s - 1) = e by omega] at this
      omega
    · have := g4 (by omega)
      rw [show (a + b) / 2 + m - 1 - s = e - 1 by omega] at this
      omega
  · obtain ⟨g1, g2, g3, g4⟩ := bs_all (fun c => !(fun x y => decide (key x < key y)) (l.getD ((a + b) / 2 + m - 1 - c) d) (l.getD c d)) _ a m (Nat.le_refl _) (by omega)
    rw [← hs] at g1 g2 g3 g4
    simp only [Bool.not_eq_true', Bool.not_eq_false', decide_eq_true_eq, decide_eq_false_iff_not] at g3 g4
    refine ⟨fun c1 c2 => ?_, fun c1 c2 => ?_⟩
    · have := g3 (by omega)
      rw [show (a + b) / 2 + m - 1 - (s - 1) = e by omega] at this
      omega
    · have := g4 (by omega)
      rw [show (a + b) / 2 + m - 1 - s = e - 1 by omega] at this
      omega
theorem rot_out (d : α) (l : List α) (s m e k : Nat) (h1 : s ≤ m) (h2 : m ≤ e) (h3 : e ≤ l.length) (hk : k < s ∨ e ≤ k) : (rot l s m e).getD k d = l.getD k d := by
  rw [rot_get d l s m e k h1 h2 h3]
  rcases hk with h | h
  · rw [if_pos h]
  · rw [if_neg (by omega), if_neg (by omega), if_neg (by omega)]
/-- elements of [a, b) after a permutation that leaves the rest -/
theorem perm_in (d : α) {l l' : List α} {a b : Nat} (hb : b ≤ l.length) (hp : l'.Perm l) (ho : ∀ k, k < a ∨ b ≤ k → l'.getD k d = l.getD k d) {i : Nat} (hi : a ≤ i ∧ i < b) : ∃ j, a ≤ j ∧ j < b ∧ l'.getD i d = l.getD j d := by
  have hl : l'.length = l.length := hp.length_eq
  have split3 : ∀ x : List α, x = x.take a ++ ((x.drop a).take (b - a) ++ x.drop b) := by
    intro x
    have : x.drop a = (x.drop a).take (b - a) ++ x.drop b := by
      conv => lhs; rw [← List.take_append_drop (b - a) (x.drop a)]
      rw [List.drop_drop, show a + (b - a) = b by omega]
    rw [← this, List.take_append_drop]
  have e1 : l'.take a = l.take a := ext_getD d (by simp [hl]) fun k hk => by
    have : k < a := by simp at hk; omega
    have := ho k (.inl this)
    simp only [List.getD_eq_getElem?_getD] at this ⊢
    rw [List.getElem?_take_of_lt (by omega), List.getElem?_take_of_lt (by omega)]; exact this
  have e2 : l'.drop b = l.drop b := ext_getD d (by simp [hl]) fun k hk => by
    have := ho (b + k) (.inr (by omega))
    simp only [List.getD_eq_getElem?_getD, List.getElem?_drop] at this ⊢
    exact this
  have hm : ((l'.drop a).take (b - a)).Perm ((l.drop a).take (b - a)) := by
    have := hp
    rw [split3 l', split3 l, e1, e2] at this
    exact (List.perm_append_right_iff _).1 ((List.perm_append_left_iff _).1 this)
  have hx : l'.getD i d ∈ (l'.drop a).take (b - a) := by
    rw [List.mem_take_iff_getElem]
    refine ⟨i - a, by simp; omega, ?_⟩
    simp only [List.getElem_drop, List.getD_eq_getElem?_getD]
    rw [List.getElem?_eq_getElem (show i < l'.length by omega)]
    simp [show a + (i - a) = i by omega]
  have hy := (hm.mem_iff).1 hx
  rw [List.mem_take_iff_getElem] at hy
  obtain ⟨k, hk, e⟩ := hy
  simp at hk
  refine ⟨a + k, by omega, by omega, ?_⟩
  rw [← e]
  simp only [List.getElem_drop, List.getD_eq_getElem?_getD]
  rw [List.getElem?_eq_getElem (show a + k < l.length by omega)]
  rfl
theorem srt_congr (d : α) (key : α → Int) {l l' : List α} {a b : Nat} (h : srt d key l a b) (e : ∀ k, a ≤ k → k < b → l'.getD k d = l.getD k d) : srt d key l' a b := fun i k h1 h2 h3 => by
  rw [e i h1 (by omega), e k (by omega) h3]; exact h i k h1 h2 h3
theorem sym_all (d : α) (key : α → Int) : ∀ (n a m b : Nat) (l : List α), b - a ≤ n → a < m → m < b → b ≤ l.length →
    (sym d (fun x y => decide (key x < key y)) a m b l).Perm l ∧ (∀ k, k < a ∨ b ≤ k → (sym d (fun x y => decide (key x < key y)) a m b l).getD k d = l.getD k d) ∧
    (srt d key l a m → srt d key l m b → srt d key (sym d (fun x y => decide (key x < key y)) a m b l) a b)
  | 0, a, m, b, l, hn, h1, h2, h3 => by omega
  | n + 1, a, m, b, l, hn, h1, h2, h3 => by
    by_cases c1 : m = a + 1
    · rw [sym_a _ _ _ _ _ _ c1]
      obtain ⟨g1, g2, g3, g4⟩ := bs_all (fun h => (fun x y => decide (key x < key y)) (l.getD h d) (l.getD a d)) _ m b (Nat.le_refl _) (by omega)
      generalize bs (fun h => (fun x y => decide (key x < key y)) (l.getD h d) (l.getD a d)) m b = e at *
      simp only [decide_eq_true_eq, decide_eq_false_iff_not] at g3 g4
      refine ⟨rot_perm _ _ _ _ (by omega) (by omega), fun k hk => rot_out d l _ _ _ _ (by omega) (by omega) (by omega) (by omega), fun sl sr => ?_⟩
      have g := fun k => rot_get d l a (a + 1) e k (by omega) (by omega) (by omega)
      intro i k hi hik hk
      rw [g i, g k, if_neg (show ¬ i < a by omega), if_neg (show ¬ k < a by omega)]
      by_cases p1 : k < a + (e - (a + 1))
      · rw [if_pos (by omega), if_pos p1]
        exact sr _ _ (by omega) (by omega) (by omega)
      · rw [if_neg p1]
        by_cases p2 : k < e
        · rw [if_pos p2, show k - (e - (a + 1)) = a by omega]
          by_cases p3 : i < a + (e - (a + 1))
          · rw [if_pos p3]
            have q1 := g3 (by omega)
            have q2 := sr (i - a + (a + 1)) (e - 1) (by omega) (by omega) (by omega)
            omega
          · rw [if_neg p3, if_pos (by omega), show i - (e - (a + 1)) = a by omega]
            exact Int.le_refl _
        · rw [if_neg p2]
          by_cases p3 : i < a + (e - (a + 1))
          · rw [if_pos p3]
            exact sr _ _ (by omega) (by omega) (by omega)
          · rw [if_neg p3]
            by_cases p4 : i < e
            · rw [if_pos p4, show i - (e - (a + 1)) = a by omega]
              have q1 := g4 (by omega)
              have q2 := sr e k (by omega) (by omega) (by omega)
              omega
            · rw [if_neg p4]
              exact sr _ _ (by omega) (by omega) (by omega)
    · by_cases c2 : b = m + 1
      · rw [sym_b _ _ _ _ _ _ c1 c2]
        obtain ⟨g1, g2, g3, g4⟩ := bs_all (fun h => !(fun x y => decide (key x < key y)) (l.getD m d) (l.getD h d)) _ a m (Nat.le_refl _) (by omega)
        generalize bs (fun h => !(fun x y => decide (key x < key y)) (l.getD m d) (l.getD h d)) a m = s at *
        simp only [Bool.not_eq_true', Bool.not_eq_false', decide_eq_true_eq, decide_eq_false_iff_not] at g3 g4
        refine ⟨rot_perm _ _ _ _ (by omega) (by omega), fun k hk => rot_out d l _ _ _ _ (by omega) (by omega) (by omega) (by omega), fun sl sr => ?_⟩
        have g := fun k => rot_get d l s m (m + 1) k (by omega) (by omega) (by omega)
        intro i k hi hik hk
        rw [g i, g k]
        by_cases p1 : k < s
        · rw [if_pos (by omega), if_pos p1]
          exact sl _ _ (by omega) (by omega) (by omega)
        · rw [if_neg p1]
          by_cases p2 : k < s + (m + 1 - m)
          · rw [if_pos p2, show k - s + m = m by omega]
            by_cases p3 : i < s
            · rw [if_pos p3]
              have q1 := g3 (by omega)
              have q2 := sl i (s - 1) (by omega) (by omega) (by omega)
              omega
            · rw [if_neg p3, if_pos (by omega), show i - s + m = m by omega]
              exact Int.le_refl _
          · rw [if_neg p2, if_pos (show k < m + 1 by omega)]
            by_cases p3 : i < s
            · rw [if_pos p3]
              exact sl _ _ (by omega) (by omega) (by omega)
            · rw [if_neg p3]
              by_cases p4 : i < s + (m + 1 - m)
              · rw [if_pos p4, show i - s + m = m by omega]
                have q1 := g4 (by omega)
                have q2 := sl s (k - (m + 1 - m)) (by omega) (by omega) (by omega)
                omega
              · rw [if_neg p4, if_pos (by omega)]
                exact sl _ _ (by omega) (by omega) (by omega)
      · rw [sym_c _ _ _ _ _ _ c1 c2]
        obtain ⟨b1, b2, b3, b4, b5⟩ := cutS_bd d (fun x y => decide (key x < key y)) l h1 h2
        obtain ⟨k1, k2⟩ := cutS_at d key l h1 h2 _ _ rfl rfl
        generalize cutS d (fun x y => decide (key x < key y)) a m b l = s at *
        generalize he : (a + b) / 2 + m - s = e at *
        generalize hmid : (a + b) / 2 = mid at *
        have hse : mid = s + (e - m) := by omega
        have r1 : sym1 s m e l = rot l s m e := by
          unfold sym1
          split
          · rfl
          · refine ext_getD d (rot_len _ _ _ _ b2 b4 (by omega)).symm fun k hk => ?_
            rw [rot_get d l _ _ _ _ b2 b4 (by omega)]
            split
            · rfl
            · split
              · congr 1; omega
              · split
                · congr 1; omega
                · rfl
        rw [r1]
        have A1 := rot_perm l s m e b2 b4
        have A2 := fun k hk => rot_out d l s m e k b2 b4 (by omega) hk
        have A3 := fun sl sr => half d key l a m b s e b1 b2 b4 b5 h3 sl sr k1 k2
        generalize rot l s m e = l1 at *
        have L1 : l1.length = l.length := A1.length_eq
        obtain ⟨B1, B2, B3⟩ : (sym2 d (fun x y => decide (key x < key y)) a s mid l1).Perm l1 ∧ (∀ k, k < a ∨ mid ≤ k → (sym2 d (fun x y => decide (key x < key y)) a s mid l1).getD k d = l1.getD k d) ∧ (srt d key l1 a s → srt d key l1 s mid → srt d key (sym2 d (fun x y => decide (key x < key y)) a s mid l1) a mid) := by
          unfold sym2
          split
          · rename_i hc
            exact sym_all d key n a s mid l1 (by omega) hc.1 hc.2 (by omega)
          · rename_i hc
            refine ⟨List.Perm.refl _, fun _ _ => rfl, fun u v => ?_⟩
            by_cases e1 : a = s
            · rw [e1]; exact v
            · have e2 : s = mid := by omega
              rw [← e2]; exact u
        generalize sym2 d (fun x y => decide (key x < key y)) a s mid l1 = l2 at *
        have L2 : l2.length = l1.length := B1.length_eq
        obtain ⟨C1, C2, C3⟩ : (sym2 d (fun x y => decide (key x < key y)) mid e b l2).Perm l2 ∧ (∀ k, k < mid ∨ b ≤ k → (sym2 d (fun x y => decide (key x < key y)) mid e b l2).getD k d = l2.getD k d) ∧ (srt d key l2 mid e → srt d key l2 e b → srt d key (sym2 d (fun x y => decide (key x < key y)) mid e b l2) mid b) := by
          unfold sym2
          split
          · rename_i hc
            exact sym_all d key n mid e b l2 (by omega) hc.1 hc.2 (by omega)
          · rename_i hc
            refine ⟨List.Perm.refl _, fun _ _ => rfl, fun u v => ?_⟩
            by_cases e1 : mid = e
            · rw [e1]; exact v
            · have e2 : e = b := by omega
              rw [← e2]; exact u
        generalize sym2 d (fun x y => decide (key x < key y)) mid e b l2 = l3 at *
        refine ⟨C1.trans (B1.trans A1), fun k hk => (C2 k (by omega)).trans ((B2 k (by omega)).trans (A2 k (by omega))), fun sl sr => ?_⟩
        obtain ⟨s1, s2, s3, s4, s5⟩ := A3 sl sr
        rw [← hse] at s2 s3 s5
        have t1 := B3 s1 s2
        have t2 := C3 (srt_congr d key s3 fun k h1 h2 => B2 k (by omega)) (srt_congr d key s4 fun k h1 h2 => B2 k (by omega))
        intro i k hi hik hk
        by_cases p1 : mid ≤ i
        · exact t2 i k p1 hik hk
        · by_cases p2 : k < mid
          · rw [C2 i (by omega), C2 k (by omega)]
            exact t1 i k hi hik p2
          · rw [C2 i (by omega)]
            obtain ⟨i', w1, w2, w3⟩ := perm_in d (a := a) (b := mid) (by omega) B1 (fun k hk => B2 k (by omega)) (i := i) (by omega)
            obtain ⟨k', v1, v2, v3⟩ := perm_in d (a := mid) (b := b) (by omega) C1 (fun k hk => C2 k (by omega)) (i := k) (by omega)
            rw [w3, v3, B2 k' (by omega)]
            exact s5 i' k' w1 w2 v1 v2

/-- the stable sort of less than forty -/
def stab (d : α) (lt : α → α → Bool) (l : List α) : List α :=
  if l.length < 20 then insS d lt 0 l.length l
  else if l.length = 20 then insS d lt 20 l.length (insS d lt 0 20 l)
  else sym d lt 0 20 l.length (insS d lt 20 l.length (insS d lt 0 20 l))
theorem sink_lo (d : α) (lt : α → α → Bool) (a : Nat) : ∀ (j : Nat) (l : List α) (k : Nat), j < l.length → k < a → (sink d lt a j l).getD k d = l.getD k d
  | 0, l, k, _, _ => rfl
  | j + 1, l, k, hj, hk => by
    unfold sink
    split
    · rw [sink_lo d lt a j _ k (by rw [swp_len]; omega) hk, swp_get d l (j + 1) j k hj (by omega), if_neg (by omega), if_neg (by omega)]
    · rfl
theorem insS_out (d : α) (lt : α → α → Bool) (a : Nat) : ∀ (i : Nat) (l : List α) (k : Nat), i ≤ l.length → k < a ∨ i ≤ k → (insS d lt a i l).getD k d = l.getD k d
  | 0, l, k, _, _ => rfl
  | i + 1, l, k, hi, hk => by
    unfold insS
    split
    · rw [sink_out d lt a i _ k (by rw [insS_len]; omega) (by omega), insS_out d lt a i l k (by omega) (by omega)]
    · rfl
theorem stab_perm (d : α) (key : α → Int) (l : List α) : (stab d (fun x y => decide (key x < key y)) l).Perm l := by
  unfold stab
  split
  · exact insS_perm d _ 0 _ l (Nat.le_refl _)
  · have p1 := insS_perm d (fun x y => decide (key x < key y)) 0 20 l (by omega)
    have p2 := insS_perm d (fun x y => decide (key x < key y)) 20 l.length (insS d (fun x y => decide (key x < key y)) 0 20 l) (by rw [insS_len]; omega)
    split
    · exact p2.trans p1
    · exact (sym_all d key _ 0 20 l.length _ (Nat.le_refl _) (by omega) (by omega) (by rw [insS_len, insS_len]; omega)).1.trans (p2.trans p1)
theorem stab_srt (d : α) (key : α → Int) (l : List α) : srt d key (stab d (fun x y => decide (key x < key y)) l) 0 l.length := by
  unfold stab
  split
  · exact insS_srt d key 0 _ l (Nat.le_refl _)
  · have p1 := insS_srt d key 0 20 l (by omega)
    have p2 := insS_srt d key 20 l.length (insS d (fun x y => decide (key x < key y)) 0 20 l) (by rw [insS_len]; omega)
    have p3 : srt d key (insS d (fun x y => decide (key x < key y)) 20 l.length (insS d (fun x y => decide (key x < key y)) 0 20 l)) 0 20 := srt_congr d key p1 fun k h1 h2 => insS_out d _ 20 _ _ k (by rw [insS_len]; omega) (.inl h2)
    split
    · rename_i e; rw [e] at p3 ⊢; exact p3
    · exact (sym_all d key _ 0 20 l.length _ (Nat.le_refl _) (by omega) (by omega) (by rw [insS_len, insS_len]; omega)).2.2 p3 p2
end Go.Srt

namespace Go.Srt
variable {α : Type}

def ordP (key : α → Int) (l : List α) : Prop := l.Pairwise fun a b => key a < key b
/-- where one with the key of x would stand -/
def posK (key : α → Int) (x : α) (l : List α) : Nat := (l.takeWhile fun y => decide (key y < key x)).length
def insK (key : α → Int) (x : α) (l : List α) : List α := l.take (posK key x l) ++ x :: l.drop (posK key x l)
theorem posK_le (key : α → Int) (x : α) (l : List α) : posK key x l ≤ l.length := by
  unfold posK
  exact (List.takeWhile_prefix _).length_le
theorem posK_lt (key : α → Int) (x : α) : ∀ (l : List α) (j : Nat) (h : j < l.length), j < posK key x l → key l[j] < key x
  | [], j, h, _ => by simp at h
  | y :: l, j, h, hj => by
    by_cases hy : key y < key x
    · have e : posK key x (y :: l) = posK key x l + 1 := by simp [posK, hy]
      cases j with
      | zero => exact hy
      | succ j => exact posK_lt key x l j (by simpa using h) (by omega)
    · have e : posK key x (y :: l) = 0 := by simp [posK, hy]
      omega
theorem posK_at (key : α → Int) (x : α) : ∀ (l : List α) (h : posK key x l < l.length), ¬ key l[posK key x l] < key x
  | [], h => by simp at h
  | y :: l, h => by
    by_cases hy : key y < key x
    · have e : posK key x (y :: l) = posK key x l + 1 := by simp [posK, hy]
      simp only [e, List.getElem_cons_succ]
      exact posK_at key x l (by rw [e] at h; simpa using h)
    · have e : posK key x (y :: l) = 0 := by simp [posK, hy]
      simp only [e, List.getElem_cons_zero]
      exact hy
theorem posK_of (key : α → Int) (x : α) (l : List α) (k : Nat) (hk : k ≤ l.length) (h1 : ∀ (j : Nat) (h : j < l.length), j < k → key l[j] < key x) (h2 : ∀ h : k < l.length, ¬ key l[k] < key x) : posK key x l = k := by
  have hp := posK_le key x l
  rcases Nat.lt_trichotomy (posK key x l) k with h | h | h
  · exact absurd (h1 _ (by omega) h) (posK_at key x l (by omega))
  · exact h
  · exact absurd (posK_lt key x l k (by omega) h) (h2 (by omega))
theorem insK_perm (key : α → Int) (x : α) (l : List α) : (insK key x l).Perm (x :: l) := by
  unfold insK
  have := (List.perm_middle (a := x) (l₁ := l.take (posK key x l)) (l₂ := l.drop (posK key x l)))
  rwa [List.take_append_drop] at this
theorem insK_len (key : α → Int) (x : α) (l : List α) : (insK key x l).length = l.length + 1 := by
  rw [(insK_perm key x l).length_eq]; rfl
theorem ordP_get {key : α → Int} {l : List α} (h : ordP key l) {i j : Nat} (hi : i < l.length) (hj : j < l.length) (hij : i < j) : key l[i] < key l[j] := List.pairwise_iff_getElem.1 h i j hi hj hij
theorem insK_ord (key : α → Int) (x : α) (l : List α) (h : ordP key l) (hx : ∀ y ∈ l, key y ≠ key x) : ordP key (insK key x l) := by
  unfold insK ordP
  have hp := posK_le key x l
  rw [List.pairwise_append, List.pairwise_cons]
  have h1 : ∀ a ∈ l.take (posK key x l), key a < key x := by
    intro a ha
    rw [List.mem_take_iff_getElem] at ha
    obtain ⟨j, hj, rfl⟩ := ha
    exact posK_lt key x l j (by omega) (by omega)
  have h2 : ∀ a ∈ l.drop (posK key x l), key x < key a := by
    intro a ha
    rw [List.mem_drop_iff_getElem] at ha
    obtain ⟨j, hj, rfl⟩ := ha
    have h3 := posK_at key x l (by omega)
    have h4 := hx l[posK key x l + j] (List.getElem_mem _)
    rcases Nat.eq_zero_or_pos j with rfl | hj0
    · simp only [Nat.add_zero] at h4 ⊢
      omega
    · have := ordP_get h (i := posK key x l) (j := posK key x l + j) (by omega) (by omega) (by omega)
      omega
  refine ⟨h.sublist (List.take_sublist _ _), ⟨fun a ha => h2 a ha, h.sublist (List.drop_sublist _ _)⟩, fun a ha b hb => ?_⟩
  rcases List.mem_cons.1 hb with rfl | hb
  · exact h1 a ha
  · exact Int.lt_trans (h1 a ha) (h2 b hb)
theorem stab_uniq (d : α) (key : α → Int) (L M : List α) (hM : ordP key M) (hp : L.Perm M) : stab d (fun x y => decide (key x < key y)) L = M := by
  have p1 : (stab d (fun x y => decide (key x < key y)) L).Perm M := (stab_perm d key L).trans hp
  have s1 : (stab d (fun x y => decide (key x < key y)) L).Pairwise fun a b => key a ≤ key b := by
    rw [List.pairwise_iff_getElem]
    intro i j hi hj hij
    have hl : (stab d (fun x y => decide (key x < key y)) L).length = L.length := (stab_perm d key L).length_eq
    have := stab_srt d key L i j (by omega) (by omega) (by omega)
    simpa [List.getD_eq_getElem?_getD, hi, hj] using this
  have s2 : M.Pairwise fun a b => key a ≤ key b := hM.imp fun h => Int.le_of_lt h
  refine List.Perm.eq_of_pairwise (le := fun a b => key a ≤ key b) (fun a b ha hb h1 h2 => ?_) s1 s2 p1
  have ha' := (p1.mem_iff).1 ha
  obtain ⟨i, hi, rfl⟩ := List.getElem_of_mem ha'
  obtain ⟨j, hj, rfl⟩ := List.getElem_of_mem hb
  rcases Nat.lt_trichotomy i j with h | h | h
  · have := ordP_get hM hi hj h; omega
  · subst h; rfl
  · have := ordP_get hM hj hi h; omega
theorem stab_ord (d : α) (key : α → Int) (L : List α) (h : ordP key L) : stab d (fun x y => decide (key x < key y)) L = L := stab_uniq d key L L h (List.Perm.refl _)
theorem erase_ord {key : α → Int} {l : List α} (h : ordP key l) (i : Nat) : ordP key (l.eraseIdx i) := h.sublist (List.eraseIdx_sublist l i)
theorem set_perm (l : List α) (i : Nat) (x : α) (h : i < l.length) : (l.set i x).Perm (x :: l.eraseIdx i) := by
  rw [List.set_eq_take_append_cons_drop, if_pos h, List.eraseIdx_eq_take_drop_succ]
  exact List.perm_middle
theorem erase_ne {key : α → Int} {l : List α} (h : ordP key l) {i : Nat} (hi : i < l.length) : ∀ y ∈ l.eraseIdx i, key y ≠ key l[i] := by
  intro y hy
  rw [List.mem_eraseIdx_iff_getElem] at hy
  obtain ⟨j, hj, hne, rfl⟩ := hy
  rcases Nat.lt_or_ge j i with h1 | h1
  · have := ordP_get h hj hi h1; omega
  · have := ordP_get h hi hj (by omega); omega
/-- one is laid in the place of another with its key, or behind all, and all are sorted -/
theorem stab_set (d : α) (key : α → Int) (l : List α) (i : Nat) (x : α) (hl : ordP key l) (hi : i < l.length) (hk : key l[i] = key x) : stab d (fun x y => decide (key x < key y)) (l.set i x) = insK key x (l.eraseIdx i) := by
  refine stab_uniq d key _ _ (insK_ord key x _ (erase_ord hl i) fun y hy => ?_) ((set_perm l i x hi).trans (insK_perm key x _).symm)
  rw [← hk]
  exact erase_ne hl hi y hy
theorem stab_app (d : α) (key : α → Int) (l : List α) (x : α) (hl : ordP key l) (hn : ∀ y ∈ l, key y ≠ key x) : stab d (fun x y => decide (key x < key y)) (l ++ [x]) = insK key x l :=
  stab_uniq d key _ _ (insK_ord key x _ hl hn) ((List.perm_append_comm (l₁ := l) (l₂ := [x])).trans (insK_perm key x l).symm)
/-- in order, by neighbours -/
theorem ordP_of {key : α → Int} {l : List α} (h : ∀ (i : Nat) (hi : i + 1 < l.length), key l[i] < key l[i + 1]) : ordP key l := by
  unfold ordP
  rw [List.pairwise_iff_getElem]
  intro i j hi hj hij
  obtain ⟨k, rfl⟩ : ∃ k, j = i + 1 + k := ⟨j - (i + 1), by omega⟩
  induction k with
  | zero => exact h i (by omega)
  | succ k ih => exact Int.lt_trans (ih (by omega) (by omega)) (h (i + 1 + k) (by omega))
end Go.Srt
