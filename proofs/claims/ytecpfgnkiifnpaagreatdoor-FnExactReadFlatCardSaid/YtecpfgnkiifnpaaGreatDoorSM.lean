/-
  What is proved here: the library's stable sort in plain Lean: insertion (sink, insS), rotation (rot), and one step of the merge in place (half). Condition: none.
-/
namespace Go.Srt
variable {α : Type}
def swp (d : α) (l : List α) (i j : Nat) : List α := (l.set i (l.getD j d)).set j (l.getD i d)
theorem swp_len (d : α) (l : List α) (i j : Nat) : (swp d l i j).length = l.length := by simp [swp]
theorem swp_get (d : α) (l : List α) (i j k : Nat) (hi : i < l.length) (hj : j < l.length) : (swp d l i j).getD k d = if k = j then l.getD i d else if k = i then l.getD j d else l.getD k d := by
  unfold swp
  simp only [List.getD_eq_getElem?_getD, List.getElem?_set]
  by_cases h1 : k = j
  · subst h1
    simp [hj]
  · have h1' : ¬ j = k := fun e => h1 e.symm
    by_cases h2 : k = i
    · subst h2
      simp [h1, h1', hi]
    · have h2' : ¬ i = k := fun e => h2 e.symm
      simp [h1, h1', h2, h2']
/-- a[j] goes down as long as it is less than the one below, not below a -/
def sink (d : α) (lt : α → α → Bool) (a : Nat) : Nat → List α → List α
  | 0, l => l
  | j + 1, l => if a < j + 1 ∧ lt (l.getD (j + 1) d) (l.getD j d) = true then sink d lt a j (swp d l (j + 1) j) else l
/-- the insertion sort of [a, i) -/
def insS (d : α) (lt : α → α → Bool) (a : Nat) : Nat → List α → List α
  | 0, l => l
  | i + 1, l => if a < i then sink d lt a i (insS d lt a i l) else l
theorem sink_len (d : α) (lt : α → α → Bool) (a : Nat) : ∀ (j : Nat) (l : List α), (sink d lt a j l).length = l.length
  | 0, l => rfl
  | j + 1, l => by
    unfold sink
    split
    · rw [sink_len d lt a j, swp_len]
    · rfl
theorem insS_len (d : α) (lt : α → α → Bool) (a : Nat) : ∀ (i : Nat) (l : List α), (insS d lt a i l).length = l.length
  | 0, l => rfl
  | i + 1, l => by
    unfold insS
    split
    · rw [sink_len, insS_len d lt a i]
    · rfl
/-- places outside stay -/
theorem sink_out (d : α) (lt : α → α → Bool) (a : Nat) : ∀ (j : Nat) (l : List α) (k : Nat), j < l.length → (k < a ∨ j < k) → (sink d lt a j l).getD k d = l.getD k d
  | 0, l, k, _, _ => rfl
  | j + 1, l, k, hj, hk => by
    unfold sink
    split
    · rename_i h
      rw [sink_out d lt a j _ k (by rw [swp_len]; omega) (by omega), swp_get d l (j + 1) j k hj (by omega)]
      rw [if_neg (by omega), if_neg (by omega)]
    · rfl
/-- sorted on [a, b) by a key -/
def srt (d : α) (key : α → Int) (l : List α) (a b : Nat) : Prop := ∀ i k, a ≤ i → i ≤ k → k < b → key (l.getD i d) ≤ key (l.getD k d)
theorem sink_srt (d : α) (key : α → Int) (a N : Nat) : ∀ (j : Nat) (l : List α), N ≤ l.length → j < N → a ≤ j →
    (∀ i k, a ≤ i → i ≤ k → k < N → i ≠ j → k ≠ j → key (l.getD i d) ≤ key (l.getD k d)) → (∀ k, j < k → k < N → key (l.getD j d) ≤ key (l.getD k d)) →
    srt d key (sink d (fun x y => decide (key x < key y)) a j l) a N
  | 0, l, hN, hj, ha, h1, h2 => by
    intro i k hi hik hk
    show key (l.getD i d) ≤ key (l.getD k d)
    by_cases e1 : i = 0
    · by_cases e2 : k = 0
      · rw [e1, e2]; exact Int.le_refl _
      · rw [e1]; exact h2 k (by omega) hk
    · exact h1 i k hi hik hk e1 (by omega)
  | j + 1, l, hN, hj, ha, h1, h2 => by
    unfold sink
    split
    · rename_i hc
      obtain ⟨hc1, hc2⟩ := hc
      simp only [decide_eq_true_eq] at hc2
      have hg : ∀ k, (swp d l (j + 1) j).getD k d = if k = j then l.getD (j + 1) d else if k = j + 1 then l.getD j d else l.getD k d := fun k => swp_get d l (j + 1) j k (by omega) (by omega)
      refine sink_srt d key a N j _ (by rw [swp_len]; exact hN) (by omega) (by omega) ?_ ?_
      · intro i k hi hik hk hij hkj
        rw [hg i, hg k, if_neg hij, if_neg hkj]
        by_cases e1 : i = j + 1
        · rw [if_pos e1]
          by_cases e2 : k = j + 1
          · rw [if_pos e2]; exact Int.le_refl _
          · rw [if_neg e2]; exact h1 j k (by omega) (by omega) hk (by omega) e2
        · rw [if_neg e1]
          by_cases e2 : k = j + 1
          · rw [if_pos e2]; exact h1 i j hi (by omega) (by omega) e1 (by omega)
          · rw [if_neg e2]; exact h1 i k hi hik hk e1 e2
      · intro k hk1 hk2
        rw [hg j, hg k, if_pos rfl, if_neg (by omega)]
        by_cases e2 : k = j + 1
        · rw [if_pos e2]; omega
        · rw [if_neg e2]; exact h2 k (by omega) hk2
    · rename_i hc
      intro i k hi hik hk
      by_cases e1 : i = j + 1
      · by_cases e2 : k = j + 1
        · rw [e1, e2]; exact Int.le_refl _
        · rw [e1]; exact h2 k (by omega) hk
      · by_cases e2 : k = j + 1
        · have h3 : key (l.getD j d) ≤ key (l.getD (j + 1) d) := by
            simp only [decide_eq_true_eq] at hc
            have : a < j + 1 := by omega
            have : ¬ key (l.getD (j + 1) d) < key (l.getD j d) := fun e => hc ⟨this, e⟩
            omega
          have h4 : key (l.getD i d) ≤ key (l.getD j d) := by
            by_cases e3 : i = j
            · rw [e3]; exact Int.le_refl _
            · exact h1 i j hi (by omega) (by omega) e1 (by omega)
          rw [e2]; omega
        · exact h1 i k hi hik hk e1 e2
theorem insS_srt (d : α) (key : α → Int) (a : Nat) : ∀ (i : Nat) (l : List α), i ≤ l.length → srt d key (insS d (fun x y => decide (key x < key y)) a i l) a i
  | 0, l, _ => by intro i k _ _ h; omega
  | i + 1, l, hi => by
    unfold insS
    split
    · rename_i ha
      have ih := insS_srt d key a i l (by omega)
      refine sink_srt d key a (i + 1) i _ (by rw [insS_len]; exact hi) (by omega) (by omega) (fun x y h1 h2 h3 h4 h5 => ih x y h1 h2 (by omega)) (fun k h1 h2 => by omega)
    · intro x y h1 h2 h3
      have : x = y := by omega
      rw [this]; exact Int.le_refl _
/-- the same elements -/
theorem swp_perm (d : α) (l : List α) (i j : Nat) (hi : i < l.length) (hj : j < l.length) : (swp d l i j).Perm l := by
  have h := Array.swap_perm (xs := l.toArray) (i := i) (j := j) (by simpa using hi) (by simpa using hj)
  have e : (l.toArray.swap i j (by simpa using hi) (by simpa using hj)).toList = swp d l i j := by
    simp [Array.swap, swp, hi, hj]
  rw [Array.perm_iff_toList_perm, e] at h
  exact h
theorem sink_perm (d : α) (lt : α → α → Bool) (a : Nat) : ∀ (j : Nat) (l : List α), j < l.length → (sink d lt a j l).Perm l
  | 0, l, _ => List.Perm.refl _
  | j + 1, l, hj => by
    unfold sink
    split
    · exact (sink_perm d lt a j _ (by rw [swp_len]; omega)).trans (swp_perm d l (j + 1) j hj (by omega))
    · exact List.Perm.refl _
theorem insS_perm (d : α) (lt : α → α → Bool) (a : Nat) : ∀ (i : Nat) (l : List α), i ≤ l.length → (insS d lt a i l).Perm l
  | 0, l, _ => List.Perm.refl _
  | i + 1, l, hi => by
    unfold insS
    split
    · exact (sink_perm d lt a i _ (by rw [insS_len]; omega)).trans (insS_perm d lt a i l (by omega))
    · exact List.Perm.refl _
/-- [s, m) and [m, e) change places -/
def rot (l : List α) (s m e : Nat) : List α := l.take s ++ ((l.drop m).take (e - m) ++ ((l.drop s).take (m - s) ++ l.drop e))
theorem rot_len (l : List α) (s m e : Nat) (h1 : s ≤ m) (h2 : m ≤ e) (h3 : e ≤ l.length) : (rot l s m e).length = l.length := by
  unfold rot
  simp only [List.length_append, List.length_take, List.length_drop]
  omega
theorem rot_get (d : α) (l : List α) (s m e k : Nat) (h1 : s ≤ m) (h2 : m ≤ e) (h3 : e ≤ l.length) : (rot l s m e).getD k d = if k < s then l.getD k d else if k < s + (e - m) then l.getD (k - s + m) d else if k < e then l.getD (k - (e - m)) d else l.getD k d := by
  unfold rot
  simp only [List.getD_eq_getElem?_getD]
  have l1 : (l.take s).length = s := by simp; omega
  have l2 : ((l.drop m).take (e - m)).length = e - m := by simp; omega
  have l3 : ((l.drop s).take (m - s)).length = m - s := by simp; omega
  by_cases c1 : k < s
  · rw [if_pos c1, List.getElem?_append_left (by omega), List.getElem?_take_of_lt c1]
  · rw [if_neg c1, List.getElem?_append_right (by omega), l1]
    by_cases c2 : k < s + (e - m)
    · rw [if_pos c2, List.getElem?_append_left (by omega), List.getElem?_take_of_lt (by omega), List.getElem?_drop]
      congr 2
      omega
    · rw [if_neg c2, List.getElem?_append_right (by omega), l2]
      by_cases c3 : k < e
      · rw [if_pos c3, List.getElem?_append_left (by omega), List.getElem?_take_of_lt (by omega), List.getElem?_drop]
        congr 2
        omega
      · rw [if_neg c3, List.getElem?_append_right (by omega), l3, List.getElem?_drop]
        congr 2
        omega
theorem rot_perm (l : List α) (s m e : Nat) (h1 : s ≤ m) (h2 : m ≤ e) : (rot l s m e).Perm l := by
  have e1 : l = l.take s ++ ((l.drop s).take (m - s) ++ ((l.drop m).take (e - m) ++ l.drop e)) := by
    have a1 : l.drop s = (l.drop s).take (m - s) ++ l.drop m := by
      conv => lhs; rw [← List.take_append_drop (m - s) (l.drop s)]
      rw [List.drop_drop, show s + (m - s) = m by omega]
    have a2 : l.drop m = (l.drop m).take (e - m) ++ l.drop e := by
      conv => lhs; rw [← List.take_append_drop (e - m) (l.drop m)]
      rw [List.drop_drop, show m + (e - m) = e by omega]
    rw [← a2, ← a1, List.take_append_drop]
  conv => rhs; rw [e1]
  unfold rot
  refine List.Perm.append_left _ ?_
  rw [← List.append_assoc, ← List.append_assoc]
  exact List.Perm.append_right _ List.perm_append_comm
/-- what holds behind the turn at (s, m, e), where mid = s + (e - m) -/
theorem half (d : α) (key : α → Int) (l : List α) (a m b s e : Nat) (ha : a ≤ s) (h1 : s ≤ m) (h2 : m ≤ e) (h3 : e ≤ b) (hb : b ≤ l.length) (sl : srt d key l a m) (sr : srt d key l m b)
    (c1 : a < s → e < b → key (l.getD (s - 1) d) ≤ key (l.getD e d)) (c2 : m < e → s < m → key (l.getD (e - 1) d) ≤ key (l.getD s d)) :
    srt d key (rot l s m e) a s ∧ srt d key (rot l s m e) s (s + (e - m)) ∧ srt d key (rot l s m e) (s + (e - m)) e ∧ srt d key (rot l s m e) e b ∧ ∀ i k, a ≤ i → i < s + (e - m) → s + (e - m) ≤ k → k < b → key ((rot l s m e).getD i d) ≤ key ((rot l s m e).getD k d) := by
  have g := fun k => rot_get d l s m e k h1 h2 (by omega)
  refine ⟨?_, ?_, ?_, ?_, ?_⟩
  · intro i k hi hik hk
    rw [g i, g k, if_pos (by omega), if_pos hk]
    exact sl i k hi hik (by omega)
  · intro i k hi hik hk
    rw [g i, g k, if_neg (by omega), if_pos (by omega), if_neg (by omega), if_pos hk]
    exact sr _ _ (by omega) (by omega) (by omega)
  · intro i k hi hik hk
    rw [g i, g k, if_neg (by omega), if_neg (by omega), if_pos (by omega), if_neg (by omega), if_neg (by omega), if_pos hk]
    exact sl _ _ (by omega) (by omega) (by omega)
  · intro i k hi hik hk
    rw [g i, g k, if_neg (by omega), if_neg (by omega), if_neg (by omega), if_neg (by omega), if_neg (by omega), if_neg (by omega)]
    exact sr _ _ (by omega) (by omega) (by omega)
  · intro i k hi hi2 hk hk2
    rw [g i, g k]
    rw [if_neg (show ¬ k < s by omega), if_neg (show ¬ k < s + (e - m) by omega)]
    by_cases p1 : i < s
    · rw [if_pos p1]
      by_cases p2 : k < e
      · rw [if_pos p2]
        exact sl _ _ hi (by omega) (by omega)
      · rw [if_neg p2]
        have q1 := sl i (s - 1) hi (by omega) (by omega)
        have q2 := c1 (by omega) (by omega)
        have q3 := sr e k (by omega) (by omega) hk2
        omega
    · rw [if_neg p1, if_pos hi2]
      by_cases p2 : k < e
      · rw [if_pos p2]
        have q1 := sr (i - s + m) (e - 1) (by omega) (by omega) (by omega)
        have q2 := c2 (by omega) (by omega)
        have q3 := sl s (k - (e - m)) ha (by omega) (by omega)
        omega
      · rw [if_neg p2]
        exact sr _ _ (by omega) (by omega) hk2
end Go.Srt
