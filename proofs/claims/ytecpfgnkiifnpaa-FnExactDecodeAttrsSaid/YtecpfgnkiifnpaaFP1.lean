/-
  What is proved here: strings cut at each occurrence of a byte, in plain words. Condition: none.
-/
import Derived.Lib.Bytealg
import Derived.Laws.Strings
namespace Go.Flat
def bL (b : ByteArray) : List UInt8 := b.data.toList
def ofL (l : List UInt8) : ByteArray := ⟨l.toArray⟩
@[simp] theorem bL_ofL (l : List UInt8) : bL (ofL l) = l := rfl
@[simp] theorem ofL_bL (b : ByteArray) : ofL (bL b) = b := by cases b; simp [ofL, bL]
theorem bL_inj {a b : ByteArray} (h : bL a = bL b) : a = b := by
  have := congrArg ofL h
  rwa [ofL_bL, ofL_bL] at this
theorem bL_len (b : ByteArray) : (bL b).length = b.size := by
  show b.data.toList.length = b.data.size
  exact Array.length_toList
theorem ofL_size (l : List UInt8) : (ofL l).size = l.length := by rw [← bL_len, bL_ofL]
theorem bL_ext (b : ByteArray) (i j : Nat) : bL (b.extract i j) = ((bL b).drop i).take (j - i) := by
  simp [bL, List.extract_eq_take_drop]
theorem ext_of (b : ByteArray) (i j : Nat) : b.extract i j = ofL (((bL b).drop i).take (j - i)) := by rw [← bL_ext, ofL_bL]
theorem ext_all (b : ByteArray) : b.extract 0 b.size = b := by
  apply bL_inj
  rw [bL_ext, ← bL_len]
  simp
theorem ext_ext (b : ByteArray) (i j p q : Nat) (h : p ≤ q) (hq : q ≤ j - i) : (b.extract i j).extract p q = b.extract (i + p) (i + q) := by
  apply bL_inj
  rw [bL_ext, bL_ext, bL_ext, List.drop_take, List.drop_drop, List.take_take]
  congr 1
  omega
theorem ext_size (b : ByteArray) (i j : Nat) (hj : j ≤ b.size) : (b.extract i j).size = j - i := by
  rw [← bL_len, bL_ext, List.length_take, List.length_drop, bL_len]
  omega
/-- cut at each occurrence -/
def splitL (c : UInt8) : List UInt8 → List (List UInt8)
  | [] => [[]]
  | b :: l => if b = c then [] :: splitL c l else (match splitL c l with
    | [] => [[b]]
    | w :: ws => (b :: w) :: ws)
theorem splitL_ne (c : UInt8) (l : List UInt8) : splitL c l ≠ [] := by
  cases l with
  | nil => simp [splitL]
  | cons b l =>
    simp only [splitL]
    split
    · simp
    · split <;> simp
theorem splitL_pre (c : UInt8) : ∀ (p l : List UInt8), (∀ x ∈ p, x ≠ c) → ∃ w ws, splitL c l = w :: ws ∧ splitL c (p ++ l) = (p ++ w) :: ws
  | [], l, _ => by
    cases h : splitL c l with
    | nil => exact absurd h (splitL_ne c l)
    | cons w ws => exact ⟨w, ws, rfl, by simpa using h⟩
  | b :: p, l, hp => by
    obtain ⟨w, ws, h1, h2⟩ := splitL_pre c p l fun x hx => hp x (by simp [hx])
    refine ⟨w, ws, h1, ?_⟩
    simp only [List.cons_append, splitL]
    rw [if_neg (hp b (by simp)), h2]
theorem splitL_cut (c : UInt8) (p l : List UInt8) (hp : ∀ x ∈ p, x ≠ c) : splitL c (p ++ c :: l) = p :: splitL c l := by
  obtain ⟨w, ws, h1, h2⟩ := splitL_pre c p (c :: l) hp
  simp only [splitL, if_true] at h1
  injection h1 with e1 e2
  rw [h2, ← e1, ← e2, List.append_nil]
theorem splitL_one (c : UInt8) (p : List UInt8) (hp : ∀ x ∈ p, x ≠ c) : splitL c p = [p] := by
  obtain ⟨w, ws, h1, h2⟩ := splitL_pre c p [] hp
  simp only [splitL] at h1
  injection h1 with e1 e2
  rw [List.append_nil] at h2
  rw [h2, ← e1, ← e2, List.append_nil]
/-- the place of the first -/
theorem index_none : ∀ {l : List UInt8} {c : UInt8}, Lib.indexByte l c = -1 ↔ ∀ x ∈ l, x ≠ c
  | [], c => by simp [Lib.indexByte]
  | b :: l, c => by
    have ih := index_none (l := l) (c := c)
    have hg := Lib.indexByte_ge l c
    simp only [Lib.indexByte, List.mem_cons, forall_eq_or_imp]
    by_cases h : b = c
    · subst h; simp
    · have hb : (b == c) = false := by simp [h]
      rw [hb]
      simp only [Bool.false_eq_true, if_false]
      by_cases h2 : Lib.indexByte l c = -1
      · simp [h2, h]
        exact ih.1 h2
      · have h3 : (Lib.indexByte l c == -1) = false := by simp [h2]
        rw [h3]
        simp only [Bool.false_eq_true, if_false]
        constructor
        · intro e; omega
        · intro e; exact absurd (ih.2 e.2) h2
theorem index_some : ∀ {l : List UInt8} {c : UInt8} {i : Nat}, Lib.indexByte l c = (i : Int) → ∃ t, l = l.take i ++ c :: t ∧ t = l.drop (i + 1) ∧ i < l.length ∧ ∀ x ∈ l.take i, x ≠ c
  | [], c, i, h => by simp [Lib.indexByte] at h
  | b :: l, c, i, h => by
    have hg := Lib.indexByte_ge l c
    simp only [Lib.indexByte] at h
    by_cases hb : b = c
    · subst hb
      simp only [beq_self_eq_true, if_true] at h
      have : i = 0 := by omega
      subst this
      exact ⟨l, by simp, by simp, by simp, by simp⟩
    · have hb' : (b == c) = false := by simp [hb]
      rw [hb'] at h
      simp only [Bool.false_eq_true, if_false] at h
      by_cases h2 : Lib.indexByte l c = -1
      · rw [h2] at h; simp at h
      · have h3 : (Lib.indexByte l c == -1) = false := by simp [h2]
        rw [h3] at h
        simp only [Bool.false_eq_true, if_false] at h
        obtain ⟨j, rfl⟩ : ∃ j, i = j + 1 := ⟨i - 1, by omega⟩
        obtain ⟨t, e1, e2, e3, e4⟩ := index_some (l := l) (c := c) (i := j) (by omega)
        refine ⟨t, by simp only [List.take_succ_cons, List.cons_append]; rw [← e1], by simpa using e2, by simp; omega, fun x hx => ?_⟩
        simp only [List.take_succ_cons, List.mem_cons] at hx
        rcases hx with rfl | hx
        · exact hb
        · exact e4 x hx
theorem index_lt {l : List UInt8} {c : UInt8} : Lib.indexByte l c = -1 ∨ ∃ i : Nat, Lib.indexByte l c = (i : Int) ∧ i < l.length := by
  have hg := Lib.indexByte_ge l c
  by_cases h : Lib.indexByte l c = -1
  · exact .inl h
  · obtain ⟨i, hi⟩ := Int.eq_ofNat_of_zero_le (show 0 ≤ Lib.indexByte l c by omega)
    obtain ⟨_, _, _, h3, _⟩ := index_some hi
    exact .inr ⟨i, hi, h3⟩
/-- as strings -/
def splitB (c : UInt8) (b : ByteArray) : List ByteArray := (splitL c (bL b)).map ofL
theorem splitB_ne (c : UInt8) (b : ByteArray) : splitB c b ≠ [] := by simp [splitB, splitL_ne]
theorem splitB_next {c : UInt8} {b : ByteArray} {i : Nat} (h : Lib.indexByte (bL b) c = (i : Int)) : splitB c b = b.extract 0 i :: splitB c (b.extract (i + 1) b.size) := by
  obtain ⟨t, e1, e2, e3, e4⟩ := index_some h
  have h1 : splitL c (bL b) = (bL b).take i :: splitL c ((bL b).drop (i + 1)) := by
    conv => lhs; rw [e1]
    rw [splitL_cut c _ _ e4, e2]
  unfold splitB
  rw [h1, List.map_cons, ext_of, bL_ext]
  congr 2
  rw [List.take_of_length_le]
  rw [List.length_drop, bL_len]
  omega
theorem splitB_last {c : UInt8} {b : ByteArray} (h : Lib.indexByte (bL b) c = -1) : splitB c b = [b] := by
  unfold splitB
  rw [splitL_one c _ (index_none.1 h)]
  simp
/-- how much room the words take -/
def joinLen : List ByteArray → Nat
  | [] => 0
  | [w] => w.size
  | w :: ws => w.size + 1 + joinLen ws
theorem joinLen_cons (w : ByteArray) {ws : List ByteArray} (h : ws ≠ []) : joinLen (w :: ws) = w.size + 1 + joinLen ws := by
  cases ws with
  | nil => exact absurd rfl h
  | cons x ws => rfl
theorem splitL_len (c : UInt8) (l : List UInt8) : joinLen ((splitL c l).map ofL) = l.length := by
  induction l with
  | nil => simp [splitL, joinLen, ofL_size]
  | cons b l ih =>
    simp only [splitL]
    split
    · rw [List.map_cons, joinLen_cons _ (by simp [splitL_ne]), ih, ofL_size, List.length_cons, List.length_nil]
      omega
    · cases h : splitL c l with
      | nil => exact absurd h (splitL_ne c l)
      | cons w ws =>
        rw [h] at ih
        simp only [List.map_cons, List.length_cons] at ih ⊢
        cases ws with
        | nil => simp only [List.map_nil, joinLen, ofL_size, List.length_cons] at ih ⊢; omega
        | cons x ws => simp only [List.map_cons, joinLen, ofL_size, List.length_cons] at ih ⊢; omega
theorem splitB_len (c : UInt8) (b : ByteArray) : joinLen (splitB c b) = b.size := by
  unfold splitB
  rw [splitL_len, bL_len]
end Go.Flat
