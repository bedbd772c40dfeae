/-
  What is proved here: strings cut at each occurrence of a byte, in plain words. Condition: none.
  What is proved here: a reader of words and the reading of a list of words, in plain words, and that both agree. Condition: none.
-/
import Derived.Lib.Bytealg
import Derived.Laws.Strings
set_option linter.unusedVariables false
set_option linter.unusedSimpArgs false
set_option linter.unnecessarySimpa false
namespace Go.Flat
def bL (b : ByteArray) : List UInt8 := b.data.toList
def ofL (l : List UInt8) : ByteArray := ⟨l.toArray⟩
@[simp] theorem bL_ofL (l : List UInt8) : bL (ofL l) = l := rfl
@[simp] theorem ofL_bL (b : ByteArray) : ofL (bL b) = b := by cases b; simp [ofL, bL]
theorem bL_inj {a b : ByteArray} (h : bL a = bL b) : a = b := by
  have := congrArg ofL h
  rwa [ofL_bL, ofL_bL] at this
theorem bL_len (b : ByteArray) : (bL b).length = b.size := by
  show b.data.toList.length = b.data.size
  exact Array.length_toList
theorem ofL_size (l : List UInt8) : (ofL l).size = l.length := by rw [← bL_len, bL_ofL]
theorem bL_ext (b : ByteArray) (i j : Nat) : bL (b.extract i j) = ((bL b).drop i).take (j - i) := by
  simp [bL, List.extract_eq_take_drop]
theorem ext_of (b : ByteArray) (i j : Nat) : b.extract i j = ofL (((bL b).drop i).take (j - i)) := by rw [← bL_ext, ofL_bL]
theorem ext_all (b : ByteArray) : b.extract 0 b.size = b := by
  apply bL_inj
  rw [bL_ext, ← bL_len]
  simp
theorem ext_ext (b : ByteArray) (i j p q : Nat) (h : p ≤ q) (hq : q ≤ j - i) : (b.extract i j).extract p q = b.extract (i + p) (i + q) := by
  apply bL_inj
  rw [bL_ext, bL_ext, bL_ext, List.drop_take, List.drop_drop, List.take_take]
  congr 1
  omega
theorem ext_size (b : ByteArray) (i j : Nat) (hj : j ≤ b.size) : (b.extract i j).size = j - i := by
  rw [← bL_len, bL_ext, List.length_take, List.length_drop, bL_len]
  omega
/-- cut at each occurrence -/
def splitL (c : UInt8) : List UInt8 → List (List UInt8)
  | [] => [[]]
  | b :: l => if b = c then [] :: splitL c l else (match splitL c l with
    | [] => [[b]]
    | w :: ws => (b :: w) :: ws)
theorem splitL_ne (c : UInt8) (l : List UInt8) : splitL c l ≠ [] := by
  cases l with
  | nil => simp [splitL]
  | cons b l =>
    simp only [splitL]
    split
    · simp
    · split <;> simp
theorem splitL_pre (c : UInt8) : ∀ (p l : List UInt8), (∀ x ∈ p, x ≠ c) → ∃ w ws, splitL c l = w :: ws ∧ splitL c (p ++ l) = (p ++ w) :: ws
  | [], l, _ => by
    cases h : splitL c l with
    | nil => exact absurd h (splitL_ne c l)
    | cons w ws => exact ⟨w, ws, rfl, by simpa using h⟩
  | b :: p, l, hp => by
    obtain ⟨w, ws, h1, h2⟩ := splitL_pre c p l fun x hx => hp x (by simp [hx])
    refine ⟨w, ws, h1, ?_⟩
    simp only [List.cons_append, splitL]
    rw [if_neg (hp b (by simp)), h2]
theorem splitL_cut (c : UInt8) (p l : List UInt8) (hp : ∀ x ∈ p, x ≠ c) : splitL c (p ++ c :: l) = p :: splitL c l := by
  obtain ⟨w, ws, h1, h2⟩ := splitL_pre c p (c :: l) hp
  simp only [splitL, if_true] at h1
  injection h1 with e1 e2
  rw [h2, ← e1, ← e2, List.append_nil]
theorem splitL_one (c : UInt8) (p : List UInt8) (hp : ∀ x ∈ p, x ≠ c) : splitL c p = [p] := by
  obtain ⟨w, ws, h1, h2⟩ := splitL_pre c p [] hp
  simp only [splitL] at h1
  injection h1 with e1 e2
  rw [List.append_nil] at h2
  rw [h2, ← e1, ← e2, List.append_nil]
/-- the place of the first -/
theorem index_none : ∀ {l : List UInt8} {c : UInt8}, Lib.indexByte l c = -1 ↔ ∀ x ∈ l, x ≠ c
  | [], c => by simp [Lib.indexByte]
  | b :: l, c => by
    have ih := index_none (l := l) (c := c)
    have hg := Lib.indexByte_ge l c
    simp only [Lib.indexByte, List.mem_cons, forall_eq_or_imp]
    by_cases h : b = c
    · subst h; simp
    · have hb : (b == c) = false := by simp [h]
      rw [hb]
      simp only [Bool.false_eq_true, if_false]
      by_cases h2 : Lib.indexByte l c = -1
      · simp [h2, h]
        exact ih.1 h2
      · have h3 : (Lib.indexByte l c == -1) = false := by simp [h2]
        rw [h3]
        simp only [Bool.false_eq_true, if_false]
        constructor
        · intro e; omega
        · intro e; exact absurd (ih.2 e.2) h2
theorem index_some : ∀ {l : List UInt8} {c : UInt8} {i : Nat}, Lib.indexByte l c = (i : Int) → ∃ t, l = l.take i ++ c :: t ∧ t = l.drop (i + 1) ∧ i < l.length ∧ ∀ x ∈ l.take i, x ≠ c
  | [], c, i, h => by simp [Lib.indexByte] at h
  | b :: l, c, i, h => by
    have hg := Lib.indexByte_ge l c
    simp only [Lib.indexByte] at h
    by_cases hb : b = c
    · subst hb
      simp only [beq_self_eq_true, if_true] at h
      have : i = 0 := by omega
      subst this
      exact ⟨l, by simp, by simp, by simp, by simp⟩
    · have hb' : (b == c) = false := by simp [hb]
      rw [hb'] at h
      simp only [Bool.false_eq_true, if_false] at h
      by_cases h2 : Lib.indexByte l c = -1
      · rw [h2] at h; simp at h
      · have h3 : (Lib.indexByte l c == -1) = false := by simp [h2]
        rw [h3] at h
        simp only [Bool.false_eq_true, if_false] at h
        obtain ⟨j, rfl⟩ : ∃ j, i = j + 1 := ⟨i - 1, by omega⟩
        obtain ⟨t, e1, e2, e3, e4⟩ := index_some (l := l) (c := c) (i := j) (by omega)
        refine ⟨t, by simp only [List.take_succ_cons, List.cons_append]; rw [← e1], by simpa using e2, by simp; omega, fun x hx => ?_⟩
        simp only [List.take_succ_cons, List.mem_cons] at hx
        rcases hx with rfl | hx
        · exact hb
        · exact e4 x hx
theorem index_lt {l : List UInt8} {c : UInt8} : Lib.indexByte l c = -1 ∨ ∃ i : Nat, Lib.indexByte l c = (i : Int) ∧ i < l.length := by
  have hg := Lib.indexByte_ge l c
  by_cases h : Lib.indexByte l c = -1
  · exact .inl h
  · obtain ⟨i, hi⟩ := Int.eq_ofNat_of_zero_le (show 0 ≤ Lib.indexByte l c by omega)
    obtain ⟨_, _, _, h3, _⟩ := index_some hi
    exact .inr ⟨i, hi, h3⟩
/-- as strings -/
def splitB (c : UInt8) (b : ByteArray) : List ByteArray := (splitL c (bL b)).map ofL
theorem splitB_ne (c : UInt8) (b : ByteArray) : splitB c b ≠ [] := by simp [splitB, splitL_ne]
theorem splitB_next {c : UInt8} {b : ByteArray} {i : Nat} (h : Lib.indexByte (bL b) c = (i : Int)) : splitB c b = b.extract 0 i :: splitB c (b.extract (i + 1) b.size) := by
  obtain ⟨t, e1, e2, e3, e4⟩ := index_some h
  have h1 : splitL c (bL b) = (bL b).take i :: splitL c ((bL b).drop (i + 1)) := by
    conv => lhs; rw [e1]
    rw [splitL_cut c _ _ e4, e2]
  unfold splitB
  rw [h1, List.map_cons, ext_of, bL_ext]
  congr 2
  rw [List.take_of_length_le]
  rw [List.length_drop, bL_len]
  omega
theorem splitB_last {c : UInt8} {b : ByteArray} (h : Lib.indexByte (bL b) c = -1) : splitB c b = [b] := by
  unfold splitB
  rw [splitL_one c _ (index_none.1 h)]
  simp
/-- how much room the words take -/
def joinLen : List ByteArray → Nat
  | [] => 0
  | [w] => w.size
  | w :: ws => w.size + 1 + joinLen ws
theorem joinLen_cons (w : ByteArray) {ws : List ByteArray} (h : ws ≠ []) : joinLen (w :: ws) = w.size + 1 + joinLen ws := by
  cases ws with
  | nil => exact absurd rfl h
  | cons x ws => rfl
theorem splitL_len (c : UInt8) (l : List UInt8) : joinLen ((splitL c l).map ofL) = l.length := by
  induction l with
  | nil => simp [splitL, joinLen, ofL_size]
  | cons b l ih =>
    simp only [splitL]
    split
    · rw [List.map_cons, joinLen_cons _ (by simp [splitL_ne]), ih, ofL_size, List.length_cons, List.length_nil]
      omega
    · cases h : splitL c l with
      | nil => exact absurd h (splitL_ne c l)
      | cons w ws =>
        rw [h] at ih
        simp only [List.map_cons, List.length_cons] at ih ⊢
        cases ws with
        | nil => simp only [List.map_nil, joinLen, ofL_size, List.length_cons] at ih ⊢; omega
        | cons x ws => simp only [List.map_cons, joinLen, ofL_size, List.length_cons] at ih ⊢; omega
theorem splitB_len (c : UInt8) (b : ByteArray) : joinLen (splitB c b) = b.size := by
  unfold splitB
  rw [splitL_len, bL_len]
end Go.Flat
namespace Go.Flat
/-! ### numbers -/
def digV (b : UInt8) : Nat := if 48 ≤ b.toNat ∧ b.toNat ≤ 57 then b.toNat - 48 else if 97 ≤ b.toNat ∧ b.toNat ≤ 102 then b.toNat - 97 + 10 else 99
/-- the number that goes on from n, or none if a digit is none or it gets too great -/
def dgN (base most : Nat) : List UInt8 → Nat → Option Nat
  | [], n => some n
  | b :: l, n => if base ≤ digV b then none else if most < n * base + digV b then none else dgN base most l (n * base + digV b)
def numD (base most : Nat) (l : List UInt8) : Option Nat := if l = [] ∨ (l.head? = some 48 ∧ 1 < l.length) then none else dgN base most l 0
def optI : Option Nat → Int
  | some n => (n : Int)
  | none => -1
def unitN : List UInt8 → Nat
  | l => if l.getLast? = some 109 then 1000000 else if l.getLast? = some 107 then 1000 else 1
/-- the value of a decimal text, or -1 -/
def rdNum (l : List UInt8) : Int :=
  if unitN l = 1 then optI (numD 10 1000000000 l) else
  match numD 10 (1000000000 / unitN l) l.dropLast with
  | some n => if n = 0 then -1 else ((n * unitN l : Nat) : Int)
  | none => -1
def isHexL (l : List UInt8) : Bool := decide (l.take 2 = [48, 120])
def rdHex (l : List UInt8) : Int := if isHexL l = true then optI (numD 16 65535 (l.drop 2)) else -1
def rdAnyL (l : List UInt8) : Int := if isHexL l = true then rdHex l else rdNum l
def rdAny (b : ByteArray) : Int := rdAnyL (bL b)
/-! ### the reader -/
structure Rd where
  s : ByteArray
  pos : Nat
  en : Nat
  dn : Bool
  fk : Int
  fa : Int
def stopR (k a : Int) (r : Rd) : Rd := if r.fk = 0 then { r with fk := k, fa := a } else r
def wordR (r : Rd) : ByteArray × Nat × Rd :=
  if r.dn = true then (⟨#[]⟩, r.pos, stopR 6 r.en r)
  else if Lib.indexByte (bL (r.s.extract r.pos r.en)) 32 < 0 then (r.s.extract r.pos r.en, r.pos, { r with pos := r.en, dn := true })
  else (r.s.extract r.pos (r.pos + (Lib.indexByte (bL (r.s.extract r.pos r.en)) 32).toNat), r.pos, { r with pos := r.pos + (Lib.indexByte (bL (r.s.extract r.pos r.en)) 32).toNat + 1 })
def numR (r : Rd) : Int × Rd := if rdAny (wordR r).1 < 0 then (0, stopR 3 (wordR r).2.1 (wordR r).2.2) else (rdAny (wordR r).1, (wordR r).2.2)
def kwR (want : ByteArray) (r : Rd) : Rd := if want.size = 0 then r else if (wordR r).1 = want then (wordR r).2.2 else stopR 2 (wordR r).2.1 (wordR r).2.2
def numsR : List ByteArray → Rd → List Int × Rd
  | [], r => ([], r)
  | w :: ws, r => ((numR (kwR w r)).1 :: (numsR ws (numR (kwR w r)).2).1, (numsR ws (numR (kwR w r)).2).2)
def finR (r : Rd) : Rd := if r.dn = true then r else stopR 2 r.pos r
def numbersR (ws : List ByteArray) (r : Rd) : List Int × Rd := ((numsR ws r).1, finR (numsR ws r).2)
/-! ### the list of words -/
inductive Rs (α : Type) where
  | ok (a : α)
  | er (k a : Int)
def wN : ByteArray := ⟨#[78]⟩
def wA : ByteArray := ⟨#[65]⟩
/-- the rest of the words against what is wanted; place is behind the word read last -/
def lgR (nm : ByteArray → Bool) : List ByteArray → List ByteArray → Int → List Int → Rs (List Int)
  | [], [], _, out => .ok out
  | [], _ :: _, p, _ => .er 2 (p + 1)
  | _ :: _, [], p, _ => .er 6 p
  | want :: wants, got :: ws, p, out =>
    if want = wA ∧ nm got = false then .er 7 (p + 1)
    else if want = wN ∧ rdAny got < 0 then .er 3 (p + 1)
    else if want = wN then lgR nm wants ws (p + 1 + got.size) (out ++ [rdAny got])
    else if want ≠ wA ∧ got ≠ want then .er 2 (p + 1)
    else lgR nm wants ws (p + 1 + got.size) out
theorem wNA : wN ≠ wA := fun e => by have := congrArg bL e; simp [bL, wN, wA] at this
def specW (ws : List ByteArray) : List ByteArray := ws.flatMap fun w => if w.size = 0 then [wN] else [w, wN]
/-! ### both -/
structure Rel (r : Rd) (ws : List ByteArray) (p : Int) : Prop where
  fk : r.fk = 0
  le : r.pos ≤ r.en
  lt : r.en ≤ r.s.size
  nil : ws = [] → r.dn = true ∧ p = r.en
  cons : ws ≠ [] → r.dn = false ∧ splitB 32 (r.s.extract r.pos r.en) = ws ∧ p + 1 = r.pos
theorem stopR_bad {r : Rd} (h : r.fk ≠ 0) (k a : Int) : stopR k a r = r := by simp [stopR, h]
theorem wordR_keep (r : Rd) : (wordR r).2.2.s = r.s ∧ (wordR r).2.2.en = r.en ∧ (r.fk ≠ 0 → (wordR r).2.2.fk = r.fk ∧ (wordR r).2.2.fa = r.fa) := by
  unfold wordR
  split
  · unfold stopR
    split
    · exact ⟨rfl, rfl, fun h => absurd (by assumption) h⟩
    · exact ⟨rfl, rfl, fun _ => ⟨rfl, rfl⟩⟩
  · split <;> exact ⟨rfl, rfl, fun _ => ⟨rfl, rfl⟩⟩
theorem wordR_le {r : Rd} (h : r.pos ≤ r.en) (hs : r.en ≤ r.s.size) : (wordR r).2.2.pos ≤ (wordR r).2.2.en ∧ (wordR r).2.1 ≤ r.en ∧ (wordR r).2.2.pos ≤ r.en := by
  unfold wordR
  split
  · unfold stopR
    split <;> exact ⟨h, h, h⟩
  · split
    · exact ⟨Nat.le_refl _, h, Nat.le_refl _⟩
    · rename_i h1
      rcases index_lt (l := bL (r.s.extract r.pos r.en)) (c := 32) with e | ⟨i, e, hi⟩
      · rw [e] at h1; omega
      · rw [bL_len, ext_size _ _ _ hs] at hi
        simp only [e, Int.toNat_natCast]
        omega
theorem stop_keep (k a : Int) (r : Rd) : (stopR k a r).s = r.s ∧ (stopR k a r).en = r.en ∧ (stopR k a r).pos = r.pos ∧ (stopR k a r).dn = r.dn ∧ (r.fk ≠ 0 → (stopR k a r).fk = r.fk ∧ (stopR k a r).fa = r.fa) := by
  unfold stopR
  split
  · exact ⟨rfl, rfl, rfl, rfl, fun h => absurd (by assumption) h⟩
  · exact ⟨rfl, rfl, rfl, rfl, fun _ => ⟨rfl, rfl⟩⟩
/-- what keeps: the text, the end, order of places, a fault -/
structure Keep (r r' : Rd) : Prop where
  s : r'.s = r.s
  en : r'.en = r.en
  le : r.pos ≤ r.en → r.en ≤ r.s.size → r'.pos ≤ r'.en
  bad : r.fk ≠ 0 → r'.fk = r.fk ∧ r'.fa = r.fa
theorem Keep.refl (r : Rd) : Keep r r := ⟨rfl, rfl, fun h _ => h, fun _ => ⟨rfl, rfl⟩⟩
theorem Keep.trans {a b c : Rd} (h : Keep a b) (k : Keep b c) : Keep a c :=
  ⟨k.s.trans h.s, k.en.trans h.en, fun h1 h2 => k.le (h.le h1 h2) (by rw [h.en, h.s]; exact h2), fun h1 => by
    obtain ⟨e1, e2⟩ := h.bad h1
    obtain ⟨e3, e4⟩ := k.bad (by rw [e1]; exact h1)
    exact ⟨e3.trans e1, e4.trans e2⟩⟩
theorem keep_word (r : Rd) : Keep r (wordR r).2.2 := ⟨(wordR_keep r).1, (wordR_keep r).2.1, fun h1 h2 => (wordR_le h1 h2).1, (wordR_keep r).2.2⟩
theorem keep_stop (k a : Int) (r : Rd) : Keep r (stopR k a r) := by
  obtain ⟨h1, h2, h3, h4, h5⟩ := stop_keep k a r
  exact ⟨h1, h2, fun h _ => by rw [h3, h2]; exact h, h5⟩
theorem keep_num (r : Rd) : Keep r (numR r).2 := by
  unfold numR
  split
  · exact (keep_word r).trans (keep_stop _ _ _)
  · exact keep_word r
theorem keep_kw (w : ByteArray) (r : Rd) : Keep r (kwR w r) := by
  unfold kwR
  split
  · exact Keep.refl r
  · split
    · exact keep_word r
    · exact (keep_word r).trans (keep_stop _ _ _)
theorem keep_nums : ∀ (ws : List ByteArray) (r : Rd), Keep r (numsR ws r).2
  | [], r => Keep.refl r
  | w :: ws, r => ((keep_kw w r).trans (keep_num _)).trans (keep_nums ws _)
theorem keep_fin (r : Rd) : Keep r (finR r) := by
  unfold finR
  split
  · exact Keep.refl r
  · exact keep_stop _ _ _
theorem keep_numbers (ws : List ByteArray) (r : Rd) : Keep r (numbersR ws r).2 := (keep_nums ws r).trans (keep_fin _)
theorem numsR_len : ∀ (ws : List ByteArray) (r : Rd), (numsR ws r).1.length = ws.length
  | [], r => rfl
  | w :: ws, r => by simp [numsR, numsR_len ws]
theorem Rel.word {r : Rd} {w : ByteArray} {ws : List ByteArray} {p : Int} (h : Rel r (w :: ws) p) : (wordR r).1 = w ∧ ((wordR r).2.1 : Int) = p + 1 ∧ Rel (wordR r).2.2 ws (p + 1 + w.size) := by
  obtain ⟨h1, h2, h3⟩ := h.cons (by simp)
  have hsz := ext_size r.s r.pos r.en h.lt
  have hle := h.le
  have hlt := h.lt
  unfold wordR
  rw [if_neg (by simp [h1])]
  rcases index_lt (l := bL (r.s.extract r.pos r.en)) (c := 32) with e | ⟨i, e, hi⟩
  · rw [if_pos (by omega)]
    rw [splitB_last e] at h2
    injection h2 with e1 e2
    subst e2
    refine ⟨e1, by simp only; omega, h.fk, Nat.le_refl _, h.lt, fun _ => ⟨rfl, ?_⟩, fun hc => absurd rfl hc⟩
    rw [← e1, hsz]
    show p + 1 + ((r.en - r.pos : Nat) : Int) = (r.en : Int)
    omega
  · rw [if_neg (by omega)]
    rw [bL_len, hsz] at hi
    rw [splitB_next e, hsz] at h2
    injection h2 with e1 e2
    have e3 : r.s.extract r.pos (r.pos + i) = w := by
      rw [← e1, ext_ext _ _ _ _ _ (Nat.zero_le _) (by omega), Nat.add_zero]
    simp only [e, Int.toNat_natCast]
    refine ⟨e3, by omega, h.fk, by simp only; omega, h.lt, fun hc => ?_, fun _ => ⟨h1, ?_, ?_⟩⟩
    · subst hc
      exact absurd e2 (splitB_ne _ _)
    · rw [← e2, ext_ext _ _ _ _ _ (by omega) (by omega)]
      congr 2
      simp only
      omega
    · rw [← e3, ext_size _ _ _ (by omega)]
      simp only
      omega
theorem Rel.none {r : Rd} {p : Int} (h : Rel r [] p) : wordR r = (⟨#[]⟩, r.pos, stopR 6 p r) := by
  obtain ⟨h1, h2⟩ := h.nil rfl
  unfold wordR
  rw [if_pos h1, h2]
theorem stop_fk {r : Rd} (h : r.fk = 0) (k a : Int) : (stopR k a r).fk = k ∧ (stopR k a r).fa = a := by simp [stopR, h]
theorem kw_bad {r : Rd} (w : ByteArray) {k a : Int} (hk : k ≠ 0) (h : r.fk = k ∧ r.fa = a) : (kwR w r).fk = k ∧ (kwR w r).fa = a := by
  obtain ⟨e1, e2⟩ := (keep_kw w r).bad (by rw [h.1]; exact hk)
  exact ⟨e1.trans h.1, e2.trans h.2⟩
theorem num_bad {r : Rd} {k a : Int} (hk : k ≠ 0) (h : r.fk = k ∧ r.fa = a) : (numR r).2.fk = k ∧ (numR r).2.fa = a := by
  obtain ⟨e1, e2⟩ := (keep_num r).bad (by rw [h.1]; exact hk)
  exact ⟨e1.trans h.1, e2.trans h.2⟩
theorem numbers_bad {r : Rd} (ws : List ByteArray) {k a : Int} (hk : k ≠ 0) (h : r.fk = k ∧ r.fa = a) : (numbersR ws r).2.fk = k ∧ (numbersR ws r).2.fa = a := by
  obtain ⟨e1, e2⟩ := (keep_numbers ws r).bad (by rw [h.1]; exact hk)
  exact ⟨e1.trans h.1, e2.trans h.2⟩
theorem rdAny_nil : rdAny ⟨#[]⟩ < 0 := by decide
theorem numbers_cons (w : ByteArray) (ws : List ByteArray) (r : Rd) : numbersR (w :: ws) r = ((numR (kwR w r)).1 :: (numbersR ws (numR (kwR w r)).2).1, (numbersR ws (numR (kwR w r)).2).2) := rfl
/-- what both give -/
def Same (r' : List Int × Rd) (out : List Int) : Rs (List Int) → Prop
  | .ok l => l = out ++ r'.1 ∧ r'.2.fk = 0
  | .er k a => k ≠ 0 ∧ r'.2.fk = k ∧ r'.2.fa = a
theorem same_num (nm : ByteArray → Bool) (ws : List ByteArray)
    (ih : ∀ (r : Rd) (gs : List ByteArray) (p : Int) (out : List Int), Rel r gs p → Same (numbersR ws r) out (lgR nm (specW ws) gs p out))
    (r : Rd) (gs : List ByteArray) (p : Int) (out : List Int) (h : Rel r gs p) :
    Same ((numR r).1 :: (numbersR ws (numR r).2).1, (numbersR ws (numR r).2).2) out (lgR nm (wN :: specW ws) gs p out) := by
  cases gs with
  | nil =>
    have hb : (numR r).2.fk = 6 ∧ (numR r).2.fa = p := by
      unfold numR
      rw [h.none, if_pos rdAny_nil]
      have h6 := stop_fk h.fk 6 p
      rw [stopR_bad (by rw [h6.1]; decide)]
      exact h6
    exact ⟨by decide, numbers_bad ws (by decide) hb⟩
  | cons g gs =>
    obtain ⟨h1, h2, h3⟩ := h.word
    simp only [lgR]
    rw [if_neg (fun hc => wNA hc.1)]
    simp only [true_and, if_true]
    by_cases hv : rdAny g < 0
    · rw [if_pos hv]
      have hb : (numR r).2.fk = 3 ∧ (numR r).2.fa = p + 1 := by
        unfold numR
        rw [h1, if_pos hv, h2]
        exact stop_fk h3.fk 3 (p + 1)
      exact ⟨by decide, numbers_bad ws (by decide) hb⟩
    · rw [if_neg hv]
      have e : numR r = (rdAny g, (wordR r).2.2) := by
        unfold numR
        rw [h1, if_neg hv]
      rw [e]
      have := ih (wordR r).2.2 gs (p + 1 + g.size) (out ++ [rdAny g]) h3
      revert this
      cases lgR nm (specW ws) gs (p + 1 + g.size) (out ++ [rdAny g]) with
      | ok l =>
        rintro ⟨e1, e2⟩
        exact ⟨by rw [e1]; simp, e2⟩
      | er k a => exact fun h => h
theorem numbers_same (nm : ByteArray → Bool) : ∀ (ws : List ByteArray), (∀ w ∈ ws, w ≠ wN ∧ w ≠ wA) → ∀ (r : Rd) (gs : List ByteArray) (p : Int) (out : List Int), Rel r gs p → Same (numbersR ws r) out (lgR nm (specW ws) gs p out)
  | [], _, r, gs, p, out, h => by
    cases gs with
    | nil =>
      obtain ⟨h1, h2⟩ := h.nil rfl
      refine ⟨by simp [numbersR, numsR], ?_⟩
      show (finR r).fk = 0
      unfold finR
      rw [if_pos h1]
      exact h.fk
    | cons g gs =>
      obtain ⟨h1, h2, h3⟩ := h.cons (by simp)
      refine ⟨by decide, ?_⟩
      show (finR r).fk = 2 ∧ (finR r).fa = p + 1
      unfold finR
      rw [if_neg (by simp [h1]), ← h3]
      exact stop_fk h.fk 2 (p + 1)
  | w :: ws, hw, r, gs, p, out, h => by
    have ih := numbers_same nm ws fun x hx => hw x (by simp [hx])
    rw [numbers_cons]
    by_cases hz : w.size = 0
    · have e1 : kwR w r = r := by simp [kwR, hz]
      have e2 : specW (w :: ws) = wN :: specW ws := by simp only [specW, List.flatMap_cons, if_pos hz]; rfl
      rw [e1, e2]
      exact same_num nm ws ih r gs p out h
    · have e2 : specW (w :: ws) = w :: wN :: specW ws := by simp only [specW, List.flatMap_cons, if_neg hz]; rfl
      obtain ⟨hn, ha⟩ := hw w (by simp)
      rw [e2]
      cases gs with
      | nil =>
        have hb : (kwR w r).fk = 6 ∧ (kwR w r).fa = p := by
          unfold kwR
          rw [if_neg hz, h.none, if_neg (fun e : (⟨#[]⟩ : ByteArray) = w => hz (by rw [← e]; rfl))]
          have h6 := stop_fk h.fk 6 p
          rw [stopR_bad (by rw [h6.1]; decide)]
          exact h6
        exact ⟨by decide, numbers_bad ws (by decide) (num_bad (by decide) hb)⟩
      | cons g gs =>
        obtain ⟨h1, h2, h3⟩ := h.word
        simp only [lgR]
        rw [if_neg (fun hc => ha hc.1), if_neg (fun hc => hn hc.1), if_neg hn]
        by_cases hg : g = w
        · rw [if_neg (fun hc => hc.2 hg)]
          have e1 : kwR w r = (wordR r).2.2 := by
            unfold kwR
            rw [if_neg hz, h1, if_pos hg]
          rw [e1]
          exact same_num nm ws ih _ gs _ out h3
        · rw [if_pos ⟨ha, hg⟩]
          have hb : (kwR w r).fk = 2 ∧ (kwR w r).fa = p + 1 := by
            unfold kwR
            rw [if_neg hz, h1, if_neg hg, h2]
            exact stop_fk h3.fk 2 (p + 1)
          exact ⟨by decide, numbers_bad ws (by decide) (num_bad (by decide) hb)⟩
/-- at the beginning of a line -/
theorem rel_begin (s : ByteArray) (a e : Nat) (h : a ≤ e) (hs : e ≤ s.size) : Rel ⟨s, a, e, false, 0, 0⟩ (splitB 32 (s.extract a e)) ((a : Int) - 1) :=
  ⟨rfl, h, hs, fun hc => absurd hc (splitB_ne _ _), fun _ => ⟨rfl, rfl, by simp only; omega⟩⟩
end Go.Flat
