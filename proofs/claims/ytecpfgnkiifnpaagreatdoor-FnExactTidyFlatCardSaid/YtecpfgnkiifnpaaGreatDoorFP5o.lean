/-
  What is proved here: a flat text line by line, as the program and as the reference read it, in plain words, and that both agree. Condition: none.
-/
import Derived.Test.YtecpfgnkiifnpaaGreatDoorC0o
import Derived.Test.YtecpfgnkiifnpaaGreatDoorFP4b
namespace Go.Flat
open Go.Proofs
set_option linter.unusedSimpArgs false
set_option linter.unnecessarySimpa false
set_option linter.unusedVariables false
/-! ### a line of a text -/
structure Ps where
  c : Cfg
  nc : Nat
  nd : Nat
def cD (l : List Int) (k : Nat) : Int := l.getD k 0
def toC (l : List Int) : Cls := ⟨cD l 0, cD l 1, cD l 2, cD l 3, cD l 4, cD l 5, cD l 6, cD l 7⟩
def toF (l : List Int) : Fil := ⟨cD l 0, cD l 1, cD l 2, cD l 3, cD l 4⟩
def fineW (st : Ps) (w : ByteArray) : Bool :=
  if st.nc = 0 then decide (w = kwConfig) else (decide (w = kwDefault) && decide (st.nd = 0)) || decide (w = kwClass) || decide (w = kwFilter)
def fullW (st : Ps) (w : ByteArray) : Bool :=
  (decide (w = kwClass) && decide (st.c.cls.length = 24)) || (decide (w = kwFilter) && decide (st.c.fil.length = 16))
def cmdR (st : Ps) (r : Rd) : ByteArray × Rd :=
  ((wordR r).1, if fineW st (wordR r).1 = false then stopR 2 (wordR r).2.1 (wordR r).2.2 else if fullW st (wordR r).1 = true then stopR 5 (wordR r).2.1 (wordR r).2.2 else (wordR r).2.2)
/-- the reader behind a name -/
def nameR (r : Rd) : ByteArray × Rd := ((wordR r).1, finR (if nmOk (wordR r).1 = false then stopR 7 (wordR r).2.1 (wordR r).2.2 else (wordR r).2.2))
def goR (st : Ps) (w : ByteArray) (r : Rd) : Ps × Rd :=
  if w = kwConfig then (⟨⟨(nameR r).1, st.c.cls, st.c.fil, st.c.dflt⟩, st.nc + 1, st.nd⟩, (nameR r).2)
  else if w = kwDefault then (⟨⟨st.c.name, st.c.cls, st.c.fil, cD (numbersR [noW] r).1 0⟩, st.nc, st.nd + 1⟩, (numbersR [noW] r).2)
  else if w = kwClass then (⟨⟨st.c.name, st.c.cls ++ [toC (numbersR cwL r).1], st.c.fil, st.c.dflt⟩, st.nc, st.nd⟩, (numbersR cwL r).2)
  else if w = kwFilter then (⟨⟨st.c.name, st.c.cls, st.c.fil ++ [toF (numbersR fwL r).1], st.c.dflt⟩, st.nc, st.nd⟩, (numbersR fwL r).2)
  else (st, r)
def lineR (st : Ps) (r : Rd) : Ps × Rd := if (cmdR st r).2.fk ≠ 0 then (st, (cmdR st r).2) else goR st (cmdR st r).1 (cmdR st r).2
def stepS (st : Ps) (w : ByteArray) (gs : List ByteArray) (l : List Int) : Ps :=
  if w = kwConfig then ⟨⟨gs.getD 0 noW, st.c.cls, st.c.fil, st.c.dflt⟩, st.nc + 1, st.nd⟩
  else if w = kwDefault then ⟨⟨st.c.name, st.c.cls, st.c.fil, cD l 0⟩, st.nc, st.nd + 1⟩
  else if w = kwClass then ⟨⟨st.c.name, st.c.cls ++ [toC l], st.c.fil, st.c.dflt⟩, st.nc, st.nd⟩
  else ⟨⟨st.c.name, st.c.cls, st.c.fil ++ [toF l], st.c.dflt⟩, st.nc, st.nd⟩
def lineS (st : Ps) (ws : List ByteArray) (a : Int) : Rs Ps :=
  match ws with
  | [] => .ok st
  | w :: gs => if fineW st w = false then .er 2 a else if fullW st w = true then .er 5 a else
    match lgR nmOk (wordsW w) gs (a + w.size) [] with
    | .ok l => .ok (stepS st w gs l)
    | .er k b => .er k b
/-- what both give -/
def SameP (p : Ps × Rd) : Rs Ps → Prop
  | .ok st => p.1 = st ∧ p.2.fk = 0
  | .er k a => k ≠ 0 ∧ p.2.fk = k ∧ p.2.fa = a
theorem fin_bad {r : Rd} {k a : Int} (hk : k ≠ 0) (h : r.fk = k ∧ r.fa = a) : (finR r).fk = k ∧ (finR r).fa = a := by
  obtain ⟨e1, e2⟩ := (keep_fin r).bad (by rw [h.1]; exact hk)
  exact ⟨e1.trans h.1, e2.trans h.2⟩
theorem fin_rel {r : Rd} {gs : List ByteArray} {p : Int} (h : Rel r gs p) : (gs = [] ∧ (finR r).fk = 0) ∨ (gs ≠ [] ∧ (finR r).fk = 2 ∧ (finR r).fa = p + 1) := by
  unfold finR
  by_cases e : gs = []
  · obtain ⟨h1, h2⟩ := h.nil e
    rw [if_pos h1]
    exact .inl ⟨e, h.fk⟩
  · obtain ⟨h1, h2, h3⟩ := h.cons e
    rw [if_neg (by simp [h1]), ← h3]
    exact .inr ⟨e, stop_fk h.fk 2 (p + 1)⟩
theorem nm_noW : nmOk noW = false := by decide
theorem name_same {r : Rd} {gs : List ByteArray} {p : Int} (h : Rel r gs p) : (∃ l, lgR nmOk [wA] gs p [] = .ok l ∧ (nameR r).1 = gs.getD 0 noW ∧ (nameR r).2.fk = 0) ∨ ∃ k a, k ≠ 0 ∧ lgR nmOk [wA] gs p [] = .er k a ∧ (nameR r).2.fk = k ∧ (nameR r).2.fa = a := by
  unfold nameR
  cases gs with
  | nil =>
    refine .inr ⟨6, p, by decide, rfl, ?_⟩
    rw [h.none]
    dsimp only
    rw [if_pos (show nmOk ⟨#[]⟩ = false from nm_noW)]
    have h6 := stop_fk h.fk 6 p
    rw [stopR_bad (by rw [h6.1]; decide)]
    exact fin_bad (by decide) h6
  | cons g gs =>
    obtain ⟨h1, h2, h3⟩ := h.word
    rw [h1, h2, lgR_cons]
    by_cases hn : nmOk g = false
    · rw [if_pos ⟨rfl, hn⟩, if_pos hn]
      exact .inr ⟨7, p + 1, by decide, rfl, fin_bad (by decide) (stop_fk h3.fk 7 (p + 1))⟩
    · rw [if_neg (fun e => hn e.2), if_neg (fun e => wNA e.1.symm), if_neg (fun e => wNA e.symm), if_neg (fun e => e.1 rfl), if_neg hn]
      rcases fin_rel h3 with ⟨e, h4⟩ | ⟨e, h4⟩
      · subst e
        exact .inl ⟨[], rfl, rfl, h4⟩
      · cases gs with
        | nil => exact absurd rfl e
        | cons g' gs => exact .inr ⟨2, _, by decide, rfl, h4⟩
theorem fine_kw {st : Ps} {w : ByteArray} (h : fineW st w = true) : w = kwConfig ∨ w = kwDefault ∨ w = kwClass ∨ w = kwFilter := by
  unfold fineW at h
  split at h
  · exact .inl (by simpa using h)
  · simp only [Bool.or_eq_true, Bool.and_eq_true, decide_eq_true_eq] at h
    rcases h with (⟨h, _⟩ | h) | h
    · exact .inr (.inl h)
    · exact .inr (.inr (.inl h))
    · exact .inr (.inr (.inr h))
theorem line_same {st : Ps} {r : Rd} {ws : List ByteArray} {a : Int} (h : Rel r ws (a - 1)) (hne : ws ≠ []) : SameP (lineR st r) (lineS st ws a) := by
  cases ws with
  | nil => exact absurd rfl hne
  | cons w gs =>
    obtain ⟨h1, h2, h3⟩ := h.word
    rw [show a - 1 + 1 = a by omega] at h2 h3
    unfold lineR cmdR lineS
    rw [h1, h2]
    dsimp only
    by_cases hf : fineW st w = false
    · rw [if_pos hf, if_pos hf]
      have h4 := stop_fk h3.fk 2 a
      rw [if_pos (by rw [h4.1]; decide)]
      exact ⟨by decide, h4⟩
    rw [if_neg hf, if_neg hf]
    by_cases hu : fullW st w = true
    · rw [if_pos hu, if_pos hu]
      have h4 := stop_fk h3.fk 5 a
      rw [if_pos (by rw [h4.1]; decide)]
      exact ⟨by decide, h4⟩
    rw [if_neg hu, if_neg hu, if_neg (fun e => e h3.fk)]
    generalize (wordR r).2.2 = r1 at h3
    unfold goR wordsW stepS
    rcases fine_kw (by simpa using hf) with rfl | rfl | rfl | rfl
    · simp only [if_true]
      rcases name_same h3 with ⟨l, e1, e2, e3⟩ | ⟨k, b, e0, e1, e2⟩
      · rw [e1]; exact ⟨by rw [e2], e3⟩
      · rw [e1]; exact ⟨e0, e2⟩
    · simp only [if_neg k_dc, if_true]
      have S := numbers_same nmOk [noW] dw_ok r1 gs _ [] h3
      rw [show specW [noW] = [wN] from rfl] at S
      generalize numbersR [noW] r1 = q at S ⊢
      revert S
      cases lgR nmOk [wN] gs (a + kwDefault.size) [] with
      | ok l => rintro ⟨e1, e2⟩; exact ⟨by rw [e1]; simp, e2⟩
      | er k b => exact fun e => e
    · simp only [if_neg k_cc, if_neg k_cd, if_true]
      have S := numbers_same nmOk cwL cw_ok r1 gs _ [] h3
      generalize numbersR cwL r1 = q at S ⊢
      revert S
      cases lgR nmOk (specW cwL) gs (a + kwClass.size) [] with
      | ok l => rintro ⟨e1, e2⟩; exact ⟨by rw [e1]; simp, e2⟩
      | er k b => exact fun e => e
    · simp only [if_neg k_fc, if_neg k_fd, if_neg k_fl, if_true]
      have S := numbers_same nmOk fwL fw_ok r1 gs _ [] h3
      generalize numbersR fwL r1 = q at S ⊢
      revert S
      cases lgR nmOk (specW fwL) gs (a + kwFilter.size) [] with
      | ok l => rintro ⟨e1, e2⟩; exact ⟨by rw [e1]; simp, e2⟩
      | er k b => exact fun e => e
theorem keep_cmd (st : Ps) (r : Rd) : Keep r (cmdR st r).2 := by
  unfold cmdR
  dsimp only
  split
  · exact (keep_word r).trans (keep_stop _ _ _)
  · split
    · exact (keep_word r).trans (keep_stop _ _ _)
    · exact keep_word r
theorem keep_name (r : Rd) : Keep r (nameR r).2 := by
  unfold nameR
  dsimp only
  split
  · exact ((keep_word r).trans (keep_stop _ _ _)).trans (keep_fin _)
  · exact (keep_word r).trans (keep_fin _)
theorem keep_go (st : Ps) (w : ByteArray) (r : Rd) : Keep r (goR st w r).2 := by
  have k1 := keep_numbers [noW] r
  have k2 := keep_numbers cwL r
  have k3 := keep_numbers fwL r
  unfold goR
  generalize numbersR [noW] r = q1 at k1 ⊢
  generalize numbersR cwL r = q2 at k2 ⊢
  generalize numbersR fwL r = q3 at k3 ⊢
  split
  · exact keep_name r
  · split
    · exact k1
    · split
      · exact k2
      · split
        · exact k3
        · exact Keep.refl r
theorem keep_line (st : Ps) (r : Rd) : Keep r (lineR st r).2 := by
  unfold lineR
  split
  · exact keep_cmd st r
  · exact (keep_cmd st r).trans (keep_go st _ _)
/-! ### a text -/
def linesS (tot : Int) : List ByteArray → Int → Ps → Rs Ps
  | [], _, st => .ok st
  | l :: ls, a, st => if ls = [] then (if l.size = 0 then .ok st else .er 6 tot) else
    match lineS st (splitB 32 l) a with
    | .ok st' => linesS tot ls (a + l.size + 1) st'
    | .er k b => .er k b
def ps0 : Ps := ⟨⟨noW, [], [], 0⟩, 0, 0⟩
def parseS (s : ByteArray) : Rs Ps := if 6000 < s.size then .er 5 0 else if s.size = 0 then .er 6 0 else linesS s.size (splitB 10 s) 0 ps0
/-- what the program's loop gives from a place on -/
def restS (s : ByteArray) (a : Nat) (st : Ps) : Rs Ps := linesS s.size (splitB 10 (s.extract a s.size)) a st
theorem rest_end (s : ByteArray) (st : Ps) : restS s s.size st = .ok st := by
  have e : s.extract s.size s.size = noW := by apply bL_inj; rw [bL_ext, Nat.sub_self, List.take_zero]; rfl
  unfold restS
  rw [e, show splitB 10 noW = [noW] from rfl]
  rfl
theorem rest_none {s : ByteArray} {a : Nat} {st : Ps} (ha : a < s.size) (h : Lib.indexByte (bL (s.extract a s.size)) 10 = -1) : restS s a st = .er 6 s.size := by
  unfold restS
  rw [splitB_last h]
  simp only [linesS, if_true]
  rw [if_neg (by rw [ext_size _ _ _ (Nat.le_refl _)]; omega)]
theorem rest_some {s : ByteArray} {a i : Nat} {st : Ps} (ha : a < s.size) (h : Lib.indexByte (bL (s.extract a s.size)) 10 = (i : Int)) : a + i < s.size ∧
    restS s a st = match lineS st (splitB 32 (s.extract a (a + i))) a with
      | .ok st' => restS s (a + i + 1) st'
      | .er k b => .er k b := by
  have hi : i < s.size - a := by
    rcases index_lt (l := bL (s.extract a s.size)) (c := 10) with e | ⟨j, e, hj⟩
    · rw [e] at h; omega
    · rw [bL_len, ext_size _ _ _ (Nat.le_refl _)] at hj
      rw [e] at h; omega
  refine ⟨by omega, ?_⟩
  have e1 : (s.extract a s.size).extract 0 i = s.extract a (a + i) := by rw [ext_ext _ _ _ _ _ (Nat.zero_le _) (by omega), Nat.add_zero]
  have e2 : (s.extract a s.size).extract (i + 1) (s.extract a s.size).size = s.extract (a + i + 1) s.size := by
    rw [ext_size _ _ _ (Nat.le_refl _), ext_ext _ _ _ _ _ (by omega) (by omega)]
    congr 1; omega
  have hsz : (s.extract a (a + i)).size = i := by rw [ext_size _ _ _ (by omega)]; omega
  unfold restS
  rw [splitB_next h, e1, e2]
  simp only [linesS]
  rw [if_neg (splitB_ne _ _), hsz]
  cases lineS st (splitB 32 (s.extract a (a + i))) a with
  | ok st' => simp only; congr 1
  | er k b => rfl
end Go.Flat
