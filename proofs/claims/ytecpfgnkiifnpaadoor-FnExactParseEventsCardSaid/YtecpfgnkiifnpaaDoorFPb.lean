/-
  What is proved here: how splitting goes on, byte by byte. Condition: none.
  What is proved here: a line of its own as the program and as the reference read it, in plain words, and that both agree. Condition: none.
-/
import Derived.Test.YtecpfgnkiifnpaaDoorFPa
set_option linter.unusedVariables false
set_option linter.unusedSimpArgs false
set_option linter.unnecessarySimpa false
namespace Go.Flat
/-- no byte c from f to k -/
def noB (c : UInt8) (s : ByteArray) (f k : Nat) : Prop := ∀ i, f ≤ i → i < k → (bL s)[i]? ≠ some c
theorem noB_refl (c : UInt8) (s : ByteArray) (f : Nat) : noB c s f f := fun i h1 h2 => by omega
theorem noB_succ {c : UInt8} {s : ByteArray} {f k : Nat} (h : noB c s f k) (hk : (bL s)[k]? ≠ some c) : noB c s f (k + 1) := fun i h1 h2 => by
  by_cases e : i = k
  · rw [e]; exact hk
  · exact h i h1 (by omega)
theorem bL_tail (s : ByteArray) (f : Nat) : bL (s.extract f s.size) = (bL s).drop f := by
  rw [bL_ext, List.take_of_length_le (by rw [List.length_drop, bL_len]; omega)]
theorem noB_mem {c : UInt8} {s : ByteArray} {f k : Nat} (h : noB c s f k) : ∀ x ∈ ((bL s).drop f).take (k - f), x ≠ c := by
  intro x hx e
  obtain ⟨i, hi, e2⟩ := List.mem_iff_getElem.1 hx
  have hl : i < k - f := by rw [List.length_take] at hi; omega
  rw [List.getElem_take, List.getElem_drop] at e2
  exact h (f + i) (by omega) (by omega) (by rw [← e, ← e2]; exact List.getElem?_eq_getElem _)
theorem split_at {c : UInt8} {s : ByteArray} {f k : Nat} (hf : f ≤ k) (hk : k < s.size) (hc : (bL s)[k]? = some c) (h : noB c s f k) : splitB c (s.extract f s.size) = s.extract f k :: splitB c (s.extract (k + 1) s.size) := by
  have hkl : k < (bL s).length := by rw [bL_len]; exact hk
  rw [List.getElem?_eq_getElem hkl] at hc
  injection hc with hc
  have e : (bL s).drop f = ((bL s).drop f).take (k - f) ++ c :: (bL s).drop (k + 1) := by
    have e2 := (List.take_append_drop (k - f) ((bL s).drop f)).symm
    rw [List.drop_drop, show f + (k - f) = k by omega, List.drop_eq_getElem_cons hkl, hc] at e2
    exact e2
  unfold splitB
  rw [bL_tail, bL_tail, e, splitL_cut c _ _ (noB_mem h), List.map_cons, ext_of]
theorem split_end {c : UInt8} {s : ByteArray} {f : Nat} (h : noB c s f s.size) : splitB c (s.extract f s.size) = [s.extract f s.size] := by
  have hm := noB_mem h
  rw [List.take_of_length_le (by rw [List.length_drop, bL_len]; omega)] at hm
  unfold splitB
  rw [bL_tail, splitL_one c _ hm, List.map_singleton, ← bL_tail, ofL_bL]
end Go.Flat
namespace Go.Flat
def kwConfig : ByteArray := ⟨#[99, 111, 110, 102, 105, 103]⟩
def kwDefault : ByteArray := ⟨#[100, 101, 102, 97, 117, 108, 116]⟩
def kwClass : ByteArray := ⟨#[99, 108, 97, 115, 115]⟩
def kwFilter : ByteArray := ⟨#[102, 105, 108, 116, 101, 114]⟩
def noW : ByteArray := ⟨#[]⟩
def fwL : List ByteArray := [noW, ⟨#[102, 105, 101, 108, 100]⟩, ⟨#[109, 97, 115, 107]⟩, ⟨#[118, 97, 108, 117, 101]⟩, ⟨#[116, 111]⟩]
def cwL : List ByteArray := [noW, noW, ⟨#[114, 97, 116, 101]⟩, ⟨#[99, 101, 105, 108]⟩, ⟨#[98, 117, 114, 115, 116]⟩, ⟨#[99, 98, 117, 114, 115, 116]⟩, ⟨#[112, 114, 105, 111]⟩, ⟨#[108, 105, 109, 105, 116]⟩]
theorem specW_f : specW fwL = [⟨#[78]⟩, ⟨#[102, 105, 101, 108, 100]⟩, ⟨#[78]⟩, ⟨#[109, 97, 115, 107]⟩, ⟨#[78]⟩, ⟨#[118, 97, 108, 117, 101]⟩, ⟨#[78]⟩, ⟨#[116, 111]⟩, ⟨#[78]⟩] := rfl
theorem specW_c : specW cwL = [⟨#[78]⟩, ⟨#[78]⟩, ⟨#[114, 97, 116, 101]⟩, ⟨#[78]⟩, ⟨#[99, 101, 105, 108]⟩, ⟨#[78]⟩, ⟨#[98, 117, 114, 115, 116]⟩, ⟨#[78]⟩, ⟨#[99, 98, 117, 114, 115, 116]⟩, ⟨#[78]⟩, ⟨#[112, 114, 105, 111]⟩, ⟨#[78]⟩, ⟨#[108, 105, 109, 105, 116]⟩, ⟨#[78]⟩] := rfl
theorem fw_ok : ∀ w ∈ fwL, w ≠ wN ∧ w ≠ wA := by decide
theorem cw_ok : ∀ w ∈ cwL, w ≠ wN ∧ w ≠ wA := by decide
theorem dw_ok : ∀ w ∈ [noW], w ≠ wN ∧ w ≠ wA := by decide
/-! ### a line of its own -/
def lnR (s cmd : ByteArray) (ws : List ByteArray) : List Int × Rd :=
  numbersR ws (kwR cmd ⟨s, 0, s.size, false, 0, 0⟩)
/-- what the reference does with a line of its own -/
def lnS (nm : ByteArray → Bool) (s cmd : ByteArray) (ws : List ByteArray) : Option (List Int) :=
  match splitB 32 s with
  | [] => none
  | w :: gs => if w = cmd then (match lgR nm (specW ws) gs w.size [] with
    | .ok l => some l
    | .er _ _ => none) else none
theorem ln_same (nm : ByteArray → Bool) (s cmd : ByteArray) (ws : List ByteArray) (hc : cmd.size ≠ 0) (hw : ∀ w ∈ ws, w ≠ wN ∧ w ≠ wA) :
    (lnS nm s cmd ws = none ∧ (lnR s cmd ws).2.fk ≠ 0) ∨ ∃ l, lnS nm s cmd ws = some l ∧ (lnR s cmd ws).2.fk = 0 ∧ (lnR s cmd ws).1 = l := by
  have R := rel_begin s 0 s.size (Nat.zero_le _) (Nat.le_refl _)
  rw [ext_all] at R
  unfold lnS lnR
  cases h : splitB 32 s with
  | nil => exact absurd h (splitB_ne _ _)
  | cons w gs =>
    rw [h] at R
    obtain ⟨h1, h2, h3⟩ := R.word
    dsimp only
    unfold kwR
    rw [if_neg hc]
    by_cases e : w = cmd
    · rw [if_pos e, if_pos (h1.trans e)]
      have hp : (((0 : Nat) : Int) - 1 + 1 + (w.size : Int)) = (w.size : Int) := by omega
      rw [hp] at h3
      have S := numbers_same nm ws hw _ gs _ [] h3
      revert S
      cases lgR nm (specW ws) gs w.size [] with
      | ok l => rintro ⟨e1, e2⟩; exact .inr ⟨l, rfl, e2, by rw [e1]; simp⟩
      | er k a => rintro ⟨e1, e2, e3⟩; exact .inl ⟨rfl, by rw [e2]; exact e1⟩
    · rw [if_neg e, if_neg (fun e2 => e (h1.symm.trans e2))]
      refine .inl ⟨rfl, ?_⟩
      rw [(numbers_bad ws (by decide) (stop_fk h3.fk 2 _)).1]
      decide
/-- the words behind a command -/
def wordsW (w : ByteArray) : List ByteArray :=
  if w = kwConfig then [wA] else if w = kwDefault then [wN] else if w = kwClass then specW cwL else if w = kwFilter then specW fwL else []
theorem k_dc : kwDefault ≠ kwConfig := by decide
theorem k_cc : kwClass ≠ kwConfig := by decide
theorem k_cd : kwClass ≠ kwDefault := by decide
theorem k_fc : kwFilter ≠ kwConfig := by decide
theorem k_fd : kwFilter ≠ kwDefault := by decide
theorem k_fl : kwFilter ≠ kwClass := by decide
theorem wordsW_len (w : ByteArray) : (wordsW w).length ≤ 14 := by
  unfold wordsW
  repeat' split
  all_goals decide
theorem wordsW_class : wordsW kwClass = specW cwL := by simp only [wordsW, if_neg k_cc, if_neg k_cd, if_true]
theorem wordsW_filter : wordsW kwFilter = specW fwL := by simp only [wordsW, if_neg k_fc, if_neg k_fd, if_neg k_fl, if_true]
theorem mem_join : ∀ {ws : List ByteArray} {g : ByteArray}, g ∈ ws → g.size ≤ joinLen ws
  | [w], g, h => by
    have : g = w := by simpa using h
    subst this
    exact Nat.le_refl _
  | w :: x :: ws, g, h => by
    rw [joinLen_cons w (by simp)]
    rcases List.mem_cons.1 h with rfl | h
    · omega
    · have := mem_join h; omega
theorem len_join : ∀ {ws : List ByteArray}, ws ≠ [] → ws.length ≤ joinLen ws + 1
  | [w], _ => by simp
  | w :: x :: ws, _ => by
    rw [joinLen_cons w (by simp)]
    have := len_join (ws := x :: ws) (by simp)
    simp only [List.length_cons] at this ⊢
    omega
theorem split_le (c : UInt8) (s : ByteArray) : (splitB c s).length ≤ s.size + 1 ∧ ∀ g ∈ splitB c s, g.size ≤ s.size := by
  have e := splitB_len c s
  have h1 := len_join (splitB_ne c s)
  exact ⟨by omega, fun g hg => by have := mem_join hg; omega⟩
theorem lnS_len {nm : ByteArray → Bool} {s cmd : ByteArray} {ws : List ByteArray} (hc : cmd.size ≠ 0) (hw : ∀ w ∈ ws, w ≠ wN ∧ w ≠ wA) {l : List Int} (h : lnS nm s cmd ws = some l) : l.length = ws.length := by
  rcases ln_same nm s cmd ws hc hw with ⟨e, _⟩ | ⟨l', e, _, e2⟩
  · rw [e] at h; cases h
  · rw [e] at h
    injection h with h
    rw [← h, ← e2]
    exact numsR_len _ _
end Go.Flat
