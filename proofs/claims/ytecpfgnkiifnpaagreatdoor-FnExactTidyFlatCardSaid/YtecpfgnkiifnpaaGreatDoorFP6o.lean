/-
  What is proved here: what a parse keeps, and a line's beginning. Condition: none.
-/
import Derived.Test.YtecpfgnkiifnpaaGreatDoorFP5o
namespace Go.Flat
open Go.Proofs
set_option linter.unusedSimpArgs false
set_option linter.unnecessarySimpa false
set_option linter.unusedVariables false
def okQ (st : Ps) : Prop := st.c.cls.length ≤ 24 ∧ st.c.fil.length ≤ 16 ∧ st.nc ≤ 1 ∧ st.nd ≤ 1 ∧ st.c.name.size ≤ 1048576
theorem okQ0 : okQ ps0 := ⟨Nat.zero_le _, Nat.zero_le _, Nat.zero_le _, Nat.zero_le _, Nat.zero_le _⟩
theorem lineS_ok {st st' : Ps} {ws : List ByteArray} {a : Int} (h : lineS st ws a = .ok st') (hq : okQ st) (hg : ∀ g ∈ ws, g.size ≤ 1048576) : okQ st' := by
  obtain ⟨q1, q2, q3, q4, q5⟩ := hq
  cases ws with
  | nil => injection h with h; subst h; exact ⟨q1, q2, q3, q4, q5⟩
  | cons w gs =>
    unfold lineS at h
    dsimp only at h
    by_cases hf : fineW st w = false
    · rw [if_pos hf] at h; cases h
    rw [if_neg hf] at h
    by_cases hu : fullW st w = true
    · rw [if_pos hu] at h; cases h
    rw [if_neg hu] at h
    have hf' : fineW st w = true := by simpa using hf
    have hu' : fullW st w = false := by simpa using hu
    revert h
    cases lgR nmOk (wordsW w) gs (a + w.size) [] with
    | er k b => intro h; cases h
    | ok l =>
      intro h
      injection h with h
      subst h
      unfold stepS
      unfold fineW at hf'
      rcases fine_kw (by simpa using hf) with rfl | rfl | rfl | rfl
      · simp only [if_true]
        refine ⟨q1, q2, ?_, q4, ?_⟩
        · by_cases z : st.nc = 0
          · simp only; omega
          · rw [if_neg z] at hf'
            simp [kwConfig, kwDefault, kwClass, kwFilter] at hf'
        · cases gs with
          | nil => exact Nat.zero_le _
          | cons g gs => exact hg g (by simp)
      · simp only [if_neg k_dc, if_true]
        refine ⟨q1, q2, q3, ?_, q5⟩
        by_cases z : st.nc = 0
        · rw [if_pos z] at hf'
          simp [kwConfig, kwDefault] at hf'
        · rw [if_neg z] at hf'
          simp [kwDefault, kwClass, kwFilter] at hf'
          simp only; omega
      · simp only [if_neg k_cc, if_neg k_cd, if_true]
        refine ⟨?_, q2, q3, q4, q5⟩
        simp [fullW, kwClass, kwFilter] at hu'
        simp only [List.length_append, List.length_singleton]
        omega
      · simp only [if_neg k_fc, if_neg k_fd, if_neg k_fl]
        refine ⟨q1, ?_, q3, q4, q5⟩
        simp [fullW, kwClass, kwFilter] at hu'
        simp only [List.length_append, List.length_singleton]
        omega
theorem lgRpos {nm : ByteArray → Bool} : ∀ {W gs : List ByteArray} {p : Int} {out : List Int} {k a : Int}, lgR nm W gs p out = .er k a → 0 < k
  | [], [], _, _, k, a, h => by simp [lgR] at h
  | [], _ :: _, _, _, k, a, h => by simp only [lgR] at h; injection h with h; omega
  | _ :: _, [], _, _, k, a, h => by simp only [lgR] at h; injection h with h; omega
  | w :: W, g :: gs, p, out, k, a, h => by
    simp only [lgR] at h
    split at h
    · injection h with h; omega
    · split at h
      · injection h with h; omega
      · split at h
        · exact lgRpos h
        · split at h
          · injection h with h; omega
          · exact lgRpos h
theorem lineS_pos {st : Ps} {ws : List ByteArray} {a k b : Int} (h : lineS st ws a = .er k b) : 0 < k := by
  cases ws with
  | nil => cases h
  | cons w gs =>
    unfold lineS at h
    dsimp only at h
    split at h
    · injection h with h; omega
    · split at h
      · injection h with h; omega
      · revert h
        cases hr : lgR nmOk (wordsW w) gs (a + w.size) [] with
        | ok l => intro h; cases h
        | er k' b' =>
          intro h
          injection h with h1 h2
          subst h1
          exact lgRpos hr
end Go.Flat
