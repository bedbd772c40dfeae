/-
  What is said here: attributes in their binary form, read in plain words. Condition: none.
-/
import Derived.Test.YtecpfgnkiifnpaaKXYtecpfgnkiifnpaa
import Derived.Test.YtecpfgnkiifnpaaAbsF
import Derived.Test.YtecpfgnkiifnpaaFP1
namespace Go.Proofs
open Go.Abs Go.Flat
set_option linter.unusedSimpArgs false
set_option linter.unnecessarySimpa false
set_option linter.unusedVariables false
structure Att where
  dep : Int
  typ : Int
  nest : Bool
  dat : ByteArray
instance : Rw Att where
  n := 4
  enc e := [.int .i64 e.dep, .int .i64 e.typ, .bool e.nest, .string e.dat]
  dec l := ⟨deI (l.getD 0 .top), deI (l.getD 1 .top), deB (l.getD 2 .top), deS (l.getD 3 .top)⟩
  len _ := rfl
  flat _ := rfl
  de _ := rfl
@[simp] theorem Att.rXe (e : Att) : rX e = [I e.dep, I e.typ, .v (.bool e.nest), .v (.string e.dat)] := rfl
@[simp] theorem Att.dece (x0 x1 x2 x3 : X) : (Rw.dec [x0, x1, x2, x3] : Att) = ⟨deI x0, deI x1, deB x2, deS x3⟩ := rfl
@[simp] theorem Att.eta (e : Att) : (⟨e.dep, e.typ, e.nest, e.dat⟩ : Att) = e := rfl
def Att.z : Att := ⟨0, 0, false, ⟨#[]⟩⟩
def Att.V (e : Att) : Value := .agg #[.int .i64 e.dep, .int .i64 e.typ, .bool e.nest, .string e.dat]
theorem Att.cstV (e : Att) : cst e.V = .agg (rX e) := by simp [cst, Att.V, plain]
def byN (s : ByteArray) (k : Nat) : Nat := ((bL s).getD k 0).toNat
theorem byN_lt (s : ByteArray) (k : Nat) : byN s k < 256 := by unfold byN; exact UInt8.toNat_lt _
def shN (s : ByteArray) (k : Nat) : Nat := byN s k + 256 * byN s (k + 1)
theorem shN_lt (s : ByteArray) (k : Nat) : shN s k < 65536 := by
  have h1 := byN_lt s k
  have h2 := byN_lt s (k + 1)
  unfold shN
  omega
def pad4 (n : Nat) : Nat := (n + 3) / 4 * 4
theorem pad4_ge (n : Nat) : n ≤ pad4 n ∧ pad4 n ≤ n + 3 := by unfold pad4; omega
/-- the first place that is not zero -/
def badAt (s : ByteArray) : Nat → Nat → Option Nat
  | _, 0 => none
  | k, n + 1 => if byN s k ≠ 0 then some k else badAt s (k + 1) n
theorem badAt_at {s : ByteArray} {k e : Nat} (h : k < e) : badAt s k (e - k) = if byN s k ≠ 0 then some k else badAt s (k + 1) (e - (k + 1)) := by
  rw [show e - k = (e - (k + 1)) + 1 by omega]
  rfl
theorem badAt_end {s : ByteArray} {k e : Nat} (h : ¬ k < e) : badAt s k (e - k) = none := by
  rw [show e - k = 0 by omega]
  cases k <;> rfl
/-- the fault of an attribute's beginning -/
def headF (s : ByteArray) (d a e cnt : Nat) : Option (Int × Nat) :=
  if 8 < d then some (4, a) else if 400 ≤ cnt then some (5, a) else if e - a < 4 then some (6, a) else if shN s a < 4 then some (3, a)
  else if e - a < pad4 (shN s a) then some (6, a) else if shN s (a + 2) < 32768 ∧ 1004 < shN s a then some (5, a)
  else (badAt s (a + shN s a) (a + pad4 (shN s a) - (a + shN s a))).map fun k => (1, k)
theorem headF_none {s : ByteArray} {d a e cnt : Nat} (h : headF s d a e cnt = none) : ¬ 8 < d ∧ ¬ 400 ≤ cnt ∧ ¬ e - a < 4 ∧ ¬ shN s a < 4 ∧ ¬ e - a < pad4 (shN s a) ∧ ¬ (shN s (a + 2) < 32768 ∧ 1004 < shN s a) ∧ badAt s (a + shN s a) (a + pad4 (shN s a) - (a + shN s a)) = none := by
  unfold headF at h
  split at h
  · cases h
  · split at h
    · cases h
    · split at h
      · cases h
      · split at h
        · cases h
        · split at h
          · cases h
          · split at h
            · cases h
            · refine ⟨by assumption, by assumption, by assumption, by assumption, by assumption, by assumption, ?_⟩
              revert h
              cases badAt s (a + shN s a) (a + pad4 (shN s a) - (a + shN s a)) with
              | none => exact fun _ => rfl
              | some k => exact fun h => by cases h
def atOf (s : ByteArray) (d a : Nat) : Att := if shN s (a + 2) < 32768 then ⟨d, shN s (a + 2), false, s.extract (a + 4) (a + shN s a)⟩ else ⟨d, (shN s (a + 2) : Int) - 32768, true, ⟨#[]⟩⟩
/-- the attributes from a place on, up to an end -/
def rdW (s : ByteArray) (d a e : Nat) (l : List Att) : List Att × Option (Int × Nat) :=
  if h0 : a < e then
    match h : headF s d a e l.length with
    | some f => (l, some f)
    | none =>
      if shN s (a + 2) < 32768 then rdW s d (a + pad4 (shN s a)) e (l ++ [atOf s d a])
      else match rdW s (d + 1) (a + 4) (a + shN s a) (l ++ [atOf s d a]) with
        | (l', some f) => (l', some f)
        | (l', none) => rdW s d (a + pad4 (shN s a)) e l'
  else (l, none)
termination_by e - a
decreasing_by
  all_goals
    obtain ⟨h1, h2, h3, h4, h5, h6, h7⟩ := headF_none h
    have := pad4_ge (shN s a)
    omega
theorem rdW_end {s : ByteArray} {d a e : Nat} {l : List Att} (h : ¬ a < e) : rdW s d a e l = (l, none) := by rw [rdW, dif_neg h]
theorem rdW_bad {s : ByteArray} {d a e : Nat} {l : List Att} {f : Int × Nat} (h : a < e) (hf : headF s d a e l.length = some f) : rdW s d a e l = (l, some f) := by
  rw [rdW, dif_pos h]
  split
  · rename_i f' h'
    rw [hf] at h'
    injection h' with h'
    rw [h']
  · rename_i h'
    rw [hf] at h'; cases h'
theorem rdW_leaf {s : ByteArray} {d a e : Nat} {l : List Att} (h : a < e) (hf : headF s d a e l.length = none) (hk : shN s (a + 2) < 32768) : rdW s d a e l = rdW s d (a + pad4 (shN s a)) e (l ++ [atOf s d a]) := by
  rw [rdW, dif_pos h]
  split
  · rename_i f' h'
    rw [hf] at h'; cases h'
  · rw [if_pos hk]
theorem rdW_nest {s : ByteArray} {d a e : Nat} {l : List Att} (h : a < e) (hf : headF s d a e l.length = none) (hk : ¬ shN s (a + 2) < 32768) : rdW s d a e l = match rdW s (d + 1) (a + 4) (a + shN s a) (l ++ [atOf s d a]) with
    | (l', some f) => (l', some f)
    | (l', none) => rdW s d (a + pad4 (shN s a)) e l' := by
  rw [rdW, dif_pos h]
  split
  · rename_i f' h'
    rw [hf] at h'; cases h'
  · rw [if_neg hk]
theorem some_pos {k : Int} {a : Nat} {f : Int × Nat} (h : some (k, a) = some f) (hk : 0 < k) : 0 < f.1 := by
  injection h with h
  rw [← h]
  exact hk
theorem headF_pos {s : ByteArray} {d a e cnt : Nat} {f : Int × Nat} (h : headF s d a e cnt = some f) : 0 < f.1 := by
  unfold headF at h
  split at h
  · exact some_pos h (by decide)
  · split at h
    · exact some_pos h (by decide)
    · split at h
      · exact some_pos h (by decide)
      · split at h
        · exact some_pos h (by decide)
        · split at h
          · exact some_pos h (by decide)
          · split at h
            · exact some_pos h (by decide)
            · revert h
              cases badAt s (a + shN s a) (a + pad4 (shN s a) - (a + shN s a)) with
              | none => exact fun h => by cases h
              | some k => exact fun h => some_pos h (by decide)
/-- no more than 400 of them; a fault's kind is positive -/
theorem rdW_len {s : ByteArray} : ∀ (n d a e : Nat) (l : List Att), e - a ≤ n → l.length ≤ 400 → (rdW s d a e l).1.length ≤ 400 ∧ ∀ f, (rdW s d a e l).2 = some f → 0 < f.1
  | n, d, a, e, l, hn, hl => by
    by_cases h : a < e
    · cases hf : headF s d a e l.length with
      | some f =>
        rw [rdW_bad h hf]
        exact ⟨hl, fun g hg => by injection hg with hg; rw [← hg]; exact headF_pos hf⟩
      | none =>
        obtain ⟨h1, h2, h3, h4, h5, h6, h7⟩ := headF_none hf
        have hp := pad4_ge (shN s a)
        have hl2 : (l ++ [atOf s d a]).length ≤ 400 := by simp; omega
        obtain ⟨m, rfl⟩ : ∃ m, n = m + 1 := ⟨n - 1, by omega⟩
        by_cases hk : shN s (a + 2) < 32768
        · rw [rdW_leaf h hf hk]
          exact rdW_len m _ _ _ _ (by omega) hl2
        · rw [rdW_nest h hf hk]
          have ih := rdW_len (s := s) m (d + 1) (a + 4) (a + shN s a) (l ++ [atOf s d a]) (by omega) hl2
          generalize rdW s (d + 1) (a + 4) (a + shN s a) (l ++ [atOf s d a]) = q at ih
          obtain ⟨l', f⟩ := q
          cases f with
          | some f => exact ih
          | none => exact rdW_len m _ _ _ _ (by omega) ih.1
    · rw [rdW_end h]
      exact ⟨hl, fun f hf => by cases hf⟩
  termination_by n => n
def dcW (s : ByteArray) : List Att × Option (Int × Nat) := if 6000 < s.size then ([], some (5, 0)) else rdW s 1 0 s.size []
end Go.Proofs
