/-
  What is proved here: how splitting goes on, byte by byte. Condition: none.
-/
import Derived.Test.YtecpfgnkiifnpaaFP1
namespace Go.Flat
/-- no byte c from f to k -/
def noB (c : UInt8) (s : ByteArray) (f k : Nat) : Prop := ∀ i, f ≤ i → i < k → (bL s)[i]? ≠ some c
theorem noB_refl (c : UInt8) (s : ByteArray) (f : Nat) : noB c s f f := fun i h1 h2 => by omega
theorem noB_succ {c : UInt8} {s : ByteArray} {f k : Nat} (h : noB c s f k) (hk : (bL s)[k]? ≠ some c) : noB c s f (k + 1) := fun i h1 h2 => by
  by_cases e : i = k
  · rw [e]; exact hk
  · exact h i h1 (by omega)
theorem bL_tail (s : ByteArray) (f : Nat) : bL (s.extract f s.size) = (bL s).drop f := by
  rw [bL_ext, List.take_of_length_le (by rw [List.length_drop, bL_len]; omega)]
theorem noB_mem {c : UInt8} {s : ByteArray} {f k : Nat} (h : noB c s f k) : ∀ x ∈ ((bL s).drop f).take (k - f), x ≠ c := by
  intro x hx e
  obtain ⟨i, hi, e2⟩ := List.mem_iff_getElem.1 hx
  have hl : i < k - f := by rw [List.length_take] at hi; omega
  rw [List.getElem_take, List.getElem_drop] at e2
  exact h (f + i) (by omega) (by omega) (by rw [← e, ← e2]; exact List.getElem?_eq_getElem _)
theorem split_at {c : UInt8} {s : ByteArray} {f k : Nat} (hf : f ≤ k) (hk : k < s.size) (hc : (bL s)[k]? = some c) (h : noB c s f k) : splitB c (s.extract f s.size) = s.extract f k :: splitB c (s.extract (k + 1) s.size) := by
  have hkl : k < (bL s).length := by rw [bL_len]; exact hk
  rw [List.getElem?_eq_getElem hkl] at hc
  injection hc with hc
  have e : (bL s).drop f = ((bL s).drop f).take (k - f) ++ c :: (bL s).drop (k + 1) := by
    have e2 := (List.take_append_drop (k - f) ((bL s).drop f)).symm
    rw [List.drop_drop, show f + (k - f) = k by omega, List.drop_eq_getElem_cons hkl, hc] at e2
    exact e2
  unfold splitB
  rw [bL_tail, bL_tail, e, splitL_cut c _ _ (noB_mem h), List.map_cons, ext_of]
theorem split_end {c : UInt8} {s : ByteArray} {f : Nat} (h : noB c s f s.size) : splitB c (s.extract f s.size) = [s.extract f s.size] := by
  have hm := noB_mem h
  rw [List.take_of_length_le (by rw [List.length_drop, bL_len]; omega)] at hm
  unfold splitB
  rw [bL_tail, splitL_one c _ hm, List.map_singleton, ← bL_tail, ofL_bL]
end Go.Flat
