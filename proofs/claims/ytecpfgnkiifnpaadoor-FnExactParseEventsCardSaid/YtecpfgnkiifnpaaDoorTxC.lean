/-
  What is proved here: contracts of the reference's lines, of both FlatClass, and of the law. Condition: none.
  What is proved here: the two lines of a class are one, in plain Lean. Condition: none.
-/
import Derived.Test.YtecpfgnkiifnpaaDoorTxB
set_option linter.unusedVariables false
set_option linter.unusedSimpArgs false
set_option linter.unnecessarySimpa false
set_option maxHeartbeats 8000000
set_option maxRecDepth 20000
namespace Go.Proofs
open Go.Abs
def nN (ws : List ByteArray) : Nat := ws.countP fun w => decide (w = nB)
def lgOk (cmd : ByteArray) (ts : List ByteArray) : Prop := (cmd = classB ∧ ts.length = 8 ∨ cmd = filterB ∧ ts.length = 5) ∧ ∀ t ∈ ts, t.size ≤ 64
theorem nB_tl (b : ByteArray) : (b.toList == [78]) = decide (b = nB) := by
  have e : (ByteArray.mk #[78]).toList = [78] := by rw [ByteArray.toList_eq]
  rw [← e]
  exact tl_eq _ _
theorem nN_cons (w : ByteArray) (ws : List ByteArray) : nN (w :: ws) = nN ws + (if w = nB then 1 else 0) := by
  unfold nN
  rw [List.countP_cons]
  simp only [decide_eq_true_eq]
theorem sR_one' {l : List ByteArray} {r : List X} (h : r ∈ sR l) : r.length = 1 := by
  simp [sR] at h
  obtain ⟨x, _, rfl⟩ := h
  rfl
theorem sz78 : (ByteArray.mk #[32]).size = 1 := rfl
end Go.Proofs
namespace Go.Proofs
open Go.Abs
/-! ### the two lines of a class are one -/
theorem join_sp (x y : ByteArray) (l : List ByteArray) : joinB (x :: y :: l) spB = x ++ (spB ++ joinB (y :: l) spB) := by
  apply ba_ext
  rw [ByteArray.data_append, ByteArray.data_append]
  simp [joinB, Lib.join, List.intercalate, List.intersperse, spB]
theorem join_one' (x : ByteArray) : joinB [x] spB = x := by
  apply ba_ext
  simp [joinB, Lib.join_one]
theorem ba_assoc (a b c : ByteArray) : a ++ b ++ c = a ++ (b ++ c) := by
  apply ba_ext
  simp [ByteArray.data_append]
theorem flat_eq (ts : List ByteArray) (h : ts.length = 8) : joinB (classB :: prtL cWords ts 8) spB = lgL cWs ts classB := by
  match ts, h with
  | [a, b, c, d, e, f, g, k], _ =>
    have e1 : prtL cWords [a, b, c, d, e, f, g, k] 8 = [a, b, ⟨#[114, 97, 116, 101]⟩, c, ⟨#[99, 101, 105, 108]⟩, d, ⟨#[98, 117, 114, 115, 116]⟩, e, ⟨#[99, 98, 117, 114, 115, 116]⟩, f, ⟨#[112, 114, 105, 111]⟩, g, ⟨#[108, 105, 109, 105, 116]⟩, k] := rfl
    have e2 : lgL cWs [a, b, c, d, e, f, g, k] classB = classB ++ (spB ++ a) ++ (spB ++ b) ++ (spB ++ ⟨#[114, 97, 116, 101]⟩) ++ (spB ++ c) ++ (spB ++ ⟨#[99, 101, 105, 108]⟩) ++ (spB ++ d) ++ (spB ++ ⟨#[98, 117, 114, 115, 116]⟩) ++ (spB ++ e) ++ (spB ++ ⟨#[99, 98, 117, 114, 115, 116]⟩) ++ (spB ++ f) ++ (spB ++ ⟨#[112, 114, 105, 111]⟩) ++ (spB ++ g) ++ (spB ++ ⟨#[108, 105, 109, 105, 116]⟩) ++ (spB ++ k) := rfl
    rw [e1, e2]
    simp only [join_sp, join_one', ba_assoc]
theorem ba_sz (a b : ByteArray) : (a ++ b).size = a.size + b.size := ByteArray.size_append
theorem flat_size (ts : List ByteArray) (h : ts.length = 8) (ht : ∀ t ∈ ts, t.size ≤ 64) : (joinB (classB :: prtL cWords ts 8) spB).size ≤ 1000 := by
  rw [flat_eq ts h]
  match ts, h, ht with
  | [a, b, c, d, e, f, g, k], _, ht =>
    have e2 : lgL cWs [a, b, c, d, e, f, g, k] classB = classB ++ (spB ++ a) ++ (spB ++ b) ++ (spB ++ ⟨#[114, 97, 116, 101]⟩) ++ (spB ++ c) ++ (spB ++ ⟨#[99, 101, 105, 108]⟩) ++ (spB ++ d) ++ (spB ++ ⟨#[98, 117, 114, 115, 116]⟩) ++ (spB ++ e) ++ (spB ++ ⟨#[99, 98, 117, 114, 115, 116]⟩) ++ (spB ++ f) ++ (spB ++ ⟨#[112, 114, 105, 111]⟩) ++ (spB ++ g) ++ (spB ++ ⟨#[108, 105, 109, 105, 116]⟩) ++ (spB ++ k) := rfl
    rw [e2]
    have q : ∀ n : Nat, (ByteArray.size ⟨#[114, 97, 116, 101]⟩) = 4 ∧ (ByteArray.size ⟨#[99, 101, 105, 108]⟩) = 4 ∧ (ByteArray.size ⟨#[98, 117, 114, 115, 116]⟩) = 5 ∧ (ByteArray.size ⟨#[99, 98, 117, 114, 115, 116]⟩) = 6 ∧ (ByteArray.size ⟨#[112, 114, 105, 111]⟩) = 4 ∧ (ByteArray.size ⟨#[108, 105, 109, 105, 116]⟩) = 5 ∧ spB.size = 1 ∧ classB.size = 5 := fun _ => ⟨rfl, rfl, rfl, rfl, rfl, rfl, rfl, rfl⟩
    obtain ⟨q1, q2, q3, q4, q5, q6, q7, q8⟩ := q 0
    have h1 := ht a (by simp)
    have h2 := ht b (by simp)
    have h3 := ht c (by simp)
    have h4 := ht d (by simp)
    have h5 := ht e (by simp)
    have h6 := ht f (by simp)
    have h7 := ht g (by simp)
    have h8 := ht k (by simp)
    simp only [ba_sz]
    omega
end Go.Proofs
