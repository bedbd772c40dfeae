/-
  What is proved here: lines of words, on both sides. Condition: none.
  What is proved here: the program's lines of words, and the reference's, as functions; that they are alike. Condition: none.
-/
import Derived.Test.YtecpfgnkiifnpaaDoorTxA
import Derived.Test.YtecpfgnkiifnpaaDoorA1n
import Derived.Test.YtecpfgnkiifnpaaDoorS0n
set_option linter.unusedVariables false
set_option linter.unusedSimpArgs false
set_option linter.unnecessarySimpa false
set_option maxHeartbeats 8000000
set_option maxRecDepth 20000
namespace Go.Proofs
open Go.Abs
theorem tl_eq (a b : ByteArray) : (a.toList == b.toList) = decide (a = b) := by
  rw [ByteArray.toList_eq, ByteArray.toList_eq]
  by_cases h : a = b
  · subst h; simp
  · have : ¬ a.data = b.data := fun e => h (ba_ext e)
    simp [h, this]
/-! ### the numbers of a line -/
def nums (x : Cls) : List Int := [x.id, x.par, x.rate, x.ceil, x.burst, x.cburst, x.prio, x.lim]
def cWords : List ByteArray := [⟨#[]⟩, ⟨#[]⟩, ⟨#[114, 97, 116, 101]⟩, ⟨#[99, 101, 105, 108]⟩, ⟨#[98, 117, 114, 115, 116]⟩, ⟨#[99, 98, 117, 114, 115, 116]⟩, ⟨#[112, 114, 105, 111]⟩, ⟨#[108, 105, 109, 105, 116]⟩]
end Go.Proofs
namespace Go.Proofs
open Go.Abs
def emB : ByteArray := ⟨#[]⟩
theorem tl_nil (b : ByteArray) : b.toList = [] ↔ b = emB := by
  rw [ByteArray.toList_eq]
  constructor
  · intro h
    exact ba_ext (by simpa [emB] using h)
  · rintro rfl
    rfl
def spB : ByteArray := ⟨#[32]⟩
def prtL (ws ts : List ByteArray) (k : Nat) : List ByteArray := (List.range k).flatMap fun i => (if ws.getD i emB = emB then [] else [ws.getD i emB]) ++ [ts.getD i emB]
theorem prtL_succ (ws ts : List ByteArray) (k : Nat) (h1 : k < ws.length) (h2 : k < ts.length) : prtL ws ts (k + 1) = prtL ws ts k ++ ((if ws[k] = emB then [] else [ws[k]]) ++ [ts[k]]) := by
  unfold prtL
  rw [List.range_succ, List.flatMap_append]
  simp [h1, h2]
theorem prtL_len (ws ts : List ByteArray) (k : Nat) : (prtL ws ts k).length ≤ 2 * k := by
  induction k with
  | zero => simp [prtL]
  | succ k ih =>
    unfold prtL at *
    rw [List.range_succ, List.flatMap_append, List.length_append]
    have h1 : (if ws.getD k emB = emB then [] else [ws.getD k emB]).length ≤ 1 := by split <;> simp
    simp only [List.flatMap_cons, List.flatMap_nil, List.append_nil, List.length_append, List.length_cons, List.length_nil]
    omega
/-! ### the reference's line -/
def nB : ByteArray := ⟨#[78]⟩
def lgL : List ByteArray → List ByteArray → ByteArray → ByteArray
  | [], _, s => s
  | w :: ws, ts, s => if w = nB then lgL ws ts.tail (s ++ (spB ++ ts.headD emB)) else lgL ws ts (s ++ (spB ++ w))
def classB : ByteArray := ⟨#[99, 108, 97, 115, 115]⟩
def filterB : ByteArray := ⟨#[102, 105, 108, 116, 101, 114]⟩
def cWs : List ByteArray := [nB, nB, ⟨#[114, 97, 116, 101]⟩, nB, ⟨#[99, 101, 105, 108]⟩, nB, ⟨#[98, 117, 114, 115, 116]⟩, nB, ⟨#[99, 98, 117, 114, 115, 116]⟩, nB, ⟨#[112, 114, 105, 111]⟩, nB, ⟨#[108, 105, 109, 105, 116]⟩, nB]
def fWs : List ByteArray := [nB, ⟨#[102, 105, 101, 108, 100]⟩, nB, ⟨#[109, 97, 115, 107]⟩, nB, ⟨#[118, 97, 108, 117, 101]⟩, nB, ⟨#[116, 111]⟩, nB]
def lgW (cmd : ByteArray) : List ByteArray := if cmd = classB then cWs else fWs
end Go.Proofs
