/-
  What is proved here: contracts of the checks of one class and of one filter, and of the library's searches by a predicate. Condition: none.
-/
import Derived.Test.YtecpfgnkiifnpaaDoorC0l
namespace Go.Proofs
open Go.Abs
set_option linter.unusedSimpArgs false
set_option linter.unnecessarySimpa false
set_option linter.unusedVariables false
set_option maxHeartbeats 4000000
set_option maxRecDepth 20000
theorem and_bits (V M : BitVec 64) : V &&& ~~~M = 0#64 ↔ V &&& M = V := by
  constructor
  · intro h
    apply BitVec.eq_of_getElem_eq
    intro i hi
    have := congrArg (fun (z : BitVec 64) => z[i]) h
    simp at this
    simp
    exact this
  · intro h
    apply BitVec.eq_of_getElem_eq
    intro i hi
    have := congrArg (fun (z : BitVec 64) => z[i]) h
    simp at this
    simp
    exact this
theorem wrap0 (n : Nat) (h : n < 18446744073709551616) : (IntKind.i64.wrap (n : Int) = 0) ↔ n = 0 := by
  rw [IntKind.wrap_i64]; omega
theorem mask_eq (v m : Int) (h0 : 0 ≤ v) (h1 : v ≤ 65535) : (cut_ v m == 0) = (mskd v m == v) := by
  have hV : (BitVec.ofInt 64 v).toNat = v.toNat := by
    rw [BitVec.toNat_ofInt]; omega
  have hle : (BitVec.ofInt 64 v &&& BitVec.ofInt 64 m).toNat ≤ v.toNat := by
    rw [BitVec.toNat_and, hV]; exact Nat.and_le_left
  have e1 : cut_ v m = 0 ↔ BitVec.ofInt 64 v &&& ~~~BitVec.ofInt 64 m = 0#64 := by
    unfold cut_
    rw [wrap0 _ (BitVec.isLt _)]
    constructor
    · intro h; exact BitVec.eq_of_toNat_eq (by simpa using h)
    · intro h; rw [h]; rfl
  have e2 : mskd v m = v ↔ BitVec.ofInt 64 v &&& BitVec.ofInt 64 m = BitVec.ofInt 64 v := by
    unfold mskd
    rw [w64 (by omega) (by omega)]
    constructor
    · intro h; exact BitVec.eq_of_toNat_eq (by rw [hV]; omega)
    · intro h; rw [h, hV]; omega
  rw [Bool.eq_iff_iff]
  simp only [beq_iff_eq]
  rw [e1, e2, and_bits]
/-! ### searches by a predicate: the predicate is a function value with what it holds -/
def capsOf : X → List X
  | .fn _ c => c
  | _ => []
@[simp] theorem capsOf_fn (g : Nat) (c : List X) : capsOf (.fn g c) = c := rfl
def idxB {α : Type} (p : α → Bool) (l : List α) : Int := match l.findIdx? p with | some i => (i : Int) | none => -1
theorem idxB_found {α : Type} (p : α → Bool) (l : List α) (k : Nat) (h : k < l.length) (h1 : (l.take k).all (fun x => !p x) = true) (h2 : p l[k] = true) : idxB p l = (k : Int) := by
  have : l.findIdx? p = some k := by
    rw [List.findIdx?_eq_some_iff_getElem]
    refine ⟨h, h2, fun j hj => ?_⟩
    rw [List.all_eq_true] at h1
    have := h1 l[j] (List.mem_take_iff_getElem.2 ⟨j, by omega, rfl⟩)
    simpa using this
  simp [idxB, this]
theorem idxB_none {α : Type} (p : α → Bool) (l : List α) (h1 : l.all (fun x => !p x) = true) : idxB p l = -1 := by
  have : l.findIdx? p = none := by
    rw [List.findIdx?_eq_none_iff]
    intro x hx
    rw [List.all_eq_true] at h1
    simpa using h1 x hx
  simp [idxB, this]
theorem idxB_any {α : Type} (p : α → Bool) (l : List α) : decide (0 ≤ idxB p l) = l.any p := by
  rw [Bool.eq_iff_iff, List.any_eq_true, decide_eq_true_eq]
  unfold idxB
  cases h : l.findIdx? p with
  | none =>
    rw [List.findIdx?_eq_none_iff] at h
    simp
    intro x hx
    have := h x hx
    simpa using this
  | some i =>
    obtain ⟨hi, hp, _⟩ := List.findIdx?_eq_some_iff_getElem.1 h
    simp
    exact ⟨_, List.getElem_mem hi, hp⟩
theorem all_stepG {α : Type} (l : List α) (p : α → Bool) (k : Nat) (h : k < l.length) (h1 : (l.take k).all p = true) (h2 : p l[k] = true) : (l.take (k + 1)).all p = true := by
  rw [takeS l k h, List.all_append, h1]; simp [h2]
/-- a predicate: its argument, then what it holds -/
def FPr {α : Type} [Rw α] (cp : List X → Prop) (p : List X → α → Bool) : Fun := ⟨fun xs => xs = .agg (rX (deA (xs.getD 0 .top) : α)) :: xs.tail ∧ cp xs.tail, fun xs => (B (p xs.tail (deA (xs.getD 0 .top))), [])⟩
def FIx {α : Type} [Rw α] (g : Nat) (cp : List X → Prop) (p : List X → α → Bool) : Fun :=
  ⟨fun xs => xs = [.sl (tR (deT (xs.getD 0 .top) : List α)), .fn g (capsOf (xs.getD 1 .top))] ∧ cp (capsOf (xs.getD 1 .top)) ∧ (deT (xs.getD 0 .top) : List α).length ≤ 1048576, fun xs => (I (idxB (p (capsOf (xs.getD 1 .top))) (deT (xs.getD 0 .top))), [])⟩
def FCt {α : Type} [Rw α] (g : Nat) (cp : List X → Prop) (p : List X → α → Bool) : Fun :=
  ⟨(FIx g cp p).pre, fun xs => (B ((deT (xs.getD 0 .top)).any (p (capsOf (xs.getD 1 .top)))), [])⟩
end Go.Proofs
