/-
  What is proved here: how an argument of a struct type is opened, field by field. Condition: checks of the types.
-/
import Derived.Test.YteleljfnjdlnkaaGreatDoorAbs24
set_option linter.unusedVariables false
set_option linter.unusedSimpArgs false
set_option linter.unnecessarySimpa false
namespace Go.Abs
open Go.RowKit Go.ChangeShapes Go.WideShapes Go.ChangeAt
section
variable {H : Type} {enc : TypeId × Value → H} {P : Program} {w : World} {spare : Nat → Bool} {held : Bool}
theorem trod_fields {base fuel T : Nat} {fs : Array Field} {cs : List Value} {x : DataW H × List MemPlace} {l : List (Nat × Nat)} (hT : P.underlying T = some (.struct fs)) (hF : (fs.toList.map fun f => (f.type, f.offset)) = l)
    (h : DataW.trod enc P w base spare held fuel T cs = some x) (i t o : Nat) (hi : l[i]? = some (t, o)) : ∃ y m, DataW.trod enc P w base spare held m t ((cs.drop o).take (P.cellsOf t)) = some y := by
  obtain ⟨xs, n, rfl, _, _, hxl, hel⟩ := DataW.trod_struct hT h
  rw [← hF, List.getElem?_map] at hi
  cases hf : fs.toList[i]? with
  | none => rw [hf] at hi; cases hi
  | some f =>
    rw [hf] at hi
    simp at hi
    obtain ⟨rfl, rfl⟩ := hi
    have hf' : fs[i]? = some f := by rw [← Array.getElem?_toList]; exact hf
    have hl : i < xs.length := by rw [hxl]; exact (Array.getElem?_eq_some_iff.1 hf').1
    have := hel i f hf'
    rw [List.getElem?_eq_getElem hl] at this
    exact ⟨_, n, this⟩
theorem one_str {base fuel T : Nat} {v : Value} {x : DataW H × List MemPlace} (hT : P.underlying T = some .string) (h : DataW.trod enc P w base spare held fuel T [v] = some x) : ∃ s : ByteArray, v = .string s ∧ s.size ≤ maxLen := by
  obtain ⟨s, hs, _, hw⟩ := DataW.trod_string hT h
  simp at hs
  exact ⟨s, hs, hw⟩
theorem one_int {base fuel T : Nat} {v : Value} {x : DataW H × List MemPlace} (hT : P.underlying T = some (.int .i64)) (h : DataW.trod enc P w base spare held fuel T [v] = some x) : ∃ n : Int, v = .int .i64 n ∧ inI n := by
  obtain ⟨n, hs, _, hw⟩ := DataW.trod_int hT h
  simp at hs
  exact ⟨n, hs, wf_rng hw⟩
theorem one_tR {α : Type} [Rw α] {Q : α → Prop} {fuel T e sz d : Nat} {v : Value} {x : DataW H × List MemPlace} {l : List (Nat × Nat)}
    (conv : ∀ r : List Value, r.length = sz → (∀ p ∈ l, ∃ v, r[p.2]? = some v ∧ leafOk p.1 v) → ∃ a : α, r = Rw.enc a ∧ Q a)
    (hT : P.underlying T = some (.slice e)) (hsz : P.cellsOf e = sz) (hpos : 0 < sz) (hl : leafT P d e = some l) (h : DataW.trod enc P w 0 spare held fuel T [v] = some x) :
    ∃ L : List α, L.length ≤ maxLen ∧ (∀ a ∈ L, Q a) ∧ v.oneCell' = true ∧ Rep w (fun b => b < w.heap.size) Pl.none v (.sl (tR L)) := by
  have hv : ∃ a len cap, v = .slice a len cap := by
    rcases DataW.trod_slice hT h with ⟨hcs, _⟩ | ⟨ad, len, cap, _, _, _, _, hcs, _⟩
    · simp at hcs; exact ⟨_, _, _, hcs⟩
    · simp at hcs; exact ⟨_, _, _, hcs⟩
  obtain ⟨a, len, cap, rfl⟩ := hv
  obtain ⟨L, h1, h2, h3⟩ := open_tR conv hT hsz hpos hl h
  exact ⟨L, h1, h2, rfl, h3⟩
end
end Go.Abs
