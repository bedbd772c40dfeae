/-
  What is proved here: how an argument that is a slice of structs of numbers, strings and bools is opened. Condition: a check of the type.
-/
import Derived.Test.YtglbimhhiikkpaaDoorAbs20
namespace Go.Abs
open Go.RowKit

theorem open_rows {H : Type} {enc : TypeId × Value → H} {P : Program} {w : World} {fuel T e sz d : Nat} {a : Option Addr} {len cap : Nat} {x : DataW H × List MemPlace} {l : List (Nat × Nat)} {spare : Nat → Bool} {held : Bool}
    (hT : P.underlying T = some (.slice e)) (hsz : P.cellsOf e = sz) (hpos : 0 < sz) (hl : leafT P d e = some l) (h : DataW.trod enc P w 0 spare held fuel T [.slice a len cap] = some x) :
    len ≤ maxLen ∧ ∃ rows : List (List Value), rows.length = len ∧ (∀ r ∈ rows, r.length = sz ∧ ∀ p ∈ l, ∃ v, r[p.2]? = some v ∧ leafOk p.1 v) ∧
      ((∀ r ∈ rows, ∀ v ∈ r, plain v = true) → Rep w (fun b => b < w.heap.size) Pl.none (.slice a len cap) (.sl (rows.map fun r => r.map .v))) := by
  rcases DataW.trod_slice hT h with ⟨hcs, _⟩ | ⟨ad, len', cap', elems, rest, n, rfl, hcs, _, _, hlc, hcm, hel, hget, _, _⟩
  · simp at hcs
    obtain ⟨rfl, rfl, rfl⟩ := hcs
    exact ⟨by decide, [], rfl, by simp, fun _ => .nil _ _⟩
  · simp at hcs
    obtain ⟨rfl, rfl, rfl⟩ := hcs
    refine ⟨Nat.le_trans hlc hcm, ?_⟩
    have key : ∀ i, ∃ r : List Value, i < len → r.length = sz ∧ (∀ p ∈ l, ∃ v, r[p.2]? = some v ∧ leafOk p.1 v) ∧ w.cells? 0 (ad.add (i * sz)) sz = some r := by
      intro i
      by_cases hi : i < len
      · have hg := hget i hi
        rw [hsz, List.getElem?_eq_getElem (by omega)] at hg
        cases hc : w.cells? 0 (ad.add (i * sz)) sz with
        | none => rw [hc] at hg; cases hg
        | some r =>
          rw [hc] at hg
          simp only [Option.bind_some] at hg
          refine ⟨r, fun _ => ⟨?_, fun p hp => trod_leaf d e l hl n r _ hg p hp, rfl⟩⟩
          exact (World.cells?_some hc).2.1
      · exact ⟨[], fun h => absurd h hi⟩
    obtain ⟨f, hf⟩ := Classical.axiomOfChoice key
    have hcell : ∀ i j, i < len → j < sz → w.cell? (ad.add (i * sz + j)) = (f i)[j]? := by
      intro i j hi hj
      obtain ⟨h1, _, h3⟩ := hf i hi
      have := (World.cells?_some h3).2.2 j hj
      rw [← this]
      congr 1
      simp only [Addr.add]
      split <;> split <;> split <;> simp_all <;> omega
    refine ⟨(List.range len).map f, by simp, ?_, fun hpl => ?_⟩
    · intro r hr
      simp only [List.mem_map, List.mem_range] at hr
      obtain ⟨i, hi, rfl⟩ := hr
      exact ⟨(hf i hi).1, (hf i hi).2.1⟩
    · rcases Nat.eq_zero_or_pos len with h0 | h0
      · subst h0; exact .nil _ _
      have hrl : (((List.range len).map f).map fun r => r.map X.v).length = len := by simp
      have hb : ad.block < w.heap.size := by
        have h1 := hcell 0 0 h0 hpos
        have h2 := (hf 0 h0).1
        rw [List.getElem?_eq_getElem (by omega)] at h1
        have := World.block_lt_of_cell? w _ h1
        rwa [add_block] at this
      have := Rep.sl (w := w) (S := fun b => b < w.heap.size) (β := Pl.none) ad cap sz (((List.range len).map f).map fun r => r.map X.v) (fun i j => if i < len then ((f i)[j]?).getD .nilFunc else .nilFunc) (by rw [hrl]; exact hlc) hb
        (fun r hr => by
          simp only [List.mem_map, List.mem_range] at hr
          obtain ⟨_, ⟨i, hi, rfl⟩, rfl⟩ := hr
          simpa using (hf i hi).1)
        (fun i j hi hj => by
          rw [hrl] at hi
          rw [hcell i j hi hj, List.getElem?_eq_getElem (by rw [(hf i hi).1]; exact hj)]
          simp [hi])
        (fun i j => by
          by_cases hi : i < len
          · rw [if_pos hi]
            cases hv : (f i)[j]? with
            | none => rfl
            | some v => exact plain_one (hpl (f i) (List.mem_map.2 ⟨i, by simpa using hi, rfl⟩) v (List.mem_of_getElem? hv))
          · rw [if_neg hi]; rfl)
        (fun i j y hy => by
          simp only [at2, List.getElem?_map] at hy
          by_cases hi : i < len
          · rw [List.getElem?_range hi] at hy
            simp only [Option.map_some, Option.bind_some, List.getElem?_map] at hy
            cases hv : (f i)[j]? with
            | none => rw [hv] at hy; cases hy
            | some v =>
              rw [hv] at hy
              injection hy with hy
              subst hy
              rw [if_pos hi]
              exact .v v (hpl (f i) (List.mem_map.2 ⟨i, by simpa using hi, rfl⟩) v (List.mem_of_getElem? hv))
          · rw [List.getElem?_eq_none (by simpa using hi)] at hy; cases hy)
      rw [hrl] at this
      exact this

end Go.Abs
