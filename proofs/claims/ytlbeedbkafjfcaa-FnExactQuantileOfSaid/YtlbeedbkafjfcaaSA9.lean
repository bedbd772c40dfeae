/-
  What is proved here: contracts of slices.Clone and slices.Sort at whole numbers, out of the library's own proved ones. Condition: none.
-/
import Derived.Test.YtlbeedbkafjfcaaSA6
import Derived.Test.YtlbeedbkafjfcaaAbs18
import Derived.Shelf.Lay
import Derived.Shelf.Sort.Plain
import Derived.Ground.Names2Prog
import Derived.Shelf.Slices.Clone
import Derived.Sort.OwnSortedInts
namespace Go.Proofs
open Go.Shelf
shelf_lay Lays.n189 Nm 189 at Try as Try.lays189
shelf_lay Lays2.n15 Nm2 15 at Try as Try.laysNm215
end Go.Proofs
namespace Go.Proofs
open Go.Abs Go.RowKit
set_option linter.unusedSimpArgs false
set_option maxHeartbeats 4000000

theorem at2_iR {l : List Int} {i j : Nat} {x : X} (h : at2 (iR l) i j = some x) : ∃ hi : i < l.length, j = 0 ∧ x = I l[i] := by
  simp only [at2, iR_get] at h
  rcases Nat.lt_or_ge i l.length with hi | hi
  · rw [List.getElem?_eq_getElem hi] at h
    simp only [Option.map_some, Option.bind_some] at h
    cases j with
    | zero => simp at h; exact ⟨hi, rfl, h.symm⟩
    | succ j => simp at h
  · rw [List.getElem?_eq_none hi] at h; cases h
theorem at2_iR' {l : List Int} {i : Nat} (h : i < l.length) : at2 (iR l) i 0 = some (I l[i]) := by
  simp [at2, iR_get, h]

def F56 : Fun := ⟨fun xs => ∃ l, xs = [ints l] ∧ 0 < l.length ∧ l.length ≤ 1048576, fun xs => (.osl 0 0, [iOb (deIs (xs.getD 0 .top))])⟩
theorem c56 : GenC Try.prog 56 F56 := by
  refine ⟨fun args w => callFunc_enter Try.func56 (by decide) rfl args w, ?_⟩
  rintro w S vs xs ⟨l, rfl, hl0, hl⟩ hvs hr hS
  obtain ⟨v, rfl⟩ : ∃ v, vs = #[v] := by
    obtain ⟨ls⟩ := vs
    match ls, hvs with
    | [v], _ => exact ⟨v, rfl⟩
  have hv := hr 0 (ints l) v rfl rfl
  have hres : F56.res [ints l] = (.osl 0 0, [iOb l]) := by simp [F56, ints, deIs_sl]
  rw [hres]
  rcases hv.inv_sl with ⟨h0, _⟩ | ⟨ad, c, sz, cs, rfl, hcap, hs, hz, hc, h1, hrr⟩
  · rw [iR_eq_nil] at h0; subst h0; simp at hl0
  have hsz : sz = 1 := by
    have : (iR l)[0]? = some [I l[0]] := by simp [iR_get, hl0]
    have := hz _ (List.mem_of_getElem? this)
    simpa using this.symm
  subst hsz
  have hcell : ∀ j (hj : j < l.length), w.cell? (ad.add j) = some (.int .i64 l[j]) := by
    intro j hj
    have e1 := hc j 0 (by rw [iR_length]; exact hj) (by omega)
    simp only [Nat.mul_one, Nat.add_zero] at e1
    rw [e1]
    obtain ⟨e2, _⟩ := (hrr j 0 _ (at2_iR' hj)).inv_v
    rw [e2]
  obtain ⟨b, off, p⟩ := ad
  cases p with
  | some p =>
    have := hcell 0 hl0
    simp only [Addr.add, World.cell?] at this
    split at this <;> simp at this
  | none =>
  have key := Any.slices_Clone_int Try.laysNm215 b off l.length c l w (Nat.le_refl _) (by omega) (fun j hj => by
    have := hcell j hj
    rw [add_none] at this
    rw [this]; simp [List.getD, hj])
  rw [iR_length]
  refine Calls.mono key ?_
  rintro e w' ⟨v', rfl, hown, hnn, hb⟩
  have H0 : HRel ⟨w, S, fun _ => False⟩ [] Pl.none w := ⟨fun k ob hk => by simp at hk, fun k k' ob ob' u u' b hk => by simp at hk, fun k ob ver hk => by simp at hk, fun _ _ _ => rfl, Frm.refl _ _, fun b ⟨k, ob, u, hk, _⟩ => by simp at hk, fun b hb => ⟨hS b hb, fun h => h⟩⟩
  rw [List.take_length] at hown
  rcases hown.2 with ⟨h2, _⟩ | ⟨g, cap, cur, rfl, hg, hcur, a1, a2, a3, a4⟩
  · exact absurd h2 hnn
  have hp := H0.push hb (iOb l) (.slice (some ⟨g, 0, none⟩) l.length cap) rfl (fun r hr => by simpa [iOb] using iR_row hr)
    (.inr ⟨g, cap, cur, hcur, a3, by simpa [iOb, iR_length] using a1, a2, by simp [iOb, iR_length]⟩) (fun b hb => by simp [blk] at hb; omega) (fun S' β' tr i j x hx => by
      obtain ⟨hi, rfl, rfl⟩ := at2_iR hx
      refine ⟨g, .int .i64 l[i], rfl, ?_, rfl, .v _ rfl⟩
      have e1 : (cur.toList.take (l.length * 1))[i]? = (l.map (Value.int .i64))[i]? := by rw [a4]
      rw [List.getElem?_take_of_lt (by omega), Array.getElem?_toList] at e1
      simp only [World.cell?, hcur]
      simp [iOb, e1, hi])
  exact ⟨_, _, rfl, hp.1, by simp [iOb], .osl 0 0 _ (by simp) rfl⟩

def msr (l : List Int) : List Int := l.mergeSort fun x y => decide (x ≤ y)
theorem msr_len (l : List Int) : (msr l).length = l.length := by simp [msr]
def M57 : MFun := ⟨[true], fun xs obs => ∃ l, xs = [.osl 0 0] ∧ obs = [iOb l] ∧ 0 < l.length ∧ l.length ≤ 1048576, fun _ obs => (.tup [], obs.map fun ob => iOb (msr (deIs (.sl ob.rows))))⟩
theorem m57 : GenM Try.prog 57 M57 := by
  refine ⟨fun args w => callFunc_enter Try.func57 (by decide) rfl args w, ?_⟩
  rintro w S β obs vs xs ⟨l, rfl, rfl, hl0, hl⟩ hvs H hlv hr
  obtain ⟨v, rfl⟩ : ∃ v, vs = #[v] := by
    obtain ⟨ls⟩ := vs
    match ls, hvs with
    | [v], _ => exact ⟨v, rfl⟩
  have hres : M57.res [.osl 0 0] [iOb l] = (.tup [], [iOb (msr l)]) := by simp [M57, iOb, deIs_sl]
  rw [hres]
  obtain ⟨hv, _⟩ := (hr 0 (.osl 0 0) v rfl rfl).inv_osl
  obtain ⟨s1, s2, u, hu, hsh, hcells⟩ := H.objs 0 (iOb l) rfl
  have huv : u = v := by rw [show (iOb l).ver = 0 from rfl, hv] at hu; injection hu with hu; exact hu.symm
  subst huv
  rcases hsh with ⟨_, h0, _⟩ | ⟨g, cap, cur, hcur, a1, a2, a3, a4⟩
  · have : iR l = [] := h0
    rw [iR_eq_nil] at this; subst this; simp at hl0
  have hue : u = .slice (some ⟨g, 0, none⟩) l.length cap := by simpa [iOb, iR_length] using a4
  subst hue
  have a1' : cur.size = cap * 1 := a1
  have hlc : l.length ≤ cap := by simpa [iOb, iR_length] using a2
  have hcell : ∀ j (hj : j < l.length), cur[j]? = some (.int .i64 l[j]) := by
    intro j hj
    obtain ⟨g', cc, e1, e2, _, e3⟩ := hcells j 0 _ (at2_iR' hj)
    simp [blk] at e1
    subst e1
    obtain ⟨e4, _⟩ := e3.inv_v
    rw [e4] at e2
    simp only [World.cell?, hcur] at e2
    simpa [iOb] using e2
  have ht : cur.toList.take l.length = l.map (Value.int .i64) := by
    apply List.ext_getElem?
    intro j
    by_cases hj : j < l.length
    · rw [List.getElem?_take_of_lt hj, Array.getElem?_toList, hcell j hj]; simp [hj]
    · rw [List.getElem?_take_eq_none (by omega), List.getElem?_eq_none (by simp; omega)]
  have hg : g < w.heap.size := (Array.getElem?_eq_some_iff.1 hcur).1
  refine Calls.mono (Any.slices_Sort_int Try.lays189 g 0 cap l w (holds_of_blockI hcur ht) hg (by omega)) ?_
  rintro e w' ⟨rfl, n, os, rfl⟩
  have hgr := grownBy_sortedI (w := w) (g := g) (n := n) (os := os) (msr l).toArray
  have hh := heap_sortedI (w := w) (g := g) (n := n) (os := os) (msr l).toArray hcur
  have htk := take_putCellsI cur (msr l) (by rw [msr_len]; omega)
  change w.grownBy (Sort.grow (Sort.putRow (Value.int .i64) (Sort.ahead w n) g 0 (msr l).toArray) os) (some g) at hgr
  have hput := H.put (w' := Sort.grow (Sort.putRow (Value.int .i64) (Sort.ahead w n) g 0 (msr l).toArray) os) (k := 0) (ob := iOb l) rfl rfl hu (iOb (msr l)) (.slice (some ⟨g, 0, none⟩) l.length cap) rfl (.inl ⟨rfl, rfl⟩) rfl
    hgr.os hgr.tape hgr.output hgr.size (fun b hb hne => hgr.block b hb (by simpa [blk] using fun e => hne (by simp [blk, e])))
    (fun b hb => .inl hb) (fun r hr => by simpa [iOb] using iR_row hr)
    (.inr ⟨g, cap, _, hh, by simp [Sort.putCells, a1', iOb], by simpa [iOb, iR_length, msr_len] using hlc, a3, by simp [iOb, iR_length, msr_len]⟩)
    (fun S' β' tr i j x hx => by
      obtain ⟨hi, rfl, rfl⟩ := at2_iR hx
      refine ⟨g, .int .i64 (msr l)[i], rfl, ?_, rfl, .v _ rfl⟩
      have e1 : ((Sort.putCells (Value.int .i64) 0 (msr l).toArray cur).toList.take (msr l).length)[i]? = ((msr l).map (Value.int .i64))[i]? := by rw [htk]
      rw [List.getElem?_take_of_lt hi, Array.getElem?_toList] at e1
      simp only [World.cell?, hh]
      simp [iOb, e1, hi])
  refine ⟨_, _, rfl, hput.1, by simp [iOb], ?_, .tup _ _ rfl (by simp)⟩
  rintro (_ | k) ob hob
  · simp at hob; subst hob
    exact ⟨_, rfl, ⟨rfl, rfl, rfl, rfl⟩, by rw [show (iOb (msr l)).ver = 0 from rfl, Pl.set_same]; exact hu.symm⟩
  · simp at hob
end Go.Proofs
