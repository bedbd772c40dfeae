/-
  What is proved here: contracts of slices.Clone and slices.Sort at whole numbers, out of the library's own proved ones. Condition: none.
-/
import Derived.Test.YtlbeedbkafjfcaaSA6
import Derived.Test.YtlbeedbkafjfcaaAbs18
import Derived.Shelf.Sort.Plain
import Derived.Shelf.Slices.Clone
import Derived.Sort.OwnSortedInts
namespace Go.Proofs
open Go.Shelf
def Try.lays189_ren : Go.Shelf.Ren := ⟨fun | 189 => 57 | 125 => 61 | 257 => 60 | 128 => 71 | 129 => 72 | 294 => 62 | 295 => 63 | 296 => 64 | 297 => 65 | 298 => 66 | 299 => 67 | 216 => 68 | 300 => 69 | 301 => 70 | 328 => 73 | 329 => 74 | 330 => 75 | 331 => 76 | 332 => 77 | 215 => 78 | 343 => 79 | n => n, fun | 28 => 22 | 3 => 3 | 46 => 54 | 0 => 0 | 51 => 63 | 53 => 65 | 4 => 4 | 183 => 57 | 182 => 56 | 131 => 23 | 5 => 5 | 9 => 9 | 218 => 66 | 222 => 70 | 228 => 72 | 229 => 43 | n => n, fun | n => n⟩
theorem Try.lays189 : Go.Proofs.Lays.n189 Try.prog Try.lays189_ren := {
  mixed := by kernel_rfl
  f125 := Try.func61.trans (congrArg some (by kernel_rfl))
  f128 := Try.func71.trans (congrArg some (by kernel_rfl))
  f129 := Try.func72.trans (congrArg some (by kernel_rfl))
  f189 := Try.func57.trans (congrArg some (by kernel_rfl))
  f215 := Try.func78.trans (congrArg some (by kernel_rfl))
  f216 := Try.func68.trans (congrArg some (by kernel_rfl))
  f257 := Try.func60.trans (congrArg some (by kernel_rfl))
  f294 := Try.func62.trans (congrArg some (by kernel_rfl))
  f295 := Try.func63.trans (congrArg some (by kernel_rfl))
  f296 := Try.func64.trans (congrArg some (by kernel_rfl))
  f297 := Try.func65.trans (congrArg some (by kernel_rfl))
  f298 := Try.func66.trans (congrArg some (by kernel_rfl))
  f299 := Try.func67.trans (congrArg some (by kernel_rfl))
  f300 := Try.func69.trans (congrArg some (by kernel_rfl))
  f301 := Try.func70.trans (congrArg some (by kernel_rfl))
  f328 := Try.func73.trans (congrArg some (by kernel_rfl))
  f329 := Try.func74.trans (congrArg some (by kernel_rfl))
  f330 := Try.func75.trans (congrArg some (by kernel_rfl))
  f331 := Try.func76.trans (congrArg some (by kernel_rfl))
  f332 := Try.func77.trans (congrArg some (by kernel_rfl))
  f343 := Try.func79.trans (congrArg some (by kernel_rfl))
  t0 := Try.underlying0
  a0 := Try.isAgg0
  z0 := Try.sizeOf0
  v0 := Try.zeroValue0
  t3 := Try.underlying3
  a3 := Try.isAgg3
  z3 := Try.sizeOf3
  v3 := Try.zeroValue3
  t4 := Try.underlying4
  a4 := Try.isAgg4
  z4 := Try.sizeOf4
  v4 := Try.zeroValue4
  t5 := Try.underlying5
  a5 := Try.isAgg5
  z5 := Try.sizeOf5
  v5 := Try.zeroValue5
  t9 := Try.underlying9
  a9 := Try.isAgg9
  z9 := Try.sizeOf9
  v9 := Try.zeroValue9
  t28 := Try.underlying22
  a28 := Try.isAgg22
  z28 := Try.sizeOf22
  v28 := Try.zeroValue22
  t46 := Try.underlying54
  a46 := Try.isAgg54
  z46 := Try.sizeOf54
  v46 := Try.zeroValue54
  t51 := Try.underlying63
  a51 := Try.isAgg63
  z51 := Try.sizeOf63
  v51 := Try.zeroValue63
  t53 := Try.underlying65
  a53 := Try.isAgg65
  z53 := Try.sizeOf65
  v53 := Try.zeroValue65
  t131 := Try.underlying23
  a131 := Try.isAgg23
  z131 := Try.sizeOf23
  v131 := Try.zeroValue23
  t182 := Try.underlying56
  a182 := Try.isAgg56
  z182 := Try.sizeOf56
  v182 := Try.zeroValue56
  t183 := Try.underlying57
  a183 := Try.isAgg57
  z183 := Try.sizeOf57
  v183 := Try.zeroValue57
  t218 := Try.underlying66
  a218 := Try.isAgg66
  z218 := Try.sizeOf66
  v218 := Try.zeroValue66
  t222 := Try.underlying70
  a222 := Try.isAgg70
  z222 := Try.sizeOf70
  v222 := Try.zeroValue70
  t228 := Try.underlying72
  a228 := Try.isAgg72
  z228 := Try.sizeOf72
  v228 := Try.zeroValue72
  t229 := Try.underlying43
  a229 := Try.isAgg43
  z229 := Try.sizeOf43
  v229 := Try.zeroValue43 }
def Try.laysNm215_ren : Go.Shelf.Ren := ⟨fun | 15 => 56 | n => n, fun | 22 => 22 | 3 => 3 | 4 => 4 | n => n, fun | n => n⟩
theorem Try.laysNm215 : Go.Proofs.Lays2.n15 Try.prog Try.laysNm215_ren := {
  mixed := by kernel_rfl
  f15 := Try.func56.trans (congrArg some (by kernel_rfl))
  t3 := Try.underlying3
  a3 := Try.isAgg3
  z3 := Try.sizeOf3
  v3 := Try.zeroValue3
  t4 := Try.underlying4
  a4 := Try.isAgg4
  z4 := Try.sizeOf4
  v4 := Try.zeroValue4
  t22 := Try.underlying22
  a22 := Try.isAgg22
  z22 := Try.sizeOf22
  v22 := Try.zeroValue22
  i3 := by kernel_rfl }
end Go.Proofs
namespace Go.Proofs
open Go.Abs Go.RowKit
set_option linter.unusedSimpArgs false
set_option maxHeartbeats 4000000

theorem at2_iR {l : List Int} {i j : Nat} {x : X} (h : at2 (iR l) i j = some x) : ∃ hi : i < l.length, j = 0 ∧ x = I l[i] := by
  simp only [at2, iR_get] at h
  rcases Nat.lt_or_ge i l.length with hi | hi
  · rw [List.getElem?_eq_getElem hi] at h
    simp only [Option.map_some, Option.bind_some] at h
    cases j with
    | zero => simp at h; exact ⟨hi, rfl, h.symm⟩
    | succ j => simp at h
  · rw [List.getElem?_eq_none hi] at h; cases h
theorem at2_iR' {l : List Int} {i : Nat} (h : i < l.length) : at2 (iR l) i 0 = some (I l[i]) := by
  simp [at2, iR_get, h]

def F56 : Fun := ⟨fun xs => ∃ l, xs = [ints l] ∧ 0 < l.length ∧ l.length ≤ 1048576, fun xs => (.osl 0 0, [iOb (deIs (xs.getD 0 .top))])⟩
theorem c56 : GenC Try.prog 56 F56 := by
  refine ⟨fun args w => callFunc_enter Try.func56 (by decide) rfl args w, ?_⟩
  rintro w S vs xs ⟨l, rfl, hl0, hl⟩ hvs hr hS
  obtain ⟨v, rfl⟩ : ∃ v, vs = #[v] := by
    obtain ⟨ls⟩ := vs
    match ls, hvs with
    | [v], _ => exact ⟨v, rfl⟩
  have hv := hr 0 (ints l) v rfl rfl
  have hres : F56.res [ints l] = (.osl 0 0, [iOb l]) := by simp [F56, ints, deIs_sl]
  rw [hres]
  rcases hv.inv_sl with ⟨h0, _⟩ | ⟨ad, c, sz, cs, rfl, hcap, hs, hz, hc, h1, hrr⟩
  · rw [iR_eq_nil] at h0; subst h0; simp at hl0
  have hsz : sz = 1 := by
    have : (iR l)[0]? = some [I l[0]] := by simp [iR_get, hl0]
    have := hz _ (List.mem_of_getElem? this)
    simpa using this.symm
  subst hsz
  have hcell : ∀ j (hj : j < l.length), w.cell? (ad.add j) = some (.int .i64 l[j]) := by
    intro j hj
    have e1 := hc j 0 (by rw [iR_length]; exact hj) (by omega)
    simp only [Nat.mul_one, Nat.add_zero] at e1
    rw [e1]
    obtain ⟨e2, _⟩ := (hrr j 0 _ (at2_iR' hj)).inv_v
    rw [e2]
  obtain ⟨b, off, p⟩ := ad
  cases p with
  | some p =>
    have := hcell 0 hl0
    simp only [Addr.add, World.cell?] at this
    split at this <;> simp at this
  | none =>
  have key := Any.slices_Clone_int Try.laysNm215 b off l.length c l w (Nat.le_refl _) (by omega) (fun j hj => by
    have := hcell j hj
    rw [add_none] at this
    rw [this]; simp [List.getD, hj])
  rw [iR_length]
  refine Calls.mono key ?_
  rintro e w' ⟨v', rfl, hown, hnn, hb⟩
  have H0 : HRel ⟨w, S, fun _ => False⟩ [] Pl.none w := ⟨fun k ob hk => by simp at hk, fun k k' ob ob' u u' b hk => by simp at hk, fun k ob ver hk => by simp at hk, fun _ _ _ => rfl, Frm.refl _ _, fun b ⟨k, ob, u, hk, _⟩ => by simp at hk, fun b hb => ⟨hS b hb, fun h => h⟩⟩
  rw [List.take_length] at hown
  rcases hown.2 with ⟨h2, _⟩ | ⟨g, cap, cur, rfl, hg, hcur, a1, a2, a3, a4⟩
  · exact absurd h2 hnn
  have hp := H0.push hb (iOb l) (.slice (some ⟨g, 0, none⟩) l.length cap) rfl (fun r hr => by simpa [iOb] using iR_row hr)
    (.inr ⟨g, cap, cur, hcur, a3, by simpa [iOb, iR_length] using a1, a2, by simp [iOb, iR_length]⟩) (fun b hb => by simp [blk] at hb; omega) (fun S' β' tr i j x hx => by
      obtain ⟨hi, rfl, rfl⟩ := at2_iR hx
      refine ⟨g, .int .i64 l[i], rfl, ?_, rfl, .v _ rfl⟩
      have e1 : (cur.toList.take (l.length * 1))[i]? = (l.map (Value.int .i64))[i]? := by rw [a4]
      rw [List.getElem?_take_of_lt (by omega), Array.getElem?_toList] at e1
      simp only [World.cell?, hcur]
      simp [iOb, e1, hi])
  exact ⟨_, _, rfl, hp.1, by simp [iOb], .osl 0 0 _ (by simp) rfl⟩

def msr (l : List Int) : List Int := l.mergeSort fun x y => decide (x ≤ y)
theorem msr_len (l : List Int) : (msr l).length = l.length := by simp [msr]
def M57 : MFun := ⟨[true], fun xs obs => ∃ l, xs = [.osl 0 0] ∧ obs = [iOb l] ∧ 0 < l.length ∧ l.length ≤ 1048576, fun _ obs => (.tup [], obs.map fun ob => iOb (msr (deIs (.sl ob.rows))))⟩
theorem m57 : GenM Try.prog 57 M57 := by
  refine ⟨fun args w => callFunc_enter Try.func57 (by decide) rfl args w, ?_⟩
  rintro w S β obs vs xs ⟨l, rfl, rfl, hl0, hl⟩ hvs H hlv hr
  obtain ⟨v, rfl⟩ : ∃ v, vs = #[v] := by
    obtain ⟨ls⟩ := vs
    match ls, hvs with
    | [v], _ => exact ⟨v, rfl⟩
  have hres : M57.res [.osl 0 0] [iOb l] = (.tup [], [iOb (msr l)]) := by simp [M57, iOb, deIs_sl]
  rw [hres]
  obtain ⟨hv, _⟩ := (hr 0 (.osl 0 0) v rfl rfl).inv_osl
  obtain ⟨s1, s2, u, hu, hsh, hcells⟩ := H.objs 0 (iOb l) rfl
  have huv : u = v := by rw [show (iOb l).ver = 0 from rfl, hv] at hu; injection hu with hu; exact hu.symm
  subst huv
  rcases hsh with ⟨_, h0, _⟩ | ⟨g, cap, cur, hcur, a1, a2, a3, a4⟩
  · have : iR l = [] := h0
    rw [iR_eq_nil] at this; subst this; simp at hl0
  have hue : u = .slice (some ⟨g, 0, none⟩) l.length cap := by simpa [iOb, iR_length] using a4
  subst hue
  have a1' : cur.size = cap * 1 := a1
  have hlc : l.length ≤ cap := by simpa [iOb, iR_length] using a2
  have hcell : ∀ j (hj : j < l.length), cur[j]? = some (.int .i64 l[j]) := by
    intro j hj
    obtain ⟨g', cc, e1, e2, _, e3⟩ := hcells j 0 _ (at2_iR' hj)
    simp [blk] at e1
    subst e1
    obtain ⟨e4, _⟩ := e3.inv_v
    rw [e4] at e2
    simp only [World.cell?, hcur] at e2
    simpa [iOb] using e2
  have ht : cur.toList.take l.length = l.map (Value.int .i64) := by
    apply List.ext_getElem?
    intro j
    by_cases hj : j < l.length
    · rw [List.getElem?_take_of_lt hj, Array.getElem?_toList, hcell j hj]; simp [hj]
    · rw [List.getElem?_take_eq_none (by omega), List.getElem?_eq_none (by simp; omega)]
  have hg : g < w.heap.size := (Array.getElem?_eq_some_iff.1 hcur).1
  refine Calls.mono (Any.slices_Sort_int Try.lays189 g 0 cap l w (holds_of_blockI hcur ht) hg (by omega)) ?_
  rintro e w' ⟨rfl, n, os, rfl⟩
  have hgr := grownBy_sortedI (w := w) (g := g) (n := n) (os := os) (msr l).toArray
  have hh := heap_sortedI (w := w) (g := g) (n := n) (os := os) (msr l).toArray hcur
  have htk := take_putCellsI cur (msr l) (by rw [msr_len]; omega)
  change w.grownBy (Sort.grow (Sort.putRow (Value.int .i64) (Sort.ahead w n) g 0 (msr l).toArray) os) (some g) at hgr
  have hput := H.put (w' := Sort.grow (Sort.putRow (Value.int .i64) (Sort.ahead w n) g 0 (msr l).toArray) os) (k := 0) (ob := iOb l) rfl rfl hu (iOb (msr l)) (.slice (some ⟨g, 0, none⟩) l.length cap) rfl (.inl ⟨rfl, rfl⟩) rfl
    hgr.os hgr.tape hgr.output hgr.size (fun b hb hne => hgr.block b hb (by simpa [blk] using fun e => hne (by simp [blk, e])))
    (fun b hb => .inl hb) (fun r hr => by simpa [iOb] using iR_row hr)
    (.inr ⟨g, cap, _, hh, by simp [Sort.putCells, a1', iOb], by simpa [iOb, iR_length, msr_len] using hlc, a3, by simp [iOb, iR_length, msr_len]⟩)
    (fun S' β' tr i j x hx => by
      obtain ⟨hi, rfl, rfl⟩ := at2_iR hx
      refine ⟨g, .int .i64 (msr l)[i], rfl, ?_, rfl, .v _ rfl⟩
      have e1 : ((Sort.putCells (Value.int .i64) 0 (msr l).toArray cur).toList.take (msr l).length)[i]? = ((msr l).map (Value.int .i64))[i]? := by rw [htk]
      rw [List.getElem?_take_of_lt hi, Array.getElem?_toList] at e1
      simp only [World.cell?, hh]
      simp [iOb, e1, hi])
  refine ⟨_, _, rfl, hput.1, by simp [iOb], ?_, .tup _ _ rfl (by simp)⟩
  rintro (_ | k) ob hob
  · simp at hob; subst hob
    exact ⟨_, rfl, ⟨rfl, rfl, rfl, rfl⟩, by rw [show (iOb (msr l)).ver = 0 from rfl, Pl.set_same]; exact hu.symm⟩
  · simp at hob
end Go.Proofs
