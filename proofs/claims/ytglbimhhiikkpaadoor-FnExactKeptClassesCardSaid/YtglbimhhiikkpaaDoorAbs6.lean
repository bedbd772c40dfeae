/-
  What is proved here: new variables and stores into objects of the call's own, in every related world. Condition: the operation's own condition, in the abstract state.
-/
import Derived.Test.YtglbimhhiikkpaaDoorAbs5
namespace Go.Abs
open Go.RowKit

def cellsX : X → Option (List X)
  | .agg cs => some cs
  | .top | .tup _ | .gd _ _ | .pin _ _ _ => none
  | x => some [x]

theorem rep_cells {w : World} {S : Nat → Prop} {β : Pl} {u : Value} {x : X} {xs : List X} (hr : Rep w S β u x) (hx : cellsX x = some xs) :
    u.cells.size = xs.length ∧ (∀ c ∈ u.cells, c.oneCell' = true) ∧ ∀ (j : Nat) x c, xs[j]? = some x → u.cells[j]? = some c → Rep w S β c x := by
  have one : u.oneCell' = true → xs = [x] → u.cells.size = xs.length ∧ (∀ c ∈ u.cells, c.oneCell' = true) ∧ ∀ (j : Nat) x c, xs[j]? = some x → u.cells[j]? = some c → Rep w S β c x := by
    intro h1 e
    subst e
    have hcs : u.cells = #[u] := by cases u <;> first | rfl | simp [Value.oneCell'] at h1
    rw [hcs]
    refine ⟨rfl, fun c hc => by simp at hc; subst hc; exact h1, fun j y c hy hc => ?_⟩
    cases j with
    | zero => simp at hy hc; subst hy hc; exact hr
    | succ j => simp at hy
  cases hr with
  | top => simp [cellsX] at hx
  | tup => simp [cellsX] at hx
  | gd => simp [cellsX] at hx
  | pin => simp [cellsX] at hx
  | agg cs ys hl h1 hrr =>
    simp only [cellsX, Option.some.injEq] at hx
    subst hx
    exact ⟨hl, h1, hrr⟩
  | v _ h => exact one (plain_one h) (by simp [cellsX] at hx; exact hx.symm)
  | nil => exact one rfl (by simp [cellsX] at hx; exact hx.symm)
  | sl => exact one rfl (by simp [cellsX] at hx; exact hx.symm)
  | pt => exact one rfl (by simp [cellsX] at hx; exact hx.symm)
  | fn => exact one rfl (by simp [cellsX] at hx; exact hx.symm)
  | osl _ _ _ _ h1 => exact one h1 (by simp [cellsX] at hx; exact hx.symm)
  | osub => exact one rfl (by simp [cellsX] at hx; exact hx.symm)
  | osub0 => exact one rfl (by simp [cellsX] at hx; exact hx.symm)
  | optr => exact one rfl (by simp [cellsX] at hx; exact hx.symm)

/-! ### a new variable -/
def eBox (s : St) (T : Nat) (x : X) : Eff :=
  match cellsX x with
  | some xs => ⟨True, .optr s.h.length 0 0 0, s.h ++ [⟨T, xs.length, 0, [xs], true, true, none⟩]⟩
  | none => ⟨False, .top, s.h⟩

theorem newBlock_push {c : Cx} {h : List Ob} {β : Pl} {w : World} (H : HRel c h β w) (T : Nat) (xs : List X) (cs : Array Value) (hl : cs.size = xs.length) (h1 : ∀ c ∈ cs, c.oneCell' = true)
    (hr : ∀ (j : Nat) x cc, xs[j]? = some x → cs[j]? = some cc → Rep w (Stab c.w0 c.S0 h β w) β cc x) :
    HRel c (h ++ [⟨T, xs.length, 0, [xs], true, true, none⟩]) (β.set h.length 0 (.pointer (some ⟨w.heap.size, 0, none⟩)) xs.length) (w.alloc (.cells cs T)) ∧
      ∀ v x, Rep w (Stab c.w0 c.S0 h β w) β v x → Rep (w.alloc (.cells cs T)) (Stab c.w0 c.S0 (h ++ [⟨T, xs.length, 0, [xs], true, true, none⟩]) (β.set h.length 0 (.pointer (some ⟨w.heap.size, 0, none⟩)) xs.length) (w.alloc (.cells cs T))) (β.set h.length 0 (.pointer (some ⟨w.heap.size, 0, none⟩)) xs.length) v x := by
  have hnew : (w.alloc (.cells cs T)).heap[w.heap.size]? = some (.cells cs T (0, 0)) := heap_alloc_new w _
  refine H.push ((Below.refl _ _).alloc (Nat.le_refl _) _) ⟨T, xs.length, 0, [xs], true, true, none⟩ _ rfl (by simp) (.inr (.inr ⟨w.heap.size, 1, cs, hnew, by simp [hl], by simp, by simp [maxLen], by simp⟩)) (fun b hb => by simp [blk] at hb; omega) ?_
  intro S' β' tr i j x hx
  cases i with
  | succ i => simp [at2] at hx
  | zero =>
    simp only [at2, List.getElem?_cons_zero, Option.bind_some] at hx
    have hj : j < cs.size := by
      rcases Nat.lt_or_ge j xs.length with h | h
      · omega
      · rw [List.getElem?_eq_none h] at hx; cases hx
    have hcj : cs[j]? = some cs[j] := Array.getElem?_eq_getElem hj
    exact ⟨w.heap.size, cs[j], rfl, by simp only [Nat.zero_mul, Nat.zero_add]; rw [cell_of_row _ _ _ _ _ _ hnew]; exact hcj, h1 _ (Array.getElem_mem _), tr _ _ (hr j x _ hx hcj)⟩

theorem box_does {P : Program} {c : Cx} {s : St} {β : Pl} {w : World} {T : Nat} {u : Value} {x : X} (H : HRel c s.h β w) (hr : Rep w (Stab c.w0 c.S0 s.h β w) β u x) (hc : (eBox s T x).cond) :
    Does P c s β w (Instr.box T u) (eBox s T x) := by
  unfold eBox at hc ⊢
  split at hc
  · rename_i xs hx
    obtain ⟨h1, h2, h3⟩ := rep_cells hr hx
    obtain ⟨g1, g2⟩ := newBlock_push H T xs u.cells h1 h2 h3
    refine ⟨.pointer (some ⟨w.heap.size, 0, none⟩), _, _, ?_, g1, g2, ?_⟩
    · simp [Instr.box, newVar, newRow]
    · have := Rep.optr (w := w.alloc (.cells u.cells T)) (S := Stab c.w0 c.S0 (s.h ++ [⟨T, xs.length, 0, [xs], true, true, none⟩]) (β.set s.h.length 0 (.pointer (some ⟨w.heap.size, 0, none⟩)) xs.length) (w.alloc (.cells u.cells T)))
        (β := β.set s.h.length 0 (.pointer (some ⟨w.heap.size, 0, none⟩)) xs.length) s.h.length 0 0 0 w.heap.size _ (Pl.set_same _ _ _ _ _) rfl
      simpa using this
  · exact hc.elim

def eAlloc (P : Program) (s : St) (T : Nat) : Eff :=
  ⟨hasZ P T = true ∧ (zeroC P T).all plain = true, .optr s.h.length 0 0 0, s.h ++ [⟨T, (zeroC P T).length, 0, [(zeroC P T).map .v], true, true, none⟩]⟩

theorem hasZ_eq {P : Program} {T : Nat} (h : hasZ P T = true) : ∃ i z, P.info? T = some i ∧ i.zero = some z ∧ zeroC P T = z.cells.toList := by
  unfold hasZ at h
  cases hi : P.info? T with
  | none => rw [hi] at h; simp at h
  | some i =>
    rw [hi] at h
    cases hz : i.zero with
    | none => simp [hz] at h
    | some z => exact ⟨i, z, rfl, hz, by simp [zeroC, hi, hz]⟩

theorem run_zeroValue {P : Program} {T : Nat} {i : TypeInfo} {z : Value} (hi : P.info? T = some i) (hz : i.zero = some z) (w : World) : (zeroValue T).run P w = .ok z w := by
  simp [zeroValue, typeInfo, hi, hz]

theorem alloc_does {P : Program} {c : Cx} {s : St} {β : Pl} {w : World} {T : Nat} (H : HRel c s.h β w) (hc : (eAlloc P s T).cond) : Does P c s β w (Instr.alloc T true (.tuple #[])) (eAlloc P s T) := by
  obtain ⟨h1, h2⟩ := hc
  obtain ⟨i, z, hi, hz, hzc⟩ := hasZ_eq h1
  have hall : ∀ (j : Nat) c, z.cells[j]? = some c → plain c = true := fun j c hcc => by
    rw [List.all_eq_true] at h2
    refine h2 c ?_
    rw [hzc, Array.mem_toList_iff]
    exact Array.mem_of_getElem? hcc
  obtain ⟨g1, g2⟩ := newBlock_push H T ((zeroC P T).map .v) z.cells (by simp [hzc]) (fun cc hcc => by
      obtain ⟨j, hj, e⟩ := Array.mem_iff_getElem.1 hcc
      exact plain_one (hall j cc (by rw [Array.getElem?_eq_some_iff]; exact ⟨hj, e⟩))) (fun j x cc hx hcc => by
      rw [List.getElem?_map, hzc, Array.getElem?_toList, hcc] at hx
      injection hx with hx
      subst hx
      exact .v _ (hall j cc hcc))
  have hlen : ((zeroC P T).map X.v).length = (zeroC P T).length := by simp
  rw [hlen] at g1 g2
  refine ⟨.pointer (some ⟨w.heap.size, 0, none⟩), _, _, ?_, g1, g2, ?_⟩
  · simp [Instr.alloc, run_zeroValue hi hz, newVar, newRow]
  · have := Rep.optr (w := w.alloc (.cells z.cells T)) (S := Stab c.w0 c.S0 (s.h ++ [⟨T, (zeroC P T).length, 0, [(zeroC P T).map .v], true, true, none⟩]) (β.set s.h.length 0 (.pointer (some ⟨w.heap.size, 0, none⟩)) (zeroC P T).length) (w.alloc (.cells z.cells T)))
      (β := β.set s.h.length 0 (.pointer (some ⟨w.heap.size, 0, none⟩)) (zeroC P T).length) s.h.length 0 0 0 w.heap.size _ (Pl.set_same _ _ _ _ _) rfl
    simpa [eAlloc] using this

/-! ### store -/
def splice (l : List X) (j : Nat) (xs : List X) : List X := l.take j ++ xs ++ l.drop (j + xs.length)
def putCells (h : List Ob) (k i j : Nat) (xs : List X) : List Ob :=
  match h[k]? with
  | some ob => h.set k { ob with rows := ob.rows.set i (splice (rowOf h k i) j xs) }
  | none => h
def liveOk (h : List Ob) (k : Nat) : Prop := ((h[k]?).map (·.live)).getD false = true

def eStore (P : Program) (s : St) (T : Nat) (a x : X) : Eff :=
  match a with
  | .optr k ver i j => match cellsX x with
    | some xs => ⟨okT P T = true ∧ xs.length = szOf P T ∧ 0 < xs.length ∧ verOk s.h k ver ∧ liveOk s.h k ∧ j + xs.length ≤ (rowOf s.h k i).length, .top, putCells s.h k i j xs⟩
    | none => ⟨False, .top, s.h⟩
  | _ => ⟨False, .top, s.h⟩

theorem splice_get (l : List X) (j : Nat) (xs : List X) (m : Nat) (h : j + xs.length ≤ l.length) : (splice l j xs)[m]? = if j ≤ m ∧ m < j + xs.length then xs[m - j]? else l[m]? := by
  unfold splice
  have h1 : (l.take j).length = j := by simp; omega
  by_cases hm : m < j
  · rw [if_neg (by omega), List.append_assoc, List.getElem?_append_left (by omega), List.getElem?_take, if_pos hm]
  · by_cases hm2 : m < j + xs.length
    · rw [if_pos ⟨by omega, hm2⟩, List.getElem?_append_left (by simp; omega), List.getElem?_append_right (by omega), h1]
    · rw [if_neg (by omega), List.getElem?_append_right (by simp; omega), List.getElem?_drop]
      congr 1
      simp
      omega
theorem splice_length (l : List X) (j : Nat) (xs : List X) (h : j + xs.length ≤ l.length) : (splice l j xs).length = l.length := by
  unfold splice; simp; omega

theorem rows_lt {rows : List (List X)} {sz i j : Nat} {x : X} (hz : ∀ r ∈ rows, r.length = sz) (hx : at2 rows i j = some x) : i < rows.length ∧ j < sz := by
  unfold at2 at hx
  cases hr : rows[i]? with
  | none => rw [hr] at hx; cases hx
  | some r =>
    rw [hr] at hx
    have h1 : i < rows.length := by
      rcases Nat.lt_or_ge i rows.length with h | h
      · exact h
      · rw [List.getElem?_eq_none h] at hr; cases hr
    refine ⟨h1, ?_⟩
    rw [← hz r (List.mem_of_getElem? hr)]
    rcases Nat.lt_or_ge j r.length with h | h
    · exact h
    · simp only [Option.bind_some] at hx; rw [List.getElem?_eq_none h] at hx; cases hx

theorem store_does {P : Program} {c : Cx} {s : St} {β : Pl} {w : World} {T : Nat} {ua u : Value} {a x : X} (H : HRel c s.h β w) (hra : Rep w (Stab c.w0 c.S0 s.h β w) β ua a) (hr : Rep w (Stab c.w0 c.S0 s.h β w) β u x)
    (hc : (eStore P s T a x).cond) : ∃ w' β', (Instr.storeAt T ua u).run P w = .ok () w' ∧ HRel c (eStore P s T a x).h β' w' ∧
      (∀ u x', Rep w (Stab c.w0 c.S0 s.h β w) β u x' → Rep w' (Stab c.w0 c.S0 (eStore P s T a x).h β' w') β' u x') := by
  unfold eStore at hc ⊢
  split at hc
  case h_2 => exact hc.elim
  rename_i k ver i j
  split at hc
  case h_2 => exact hc.elim
  rename_i xs hxs
  obtain ⟨hT, hlen, hpos, hv, hlive, hroom⟩ := hc
  obtain ⟨g, v, hv', hg, rfl⟩ := hra.inv_optr
  obtain ⟨ob, hk, rfl⟩ := verOk_get hv
  obtain ⟨c1, c2, c3⟩ := rep_cells hr hxs
  have hl : ob.live = true := by simpa [liveOk, hk] using hlive
  obtain ⟨hsz, hrows, v0, hv0, hsh, hcells⟩ := H.objs k ob hk
  have e0 : v = v0 := by rw [hv'] at hv0; injection hv0
  subst e0
  have hrow : rowOf s.h k i = (ob.rows[i]?).getD [] := by simp [rowOf, hk]
  have hi : i < ob.rows.length := by
    rcases Nat.lt_or_ge i ob.rows.length with h | h
    · exact h
    · rw [hrow, List.getElem?_eq_none h] at hroom; simp only [Option.getD_none, List.length_nil] at hroom; omega
  have hrow' : rowOf s.h k i = ob.rows[i] := by rw [hrow, List.getElem?_eq_getElem hi]; rfl
  have hrl : ob.rows[i].length = ob.sz := hrows _ (List.getElem_mem _)
  rw [hrow', hrl] at hroom
  have hput : putCells s.h k i j xs = s.h.set k { ob with rows := ob.rows.set i (splice ob.rows[i] j xs) } := by simp [putCells, hk, hrow']
  show ∃ w' β', _ ∧ HRel c (putCells s.h k i j xs) β' w' ∧ _
  rw [hput]
  -- the block
  rcases hsh with ⟨rfl, _⟩ | ⟨_, _, _, _, _, _, h0, _⟩ | ⟨g', cap, cur, hcur, hcs, hcap, hmax, hu⟩
  · simp [blk] at hg
  · rw [h0] at hi; simp at hi
  have hgg : g' = g := by
    split at hu
    · obtain ⟨_, _, rfl⟩ := hu; simpa [blk] using hg
    · subst hu; simpa [blk] using hg
  subst hgg
  have hb1 : (i + 1) * ob.sz ≤ cap * ob.sz := Nat.mul_le_mul_right _ (by omega)
  have hb2 : (i + 1) * ob.sz = i * ob.sz + ob.sz := by rw [Nat.add_mul]; simp
  have hul : u.cells.toList.length = xs.length := by simp [c1]
  have hst := run_storeCells_at (P := P) g' (i * ob.sz + j) ob.ty u.cells.toList 0 cur w hcur (by rw [hul]; omega) (fun y hy => c2 y (by simpa using hy))
  simp only [Nat.add_zero] at hst
  have hrun : (Instr.storeAt T (.pointer (some ⟨g', i * β.sz k + j, none⟩)) u).run P w = .ok () (w.setRow g' (cur.toList.take (i * ob.sz + j) ++ u.cells.toList ++ cur.toList.drop (i * ob.sz + j + u.cells.toList.length)).toArray) := by
    have hne : ¬ u.cells.size ≠ szOf P T := by rw [c1, hlen]; simp
    simp only [Instr.storeAt, Instr.sureAddr, storeVar, Sem.run_bind, Sem.run_pure, Result.andThen_ok, run_sizeOf hT, Sem.run_ite, if_neg hne, hsz]
    exact hst
  refine ⟨_, β.set k ob.ver v ob.sz, hrun, ?_⟩
  generalize hnew : (cur.toList.take (i * ob.sz + j) ++ u.cells.toList ++ cur.toList.drop (i * ob.sz + j + u.cells.toList.length)).toArray = cur'
  have hnl : cur'.size = cur.size := by rw [← hnew]; simp; omega
  have hget : ∀ m, cur'[m]? = if i * ob.sz + j ≤ m ∧ m < i * ob.sz + j + xs.length then u.cells[m - (i * ob.sz + j)]? else cur[m]? := by
    intro m
    rw [← hnew]
    simp only [List.getElem?_toArray]
    have t1 : (cur.toList.take (i * ob.sz + j)).length = i * ob.sz + j := by simp; omega
    by_cases hm : m < i * ob.sz + j
    · rw [if_neg (by omega), List.append_assoc, List.getElem?_append_left (by omega), List.getElem?_take, if_pos hm]; simp
    · by_cases hm2 : m < i * ob.sz + j + xs.length
      · rw [if_pos ⟨by omega, hm2⟩, List.getElem?_append_left (by simp only [List.length_append]; omega), List.getElem?_append_right (by omega), t1]; simp
      · rw [if_neg (by omega), List.getElem?_append_right (by simp only [List.length_append]; omega), List.getElem?_drop]
        simp only [Array.getElem?_toList, List.length_append, t1, hul]
        congr 1
        omega
  have hw' : (w.setRow g' cur').heap[g']? = some (.cells cur' ob.ty (0, 0)) := setRow_heap w g' cur _ ob.ty _ hcur
  have hput' := H.put hk hl hv' { ob with rows := ob.rows.set i (splice ob.rows[i] j xs) } v hl (.inl ⟨rfl, rfl⟩) rfl (w' := w.setRow g' cur') rfl rfl rfl (by simp [World.setRow])
    (fun b _ hne => setRow_other w g' b cur' (fun e => hne (by rw [hg, e]))) (fun b hb => .inl hb)
    (fun r hr => by
      rcases List.mem_or_eq_of_mem_set hr with h | h
      · exact hrows r h
      · rw [h, splice_length _ _ _ (by rw [hrl]; exact hroom)]; exact hrl)
    (.inr (.inr ⟨g', cap, cur', hw', by rw [hnl]; exact hcs, by simpa using hcap, hmax, by simpa using hu⟩)) ?_
  · exact hput'
  · intro S' β' tr i' j' x' hx'
    have hcell : ∀ m y, cur'[m]? = some y → (w.setRow g' cur').cell? ⟨g', m, none⟩ = some y := fun m y hy => by simp [World.cell?, hw', hy]
    by_cases hii : i' = i
    · subst hii
      simp only [at2, List.getElem?_set_self hi, Option.bind_some] at hx'
      rw [splice_get _ _ _ _ (by rw [hrl]; exact hroom)] at hx'
      split at hx'
      · rename_i hin
        have hlt : j' - j < u.cells.size := by rw [c1]; omega
        have hcj : u.cells[j' - j]? = some (u.cells[j' - j]'hlt) := Array.getElem?_eq_getElem hlt
        refine ⟨g', _, hg, hcell _ _ (by rw [hget, if_pos (show _ ∧ _ from ⟨by show i' * ob.sz + j ≤ i' * ob.sz + j'; omega, by show i' * ob.sz + j' < _; omega⟩), show i' * ob.sz + j' - (i' * ob.sz + j) = j' - j by omega]; exact hcj), c2 _ (Array.getElem_mem _), tr _ _ (c3 _ x' _ hx' hcj)⟩
      · rename_i hin
        have hat : at2 ob.rows i' j' = some x' := by simp only [at2, List.getElem?_eq_getElem hi, Option.bind_some]; exact hx'
        obtain ⟨g2, cc, hg2, hcc, h1c, hrc⟩ := hcells i' j' x' hat
        rw [hg] at hg2; injection hg2 with e; subst e
        refine ⟨g', cc, hg, hcell _ _ ?_, h1c, tr _ _ hrc⟩
        rw [hget, if_neg (show ¬ (i' * ob.sz + j ≤ i' * ob.sz + j' ∧ i' * ob.sz + j' < i' * ob.sz + j + xs.length) by omega)]
        rw [cell_of_row _ _ _ _ _ _ hcur] at hcc; exact hcc
    · have hat : at2 ob.rows i' j' = some x' := by
        simpa [at2, List.getElem?_set_ne (Ne.symm hii)] using hx'
      obtain ⟨_, hj'⟩ := rows_lt hrows hat
      obtain ⟨g2, cc, hg2, hcc, h1c, hrc⟩ := hcells i' j' x' hat
      rw [hg] at hg2; injection hg2 with e; subst e
      refine ⟨g', cc, hg, hcell _ _ ?_, h1c, tr _ _ hrc⟩
      rw [hget, if_neg ?_]
      · rw [cell_of_row _ _ _ _ _ _ hcur] at hcc; exact hcc
      · show ¬ (i * ob.sz + j ≤ i' * ob.sz + j' ∧ i' * ob.sz + j' < i * ob.sz + j + xs.length)
        rcases Nat.lt_or_gt_of_ne hii with hlt | hgt
        · have : (i' + 1) * ob.sz ≤ i * ob.sz := Nat.mul_le_mul_right _ hlt
          rw [Nat.add_mul] at this
          omega
        · have : (i + 1) * ob.sz ≤ i' * ob.sz := Nat.mul_le_mul_right _ hgt
          rw [Nat.add_mul] at this
          omega

end Go.Abs
