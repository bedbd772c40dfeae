/-
  What is proved here: literals, make and append, in every related world. Condition: the operation's own condition, in the abstract state.
-/
import Derived.Test.YtglbimhhiikkpaaDoorAbs6
import Derived.Great.FillDense
import Derived.Maps.AppendAt
namespace Go.Abs
open Go.RowKit

/-! ### literals of structs, arrays and slices -/
def fillX (place : Nat → Option (Nat × Nat)) (cells : List X) : List (Nat × X) → Option (List X)
  | [] => some cells
  | (i, x) :: rest => match place i with
    | none => none
    | some (off, size) => match cellsX x with
      | none => none
      | some xs => if xs.length = size ∧ off + size ≤ cells.length then fillX place (splice cells off xs) rest else none

def FlatRel (w : World) (S : Nat → Prop) (β : Pl) (cs : Array Value) (xs : List X) : Prop :=
  cs.size = xs.length ∧ ∀ (j : Nat) x c, xs[j]? = some x → cs[j]? = some c → c.oneCell' = true ∧ Rep w S β c x

theorem fill_rel {w : World} {S : Nat → Prop} {β : Pl} (place : Nat → Option (Nat × Nat)) : ∀ (ps : List (Nat × X)) (vs : List (Nat × Value)) (cs : Array Value) (xs xs' : List X), FlatRel w S β cs xs → fillX place xs ps = some xs' →
    ps.map (·.1) = vs.map (·.1) → (∀ (j : Nat) p q, ps[j]? = some p → vs[j]? = some q → Rep w S β q.2 p.2) → ∃ cs', Instr.fill place cs vs = some cs' ∧ FlatRel w S β cs' xs'
  | [], vs, cs, xs, xs', hf, hx, hm, _ => by
    cases vs with
    | cons => simp at hm
    | nil => simp only [fillX, Option.some.injEq] at hx; subst hx; exact ⟨cs, rfl, hf⟩
  | (i, x) :: ps, vs, cs, xs, xs', hf, hx, hm, hr => by
    cases vs with
    | nil => simp at hm
    | cons q vs =>
      obtain ⟨i', v⟩ := q
      simp only [List.map_cons, List.cons.injEq] at hm
      obtain ⟨rfl, hm⟩ := hm
      have hrv : Rep w S β v x := hr 0 (i, x) (i, v) rfl rfl
      simp only [fillX] at hx
      cases hp : place i with
      | none => rw [hp] at hx; cases hx
      | some os =>
        obtain ⟨off, size⟩ := os
        rw [hp] at hx
        dsimp only at hx
        cases hc : cellsX x with
        | none => rw [hc] at hx; cases hx
        | some ys =>
          rw [hc] at hx
          dsimp only at hx
          split at hx
          · rename_i hlen
            obtain ⟨c1, c2, c3⟩ := rep_cells hrv hc
            obtain ⟨f1, f2⟩ := Great.foldl_set off v.cells.toList 0 cs
            have hcs : cs.size = xs.length := hf.1
            have hno : ¬ (v.cells.size ≠ size || decide (off + v.cells.size > cs.size)) = true := by
              simp; omega
            have hfold : v.cells.zipIdx.foldl (fun cs (x : Value × Nat) => cs.setIfInBounds (off + x.2) x.1) cs = (v.cells.toList.zipIdx 0).foldl (fun cs (x : Value × Nat) => cs.setIfInBounds (off + x.2) x.1) cs := by
              rw [← Array.foldl_toList, Array.toList_zipIdx]
            have hrel : FlatRel w S β ((v.cells.toList.zipIdx 0).foldl (fun cs (x : Value × Nat) => cs.setIfInBounds (off + x.2) x.1) cs) (splice xs off ys) := by
              refine ⟨by rw [f1, splice_length _ _ _ (by omega)]; exact hcs, fun j y c hy hcc => ?_⟩
              rw [f2] at hcc
              rw [splice_get _ _ _ _ (by omega)] at hy
              simp only [Nat.add_zero, Array.length_toList] at hcc
              by_cases hin : off ≤ j ∧ j < off + ys.length
              · rw [if_pos hin] at hy
                rw [if_pos ⟨hin.1, by omega, by omega⟩, Array.getElem?_toList] at hcc
                exact ⟨c2 c (Array.mem_of_getElem? hcc), c3 _ y c hy hcc⟩
              · rw [if_neg hin] at hy
                rw [if_neg (by omega)] at hcc
                exact hf.2 j y c hy hcc
            obtain ⟨cs', h1, h2⟩ := fill_rel place ps vs _ _ xs' hrel hx hm (fun j p q hp hq => hr (j + 1) p q (by simpa using hp) (by simpa using hq))
            refine ⟨cs', ?_, h2⟩
            simp only [Instr.fill, hp]
            rw [if_neg hno, hfold]
            exact h1
          · cases hx

def placesX (P : Program) (T : Nat) (f : Nat) : Option (Nat × Nat) := (flOf P T f).map fun x => (x.1, szOf P x.2)
/-- every field's type is known -/
def flOk (P : Program) (T : Nat) : Bool := match P.underlying T with | some (.struct fs) => fs.toList.all fun f => okT P f.type | _ => false

def eBuild (P : Program) (s : St) (T : Nat) (ps : List (Nat × X)) : Eff :=
  if flOk P T then
    match fillX (placesX P T) ((zeroC P T).map .v) ps with
    | some xs => ⟨hasZ P T = true ∧ (zeroC P T).all plain = true, .agg xs, s.h⟩
    | none => ⟨False, .top, s.h⟩
  else match arEl P T with
    | some (_, e) => match fillX (fun i => some (i * szOf P e, szOf P e)) ((zeroC P T).map .v) ps with
      | some xs => ⟨okT P e = true ∧ hasZ P T = true ∧ (zeroC P T).all plain = true, .agg xs, s.h⟩
      | none => ⟨False, .top, s.h⟩
    | none => ⟨False, .top, s.h⟩

theorem zero_rel {P : Program} {T : Nat} {w : World} {S : Nat → Prop} {β : Pl} {z : Value} (hzc : zeroC P T = z.cells.toList) (h2 : (zeroC P T).all plain = true) : FlatRel w S β z.cells ((zeroC P T).map .v) := by
  refine ⟨by simp [hzc], fun j x cc hx hcc => ?_⟩
  rw [List.getElem?_map, hzc, Array.getElem?_toList, hcc] at hx
  injection hx with hx
  subst hx
  rw [List.all_eq_true] at h2
  have hp : plain cc = true := h2 cc (by rw [hzc, Array.mem_toList_iff]; exact Array.mem_of_getElem? hcc)
  exact ⟨plain_one hp, .v _ hp⟩

theorem flatrel_agg {w : World} {S : Nat → Prop} {β : Pl} {cs : Array Value} {xs : List X} (h : FlatRel w S β cs xs) : Rep w S β (.agg cs) (.agg xs) := by
  refine .agg cs xs h.1 (fun c hc => ?_) fun j x c hx hc => (h.2 j x c hx hc).2
  obtain ⟨j, hj, e⟩ := Array.mem_iff_getElem.1 hc
  have hlt : j < xs.length := by rw [← h.1]; exact hj
  exact (h.2 j _ c (List.getElem?_eq_getElem hlt) (by rw [Array.getElem?_eq_some_iff]; exact ⟨hj, e⟩)).1

theorem run_places' {P : Program} {w : World} : ∀ (fs : List Field), (fs.all fun f => okT P f.type) = true → (fs.mapM fun f => (do pure (f.offset, ← sizeOf f.type) : Sem (Nat × Nat))).run P w = .ok (fs.map fun f => (f.offset, szOf P f.type)) w
  | [], _ => rfl
  | f :: fs, h => by
    simp only [List.all_cons, Bool.and_eq_true] at h
    have ih := run_places' (w := w) fs h.2
    simp only [List.mapM_cons, Sem.run_bind, run_sizeOf h.1, Result.andThen_ok, Sem.run_pure, ih, List.map_cons]

theorem build_does {P : Program} {c : Cx} {s : St} {β : Pl} {w : World} {T : Nat} {ps : List (Nat × X)} {vs : Array (Nat × Value)} (H : HRel c s.h β w) (hm : ps.map (·.1) = vs.toList.map (·.1))
    (hr : ∀ (j : Nat) p q, ps[j]? = some p → vs.toList[j]? = some q → Rep w (Stab c.w0 c.S0 s.h β w) β q.2 p.2) (hc : (eBuild P s T ps).cond) : Does P c s β w (Instr.build T vs) (eBuild P s T ps) := by
  unfold eBuild at hc ⊢
  split at hc
  · rename_i hfl
    split at hc
    · rename_i xs hx
      obtain ⟨h1, h2⟩ := hc
      obtain ⟨i, z, hi, hz, hzc⟩ := hasZ_eq h1
      rw [if_pos hfl]
      unfold flOk at hfl
      split at hfl
      · rename_i fs hu
        have hpl : (fun i => ((fs.toList.map fun f => (f.offset, szOf P f.type)).toArray)[i]?) = placesX P T := by
          funext j
          simp [placesX, flOf, hu]
          cases fs[j]? <;> rfl
        obtain ⟨cs', e1, e2⟩ := fill_rel (placesX P T) ps vs.toList z.cells _ xs (zero_rel hzc h2) hx hm hr
        refine Does.pure H ?_ (flatrel_agg e2)
        simp only [Instr.build, Sem.run_bind, run_zeroValue hi hz, Result.andThen_ok, run_underlying hu, Array.mapM_eq_mapM_toList, Sem.run_map, run_places' fs.toList hfl]
        rw [hpl, e1]
        rfl
      · cases hfl
    · exact hc.elim
  · rename_i hnf
    rw [if_neg hnf]
    split at hc
    · rename_i l e he
      split at hc
      · rename_i xs hx
        obtain ⟨h0, h1, h2⟩ := hc
        obtain ⟨i, z, hi, hz, hzc⟩ := hasZ_eq h1
        obtain ⟨cs', e1, e2⟩ := fill_rel _ ps vs.toList z.cells _ xs (zero_rel hzc h2) hx hm hr
        refine Does.pure H ?_ (flatrel_agg e2)
        simp only [Instr.build, Sem.run_bind, run_zeroValue hi hz, Result.andThen_ok, run_underlying (arEl_eq he), run_sizeOf h0, e1]
        rfl
      · exact hc.elim
    · exact hc.elim

/-! ### a new row -/
theorem newRow_push {c : Cx} {h : List Ob} {β : Pl} {w w' : World} (H : HRel c h β w) (hb : Below w.heap.size w w') (T sz cap : Nat) (rows : List (List X)) (cs : Array Value) (g : Nat) (hg : w.heap.size ≤ g)
    (hw : w'.heap[g]? = some (.cells cs T (0, 0))) (hrows : ∀ r ∈ rows, r.length = sz) (hl : cs.size = cap * sz) (hcap : rows.length ≤ cap) (hmax : cap ≤ maxLen)
    (hr : ∀ S' β', (∀ v x, Rep w (Stab c.w0 c.S0 h β w) β v x → Rep w' S' β' v x) → ∀ i j x, at2 rows i j = some x → ∃ cc, cs[i * sz + j]? = some cc ∧ cc.oneCell' = true ∧ Rep w' S' β' cc x) :
    HRel c (h ++ [⟨T, sz, 0, rows, false, true, none⟩]) (β.set h.length 0 (.slice (some ⟨g, 0, none⟩) rows.length cap) sz) w' ∧
      ∀ v x, Rep w (Stab c.w0 c.S0 h β w) β v x → Rep w' (Stab c.w0 c.S0 (h ++ [⟨T, sz, 0, rows, false, true, none⟩]) (β.set h.length 0 (.slice (some ⟨g, 0, none⟩) rows.length cap) sz) w') (β.set h.length 0 (.slice (some ⟨g, 0, none⟩) rows.length cap) sz) v x := by
  refine H.push hb ⟨T, sz, 0, rows, false, true, none⟩ _ rfl hrows (.inr (.inr ⟨g, cap, cs, hw, hl, hcap, hmax, by simp⟩)) (fun b hb => by simp [blk] at hb; omega) ?_
  intro S' β' tr i j x hx
  obtain ⟨cc, h1, h2, h3⟩ := hr S' β' tr i j x hx
  exact ⟨g, cc, rfl, by rw [cell_of_row _ _ _ _ _ _ hw]; exact h1, h2, h3⟩

def chunk (sz n : Nat) (l : List X) : List (List X) := (List.range n).map fun i => (l.drop (i * sz)).take sz

def eBuildSlice (P : Program) (s : St) (T len : Nat) (ps : List (Nat × X)) : Eff :=
  match slEl P T with
  | none => ⟨False, .top, s.h⟩
  | some e => match fillX (fun i => some (i * szOf P e, szOf P e)) ((List.range (len * szOf P e)).map fun m => .v ((zeroC P e).getD (m % szOf P e) .nilFunc)) ps with
    | none => ⟨False, .top, s.h⟩
    | some xs => ⟨okT P e = true ∧ hasZ P e = true ∧ (zeroC P e).all plain = true ∧ (zeroC P e).length = szOf P e ∧ 0 < szOf P e ∧ len * szOf P e ≤ 16777216, .osl s.h.length 0, s.h ++ [⟨e, szOf P e, 0, chunk (szOf P e) len xs, false, true, none⟩]⟩

theorem chunk_rows (sz n : Nat) (l : List X) (h : l.length = n * sz) : (∀ r ∈ chunk sz n l, r.length = sz) ∧ (chunk sz n l).length = n ∧ ∀ i j x, at2 (chunk sz n l) i j = some x → l[i * sz + j]? = some x := by
  refine ⟨fun r hr => ?_, by simp [chunk], fun i j x hx => ?_⟩
  · simp only [chunk, List.mem_map, List.mem_range] at hr
    obtain ⟨i, hi, rfl⟩ := hr
    have : (i + 1) * sz ≤ n * sz := Nat.mul_le_mul_right _ hi
    rw [Nat.add_mul] at this
    simp
    omega
  · simp only [at2, chunk, List.getElem?_map] at hx
    rcases Nat.lt_or_ge i n with hi | hi
    · rw [List.getElem?_range hi] at hx
      simp only [Option.map_some, Option.bind_some, List.getElem?_take, List.getElem?_drop] at hx
      split at hx
      · exact hx
      · cases hx
    · rw [List.getElem?_eq_none (by simpa using hi)] at hx; cases hx

theorem one_le_maxLen : 16777216 ≤ maxLen := by simp [maxLen]

theorem buildSlice_does {P : Program} {c : Cx} {s : St} {β : Pl} {w : World} {T len : Nat} {ps : List (Nat × X)} {vs : Array (Nat × Value)} (H : HRel c s.h β w) (hm : ps.map (·.1) = vs.toList.map (·.1))
    (hr : ∀ (j : Nat) p q, ps[j]? = some p → vs.toList[j]? = some q → Rep w (Stab c.w0 c.S0 s.h β w) β q.2 p.2) (hc : (eBuildSlice P s T len ps).cond) : Does P c s β w (Instr.buildSlice T len vs) (eBuildSlice P s T len ps) := by
  unfold eBuildSlice at hc ⊢
  split at hc
  · exact hc.elim
  rename_i e he
  split at hc
  · exact hc.elim
  rename_i xs hx
  obtain ⟨hT, h1, h2, hzl, hpos, hlim⟩ := hc
  obtain ⟨i, z, hi, hz, hzc⟩ := hasZ_eq h1
  have hzs : z.cells.size = szOf P e := by rw [← hzl, hzc]; simp
  have hz0 : FlatRel w (Stab c.w0 c.S0 s.h β w) β ((Array.range (len * szOf P e)).map (z.cells[· % z.cells.size]!)) ((List.range (len * szOf P e)).map fun m => .v ((zeroC P e).getD (m % szOf P e) .nilFunc)) := by
    refine ⟨by simp, fun j x cc hxx hcc => ?_⟩
    have hj : j < len * szOf P e := by
      rcases Nat.lt_or_ge j (len * szOf P e) with h | h
      · exact h
      · rw [List.getElem?_eq_none (by simpa using h)] at hxx; cases hxx
    rw [List.getElem?_map, List.getElem?_range hj] at hxx
    simp only [Array.getElem?_map, Array.getElem?_range, hj, if_true, Option.map_some, Option.some.injEq] at hcc
    simp only [Option.map_some, Option.some.injEq] at hxx
    have hlt : j % szOf P e < z.cells.size := by rw [hzs]; exact Nat.mod_lt _ hpos
    have e1 : (zeroC P e).getD (j % szOf P e) .nilFunc = z.cells[j % szOf P e]'hlt := by
      rw [hzc]; simp [List.getD, hlt]
    have e2 : cc = z.cells[j % szOf P e]'hlt := by rw [← hcc, hzs]; simp [getElem!_pos, hlt]
    rw [e1] at hxx
    subst hxx
    rw [e2]
    rw [List.all_eq_true] at h2
    have hp : plain (z.cells[j % szOf P e]'hlt) = true := h2 _ (by rw [hzc, Array.mem_toList_iff]; exact Array.getElem_mem _)
    exact ⟨plain_one hp, .v _ hp⟩
  obtain ⟨cs', e1, e2⟩ := fill_rel _ ps vs.toList _ _ xs hz0 hx hm hr
  have hlen : ∀ (ps : List (Nat × X)) (xs xs' : List X), fillX (fun i => some (i * szOf P e, szOf P e)) xs ps = some xs' → xs'.length = xs.length := by
    intro ps
    induction ps with
    | nil => intro xs xs' h; simp only [fillX, Option.some.injEq] at h; rw [h]
    | cons p ps ih =>
      intro xs xs' h
      obtain ⟨i, x⟩ := p
      simp only [fillX] at h
      split at h
      · cases h
      · split at h
        · rw [ih _ _ h, splice_length]
          omega
        · cases h
  have hxl : xs.length = len * szOf P e := by rw [hlen _ _ _ hx]; simp
  obtain ⟨k1, k2, k3⟩ := chunk_rows (szOf P e) len xs hxl
  have hnew : (w.alloc (.cells cs' e)).heap[w.heap.size]? = some (.cells cs' e (0, 0)) := heap_alloc_new w _
  have hl1 : len ≤ len * szOf P e := Nat.le_mul_of_pos_right _ hpos
  obtain ⟨g1, g2⟩ := newRow_push H ((Below.refl _ _).alloc (Nat.le_refl _) _) e (szOf P e) len (chunk (szOf P e) len xs) cs' w.heap.size (Nat.le_refl _) hnew k1 (by rw [e2.1, hxl]) (by omega) (by have := one_le_maxLen; omega)
    (fun S' β' tr i j x hxx => by
      have h3 := k3 i j x hxx
      have hlt : i * szOf P e + j < cs'.size := by
        rw [e2.1]
        rcases Nat.lt_or_ge (i * szOf P e + j) xs.length with h | h
        · exact h
        · rw [List.getElem?_eq_none h] at h3; cases h3
      have := e2.2 _ x _ h3 (Array.getElem?_eq_getElem hlt)
      exact ⟨_, Array.getElem?_eq_getElem hlt, this.1, tr _ _ this.2⟩)
  refine ⟨.slice (some ⟨w.heap.size, 0, none⟩) len len, _, _, ?_, g1, g2, ?_⟩
  · have hle : ¬ (len * szOf P e > 2 ^ 24) := by omega
    simp only [Instr.buildSlice, Sem.run_bind, run_underlying (slEl_eq he), Result.andThen_ok, run_sizeOf hT, Sem.run_ite, if_neg hle]
    by_cases h0 : len * szOf P e = 0
    · have hl0 : len = 0 := by rcases Nat.mul_eq_zero.1 h0 with h | h <;> omega
      subst hl0
      simp only [Nat.zero_mul] at e1 ⊢
      simp only [if_true, Sem.run_pure, Result.andThen_ok]
      have e1' : Instr.fill (fun i => some (i * szOf P e, szOf P e)) ((Array.range 0).map ((#[] : Array Value)[· % 0]!)) vs.toList = some cs' := by
        rw [← e1]
        have em : ∀ f : Nat → Value, (Array.range 0).map f = #[] := fun f => Array.eq_empty_of_size_eq_zero (by simp)
        rw [em, em]
      simp only [List.size_toArray, List.length_nil]
      rw [e1']
      simp [newRow]
    · simp only [if_neg h0, run_zeroValue hi hz, Result.andThen_ok, Sem.run_pure]
      rw [e1]
      simp [newRow]
  · have : (chunk (szOf P e) len xs).length = len := k2
    rw [this]
    exact .osl _ _ _ (Pl.set_same _ _ _ _ _) rfl

def isV : X → Bool
  | .v u => plain u
  | _ => false
/-- a slice that is laid out and only read -/
def eBSD (P : Program) (s : St) (T len : Nat) (ps : List (Nat × X)) : Eff :=
  match slEl P T with
  | none => ⟨False, .top, s.h⟩
  | some e => match fillX (fun i => some (i * szOf P e, szOf P e)) ((List.range (len * szOf P e)).map fun m => .v ((zeroC P e).getD (m % szOf P e) .nilFunc)) ps with
    | none => ⟨False, .top, s.h⟩
    | some xs => ⟨(okT P e = true ∧ hasZ P e = true ∧ (zeroC P e).all plain = true ∧ (zeroC P e).length = szOf P e ∧ 0 < szOf P e ∧ len * szOf P e ≤ 16777216) ∧ xs.all isV = true, .sl (chunk (szOf P e) len xs), s.h⟩

theorem buildSlice_pure {P : Program} {c : Cx} {s : St} {β : Pl} {w : World} {T len : Nat} {ps : List (Nat × X)} {vs : Array (Nat × Value)} (H : HRel c s.h β w) (hm : ps.map (·.1) = vs.toList.map (·.1))
    (hr : ∀ (j : Nat) p q, ps[j]? = some p → vs.toList[j]? = some q → Rep w (Stab c.w0 c.S0 s.h β w) β q.2 p.2) (hc : (eBSD P s T len ps).cond) : Does P c s β w (Instr.buildSlice T len vs) (eBSD P s T len ps) := by
  unfold eBSD at hc ⊢
  split at hc
  · exact hc.elim
  rename_i e he
  split at hc
  · exact hc.elim
  rename_i xs hx
  obtain ⟨⟨hT, h1, h2, hzl, hpos, hlim⟩, hpure⟩ := hc
  obtain ⟨i, z, hi, hz, hzc⟩ := hasZ_eq h1
  have hzs : z.cells.size = szOf P e := by rw [← hzl, hzc]; simp
  have hz0 : FlatRel w (Stab c.w0 c.S0 s.h β w) β ((Array.range (len * szOf P e)).map (z.cells[· % z.cells.size]!)) ((List.range (len * szOf P e)).map fun m => .v ((zeroC P e).getD (m % szOf P e) .nilFunc)) := by
    refine ⟨by simp, fun j x cc hxx hcc => ?_⟩
    have hj : j < len * szOf P e := by
      rcases Nat.lt_or_ge j (len * szOf P e) with h | h
      · exact h
      · rw [List.getElem?_eq_none (by simpa using h)] at hxx; cases hxx
    rw [List.getElem?_map, List.getElem?_range hj] at hxx
    simp only [Array.getElem?_map, Array.getElem?_range, hj, if_true, Option.map_some, Option.some.injEq] at hcc
    simp only [Option.map_some, Option.some.injEq] at hxx
    have hlt : j % szOf P e < z.cells.size := by rw [hzs]; exact Nat.mod_lt _ hpos
    have e1 : (zeroC P e).getD (j % szOf P e) .nilFunc = z.cells[j % szOf P e]'hlt := by
      rw [hzc]; simp [List.getD, hlt]
    have e2 : cc = z.cells[j % szOf P e]'hlt := by rw [← hcc, hzs]; simp [getElem!_pos, hlt]
    rw [e1] at hxx
    subst hxx
    rw [e2]
    rw [List.all_eq_true] at h2
    have hp : plain (z.cells[j % szOf P e]'hlt) = true := h2 _ (by rw [hzc, Array.mem_toList_iff]; exact Array.getElem_mem _)
    exact ⟨plain_one hp, .v _ hp⟩
  obtain ⟨cs', e1, e2⟩ := fill_rel _ ps vs.toList _ _ xs hz0 hx hm hr
  have hlen : ∀ (ps : List (Nat × X)) (xs xs' : List X), fillX (fun i => some (i * szOf P e, szOf P e)) xs ps = some xs' → xs'.length = xs.length := by
    intro ps
    induction ps with
    | nil => intro xs xs' h; simp only [fillX, Option.some.injEq] at h; rw [h]
    | cons p ps ih =>
      intro xs xs' h
      obtain ⟨i, x⟩ := p
      simp only [fillX] at h
      split at h
      · cases h
      · split at h
        · rw [ih _ _ h, splice_length]
          omega
        · cases h
  have hxl : xs.length = len * szOf P e := by rw [hlen _ _ _ hx]; simp
  obtain ⟨k1, k2, k3⟩ := chunk_rows (szOf P e) len xs hxl
  have hnew : (w.alloc (.cells cs' e)).heap[w.heap.size]? = some (.cells cs' e (0, 0)) := heap_alloc_new w _
  have hl1 : len ≤ len * szOf P e := Nat.le_mul_of_pos_right _ hpos
  obtain ⟨g1, g2⟩ := H.ext (w' := w.alloc (.cells cs' e)) ((Below.refl _ _).alloc (Nat.le_refl _) _)
  have hsz : w.heap.size < (w.alloc (.cells cs' e)).heap.size := (Array.getElem?_eq_some_iff.1 hnew).1
  have hst : Stab c.w0 c.S0 s.h β (w.alloc (.cells cs' e)) w.heap.size := ⟨by omega, .inr H.frm.size, fun ho => by have := (H.own _ ho).1; omega⟩
  have hcell : ∀ i j x, at2 (chunk (szOf P e) len xs) i j = some x → ∃ cc, cs'[i * szOf P e + j]? = some cc ∧ cc.oneCell' = true ∧ Rep w (Stab c.w0 c.S0 s.h β w) β cc x := fun i j x hxx => by
      have h3 := k3 i j x hxx
      have hlt : i * szOf P e + j < cs'.size := by
        rw [e2.1]
        rcases Nat.lt_or_ge (i * szOf P e + j) xs.length with h | h
        · exact h
        · rw [List.getElem?_eq_none h] at h3; cases h3
      have := e2.2 _ x _ h3 (Array.getElem?_eq_getElem hlt)
      exact ⟨_, Array.getElem?_eq_getElem hlt, this.1, this.2⟩
  have hrep : Rep (w.alloc (.cells cs' e)) (Stab c.w0 c.S0 s.h β (w.alloc (.cells cs' e))) β (.slice (some ⟨w.heap.size, 0, none⟩) len len) (.sl (chunk (szOf P e) len xs)) := by
    have := Rep.sl (w := w.alloc (.cells cs' e)) (S := Stab c.w0 c.S0 s.h β (w.alloc (.cells cs' e))) (β := β) ⟨w.heap.size, 0, none⟩ len (szOf P e) (chunk (szOf P e) len xs) (fun i j => if (at2 (chunk (szOf P e) len xs) i j).isSome then (cs'[i * szOf P e + j]?).getD (.bool false) else .bool false) (by omega) hst k1
      (fun i j hi hj => by
        have hs : (at2 (chunk (szOf P e) len xs) i j).isSome = true := by
          unfold at2
          rw [List.getElem?_eq_getElem hi]
          simp only [Option.bind_some]
          rw [List.getElem?_eq_getElem (by rw [k1 _ (List.getElem_mem hi)]; exact hj)]
          rfl
        obtain ⟨x, hx'⟩ := Option.isSome_iff_exists.1 hs
        obtain ⟨cc, c1, _⟩ := hcell i j x hx'
        rw [if_pos hs, c1]
        have : (⟨w.heap.size, 0, none⟩ : Addr).add (i * szOf P e + j) = ⟨w.heap.size, i * szOf P e + j, none⟩ := by simp [Addr.add]; omega
        rw [this, cell_of_row _ _ _ _ _ _ hnew, c1]; rfl)
      (fun i j => by
        show Value.oneCell' (if (at2 (chunk (szOf P e) len xs) i j).isSome = true then (cs'[i * szOf P e + j]?).getD (.bool false) else .bool false) = true
        cases hs : at2 (chunk (szOf P e) len xs) i j with
        | none => rfl
        | some x =>
          obtain ⟨cc, c1, c2, _⟩ := hcell i j x hs
          simp [c1, c2])
      (fun i j x hxx => by
        obtain ⟨cc, c1, c2, c3⟩ := hcell i j x hxx
        show Rep _ _ _ (if (at2 (chunk (szOf P e) len xs) i j).isSome = true then (cs'[i * szOf P e + j]?).getD (.bool false) else .bool false) x
        rw [hxx, c1]
        simp only [Option.isSome_some, if_true, Option.getD_some]
        have hxm : x ∈ xs := List.mem_of_getElem? (k3 i j x hxx)
        rw [List.all_eq_true] at hpure
        have hp := hpure x hxm
        unfold isV at hp
        split at hp
        · obtain ⟨rfl, _⟩ := c3.inv_v
          exact .v _ hp
        · cases hp)
    rw [k2] at this
    exact this
  refine ⟨.slice (some ⟨w.heap.size, 0, none⟩) len len, _, _, ?_, g1, g2, hrep⟩
  · have hle : ¬ (len * szOf P e > 2 ^ 24) := by omega
    simp only [Instr.buildSlice, Sem.run_bind, run_underlying (slEl_eq he), Result.andThen_ok, run_sizeOf hT, Sem.run_ite, if_neg hle]
    by_cases h0 : len * szOf P e = 0
    · have hl0 : len = 0 := by rcases Nat.mul_eq_zero.1 h0 with h | h <;> omega
      subst hl0
      simp only [Nat.zero_mul] at e1 ⊢
      simp only [if_true, Sem.run_pure, Result.andThen_ok]
      have e1' : Instr.fill (fun i => some (i * szOf P e, szOf P e)) ((Array.range 0).map ((#[] : Array Value)[· % 0]!)) vs.toList = some cs' := by
        rw [← e1]
        have em : ∀ f : Nat → Value, (Array.range 0).map f = #[] := fun f => Array.eq_empty_of_size_eq_zero (by simp)
        rw [em, em]
      simp only [List.size_toArray, List.length_nil]
      rw [e1']
      simp [newRow]
    · simp only [if_neg h0, run_zeroValue hi hz, Result.andThen_ok, Sem.run_pure]
      rw [e1]
      simp [newRow]

/-! ### make -/
def eMake (P : Program) (s : St) (T : Nat) (l c : X) : Eff :=
  match slEl P T, l, c with
  | some e, .v (.int _ n), .v (.int _ m) => ⟨okT P e = true ∧ hasZ P e = true ∧ (zeroC P e).all plain = true ∧ (zeroC P e).length = szOf P e ∧ 0 < szOf P e ∧ 0 ≤ n ∧ n ≤ m ∧ (byOf P e : Int) * m ≤ 281474976710656 ∧ m ≤ 9223372036854775807,
      .osl s.h.length 0, s.h ++ [⟨e, szOf P e, 0, List.replicate n.toNat ((zeroC P e).map .v), false, true, none⟩]⟩
  | _, _, _ => ⟨False, .top, s.h⟩

theorem make_does {P : Program} {c : Cx} {s : St} {β : Pl} {w : World} {T : Nat} {ul uc : Value} {l cp : X} (H : HRel c s.h β w) (hl : Rep w (Stab c.w0 c.S0 s.h β w) β ul l) (hcp : Rep w (Stab c.w0 c.S0 s.h β w) β uc cp)
    (hc : (eMake P s T l cp).cond) : Does P c s β w (Instr.makeSlice T ul uc) (eMake P s T l cp) := by
  unfold eMake at hc ⊢
  split at hc
  · rename_i e k n k' m he
    obtain ⟨rfl, _⟩ := hl.inv_v
    obtain ⟨rfl, _⟩ := hcp.inv_v
    obtain ⟨hT, h1, h2, hzl, hpos, h0, hnm, hby, hmx⟩ := hc
    obtain ⟨i, z, hi, hz, hzc⟩ := hasZ_eq h1
    obtain ⟨i', hi', hs', hb'⟩ := okT_info hT
    have ei : i = i' := by rw [hi] at hi'; injection hi'
    subst ei
    have hzs : z.cells.size = szOf P e := by rw [← hzl, hzc]; simp
    have hrun := run_make w T e i z (slEl_eq he) hi hz k k' n m h0 hnm (by rw [← hb']; exact hby) hmx
    rw [← hs'] at hrun
    have hnew : (w.alloc (.cells (madeCells z.cells (m.toNat * szOf P e)) e)).heap[w.heap.size]? = some (.cells (madeCells z.cells (m.toNat * szOf P e)) e (0, 0)) := heap_alloc_new w _
    obtain ⟨g1, g2⟩ := newRow_push H ((Below.refl _ _).alloc (Nat.le_refl _) _) e (szOf P e) m.toNat (List.replicate n.toNat ((zeroC P e).map .v)) _ w.heap.size (Nat.le_refl _) hnew
      (fun r hr => by rw [List.eq_of_mem_replicate hr]; simp [hzl]) (size_madeCells _ _) (by simp; omega) (by simp only [maxLen]; omega)
      (fun S' β' tr i j x hx => by
        simp only [at2, List.getElem?_replicate] at hx
        split at hx
        · rename_i hin
          simp only [Option.bind_some, List.getElem?_map] at hx
          cases hzj : (zeroC P e)[j]? with
          | none => rw [hzj] at hx; cases hx
          | some y =>
            rw [hzj] at hx
            simp only [Option.map_some, Option.some.injEq] at hx
            subst hx
            have hj : j < szOf P e := by
              rw [← hzl]
              rcases Nat.lt_or_ge j (zeroC P e).length with h | h
              · exact h
              · rw [List.getElem?_eq_none h] at hzj; cases hzj
            have hyp : plain y = true := by rw [List.all_eq_true] at h2; exact h2 y (List.mem_of_getElem? hzj)
            refine ⟨y, ?_, plain_one hyp, .v _ hyp⟩
            have hle : (i + 1) * szOf P e ≤ m.toNat * szOf P e := Nat.mul_le_mul_right _ (by omega)
            rw [Nat.add_mul] at hle
            have hlt : i * szOf P e + j < m.toNat * szOf P e := by omega
            have hmod : (i * szOf P e + j) % szOf P e = j := by rw [Nat.add_comm, Nat.add_mul_mod_self_right]; exact Nat.mod_eq_of_lt hj
            rw [hzc, Array.getElem?_toList] at hzj
            simp only [madeCells, Array.getElem?_map, Array.getElem?_range, hlt, if_true, Option.map_some, hzs, hmod]
            rw [getElem!_pos z.cells j (by omega)]
            rw [Array.getElem?_eq_getElem (by omega)] at hzj
            exact hzj
        · cases hx)
    refine ⟨_, _, _, hrun, g1, g2, ?_⟩
    have hlen : (List.replicate n.toNat ((zeroC P e).map X.v)).length = n.toNat := by simp
    rw [hlen]
    exact .osl _ _ _ (Pl.set_same _ _ _ _ _) rfl
  · exact hc.elim

end Go.Abs
