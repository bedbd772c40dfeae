/-
  What is proved here: a call of a function of which a contract is known, in every related world. Condition: the contract's own.
-/
import Derived.Test.YtglbimhhiikkpaaDoorAbs9
namespace Go.Abs
open Go.RowKit

/-! ### what a function gives: a value and new objects (its references count from 0) -/
structure Fun where
  pre : List X → Prop
  res : List X → X × List Ob

def GenCA (A : List (Nat × List X)) (P : Program) (f : Nat) (F : Fun) : Prop :=
  (∀ args w, (callFunc f args).run P w = .ok (.enter f args) w) ∧
  ∀ (w : World) (S : Nat → Prop) (vs : Array Value) (xs : List X), F.pre xs → vs.size = xs.length → (∀ (j : Nat) x v, xs[j]? = some x → vs[j]? = some v → Rep w S Pl.none v x) → (∀ b, S b → b < w.heap.size) → Amb w S A →
    Calls P f vs w fun e w' => ∃ v β', e = .returned v ∧ HRel ⟨w, S, fun _ => False, A⟩ (F.res xs).2 β' w' ∧ (∀ ob ∈ (F.res xs).2, ob.live = true) ∧ Rep w' (Stab w S (F.res xs).2 β' w') β' v (F.res xs).1
def GenC (P : Program) (f : Nat) (F : Fun) : Prop := GenCA [] P f F

/-! ### the view of a value as pure data -/
def purV : Value → X
  | .slice none 0 0 => .sl []
  | y => .v y
theorem purV_rep {w : World} {S : Nat → Prop} {β : Pl} {y : Value} (hp : plain y = true) : Rep w S β y (purV y) := by
  unfold purV
  split
  · exact .nil _ _
  · exact .v _ hp

def purN (h : List Ob) : Nat → X → X
  | 0, x => match x with
    | .v y => purV y
    | .sl r => .sl r
    | .pt c => .pt c
    | _ => .top
  | n + 1, x => match x with
    | .v y => purV y
    | .sl r => .sl r
    | .pt c => .pt c
    | .agg cells => .agg (cells.map (purN h n))
    | .fn f cap => .fn f (cap.map (purN h n))
    | .osl k ver => match h[k]? with
      | some ob => if ob.ver = ver ∧ ob.bx = false then .sl (ob.rows.map fun r => r.map (purN h n)) else .top
      | none => .top
    | .osub k ver off len => match h[k]? with
      | some ob => if ob.ver = ver ∧ ob.bx = false ∧ off + len ≤ ob.rows.length then .sl (((ob.rows.drop off).take len).map fun r => r.map (purN h n)) else .top
      | none => .top
    | .optr k ver i j => match h[k]? with
      | some ob => if ob.ver = ver then .pt (((rowOf h k i).drop j).map (purN h n)) else .top
      | none => .top
    | _ => .top

/-- the blocks that a view may look at -/
def SPlus (c : Cx) (h : List Ob) (β : Pl) (w : World) (b : Nat) : Prop :=
  b < w.heap.size ∧ (Stab c.w0 c.S0 h β w b ∨ ∃ k ob u, h[k]? = some ob ∧ β.val k ob.ver = some u ∧ blk u = some b)

theorem pur_rep {c : Cx} {h : List Ob} {β : Pl} {w : World} (H : HRel c h β w) : ∀ (n : Nat) {u : Value} {x : X}, Rep w (Stab c.w0 c.S0 h β w) β u x → Rep w (SPlus c h β w) Pl.none u (purN h n x) := by
  have hS : ∀ b, Stab c.w0 c.S0 h β w b → SPlus c h β w b := fun b hs => ⟨hs.1, .inl hs⟩
  have hP : ∀ k ob u b, h[k]? = some ob → β.val k ob.ver = some u → blk u = some b → SPlus c h β w b := fun k ob u b h1 h2 h3 => ⟨H.blk_lt h1 h2 h3, .inr ⟨k, ob, u, h1, h2, h3⟩⟩
  intro n
  induction n with
  | zero =>
    intro u x hr
    cases x with
    | v y =>
      obtain ⟨rfl, hp⟩ := hr.inv_v
      exact purV_rep hp
    | sl r => exact hr.cut0 hS (n := 0) rfl |>.mono (fun _ h => h) (fun _ _ => rfl) (fun _ _ _ h => by simp [Pl.cut] at h)
    | pt r => exact hr.cut0 hS (n := 0) rfl |>.mono (fun _ h => h) (fun _ _ => rfl) (fun _ _ _ h => by simp [Pl.cut] at h)
    | _ => exact .top _
  | succ n ih =>
    intro u x hr
    cases x with
    | v y =>
      obtain ⟨rfl, hp⟩ := hr.inv_v
      exact purV_rep hp
    | sl r => exact hr.cut0 hS (n := 0) rfl |>.mono (fun _ h => h) (fun _ _ => rfl) (fun _ _ _ h => by simp [Pl.cut] at h)
    | pt r => exact hr.cut0 hS (n := 0) rfl |>.mono (fun _ h => h) (fun _ _ => rfl) (fun _ _ _ h => by simp [Pl.cut] at h)
    | top => exact .top _
    | tup xs => exact .top _
    | gd es x => exact .top _
    | pin k ver u => exact .top _
    | agg cells =>
      obtain ⟨cs, rfl, hl, h1, hrep⟩ := hr.inv_agg
      refine .agg cs _ (by simpa using hl) h1 fun j x c hx hc => ?_
      rw [List.getElem?_map] at hx
      cases hj : cells[j]? with
      | none => rw [hj] at hx; cases hx
      | some y =>
        rw [hj] at hx
        injection hx with hx
        subst hx
        exact ih (hrep j y c hj hc)
    | fn f cap =>
      obtain ⟨cs, rfl, hl, hrep⟩ := hr.inv_fn
      refine .fn f cs _ (by simpa using hl) fun j x c hx hc => ?_
      rw [List.getElem?_map] at hx
      cases hj : cap[j]? with
      | none => rw [hj] at hx; cases hx
      | some y =>
        rw [hj] at hx
        injection hx with hx
        subst hx
        exact ih (hrep j y c hj hc)
    | osl k ver =>
      simp only [purN]
      split
      · rename_i ob hk
        split
        · rename_i hcond
          obtain ⟨rfl, hbx⟩ := hcond
          obtain ⟨hu, _⟩ := hr.inv_osl
          have hv : verOk h k ob.ver := by simp [verOk, hk]
          obtain ⟨h1, h2, u', hu', _, hcc⟩ := H.objs k ob hk
          rw [hu] at hu'; injection hu' with e; subst e
          rcases H.arr hk hv hu hbx with ⟨rfl, hr0⟩ | ⟨g, cap, rfl, hcap⟩
          · rw [hr0]; exact .nil _ _
          · have key : ∀ p : Nat × Nat, ∃ cc : Value, cc.oneCell' = true ∧ ∀ x, at2 ob.rows p.1 p.2 = some x → w.cell? ⟨g, p.1 * ob.sz + p.2, none⟩ = some cc ∧ Rep w (Stab c.w0 c.S0 h β w) β cc x := by
              intro p
              cases hat : at2 ob.rows p.1 p.2 with
              | none => exact ⟨.nilFunc, rfl, fun x hx => by cases hx⟩
              | some y =>
                obtain ⟨g', cc, hg', hcell, h1c, hrep⟩ := hcc _ _ y hat
                simp only [blk, Option.some.injEq] at hg'
                subst hg'
                exact ⟨cc, h1c, fun x hx => by injection hx with hx; subst hx; exact ⟨hcell, hrep⟩⟩
            obtain ⟨f, hf⟩ := Classical.axiomOfChoice key
            have := Rep.sl (w := w) (S := SPlus c h β w) (β := Pl.none) ⟨g, 0, none⟩ cap ob.sz (ob.rows.map fun r => r.map (purN h n)) (fun i j => f (i, j)) (by simpa using hcap) (hP k ob _ g hk hu rfl)
              (fun r hr => by
                obtain ⟨r', hr', rfl⟩ := List.mem_map.1 hr
                simpa using h2 r' hr') (fun i j hi hj => by
                simp only [List.length_map] at hi
                have hrl := h2 ob.rows[i] (List.getElem_mem _)
                have hat : at2 ob.rows i j = some (ob.rows[i][j]'(by omega)) := by simp only [at2, List.getElem?_eq_getElem hi, Option.bind_some]; exact List.getElem?_eq_getElem (by omega)
                rw [add_none, Nat.zero_add]; exact ((hf (i, j)).2 _ hat).1) (fun i j => (hf (i, j)).1) (fun i j x hx => by
                simp only [at2, List.getElem?_map] at hx
                cases hri : ob.rows[i]? with
                | none => rw [hri] at hx; cases hx
                | some r =>
                  rw [hri] at hx
                  simp only [Option.map_some, Option.bind_some, List.getElem?_map] at hx
                  cases hrj : r[j]? with
                  | none => rw [hrj] at hx; cases hx
                  | some y =>
                    rw [hrj] at hx
                    injection hx with hx
                    subst hx
                    exact ih ((hf (i, j)).2 y (by simp [at2, hri, hrj])).2)
            simpa using this
        · exact .top _
      · exact .top _
    | osub k ver off len =>
      simp only [purN]
      split
      · rename_i ob hk
        split
        · rename_i hcond
          obtain ⟨rfl, hbx, hlen⟩ := hcond
          have hll : (((ob.rows.drop off).take len).map fun r => r.map (purN h n)).length = len := by simp; omega
          cases hr with
          | osub0 =>
            have : (((ob.rows.drop off).take 0).map fun r => r.map (purN h n)) = [] := by simp
            rw [this]; exact .nil _ _
          | osub _ _ _ _ g cp nn cap hcp hu =>
            obtain ⟨h1, h2, u', hu', _, hcc⟩ := H.objs k ob hk
            rw [hu] at hu'; injection hu' with e; subst e
            have key : ∀ p : Nat × Nat, ∃ cc : Value, cc.oneCell' = true ∧ ∀ x, at2 ob.rows (off + p.1) p.2 = some x → w.cell? ⟨g, (off + p.1) * ob.sz + p.2, none⟩ = some cc ∧ Rep w (Stab c.w0 c.S0 h β w) β cc x := by
              intro p
              cases hat : at2 ob.rows (off + p.1) p.2 with
              | none => exact ⟨.nilFunc, rfl, fun x hx => by cases hx⟩
              | some y =>
                obtain ⟨g', cc, hg', hcell, h1c, hrep⟩ := hcc _ _ y hat
                simp only [blk, Option.some.injEq] at hg'
                subst hg'
                exact ⟨cc, h1c, fun x hx => by injection hx with hx; subst hx; exact ⟨hcell, hrep⟩⟩
            obtain ⟨f, hf⟩ := Classical.axiomOfChoice key
            have := Rep.sl (w := w) (S := SPlus c h β w) (β := Pl.none) ⟨g, off * β.sz k, none⟩ cp ob.sz (((ob.rows.drop off).take len).map fun r => r.map (purN h n)) (fun i j => f (i, j)) (by rw [hll]; exact hcp) (hP k ob _ g hk hu rfl)
              (fun r hr => by
                obtain ⟨r', hr', rfl⟩ := List.mem_map.1 hr
                simpa using h2 r' (List.mem_of_mem_drop (List.mem_of_mem_take hr'))) (fun i j hi hj => by
                rw [hll] at hi
                have hrl := h2 (ob.rows[off + i]'(by omega)) (List.getElem_mem _)
                have hat : at2 ob.rows (off + i) j = some ((ob.rows[off + i]'(by omega))[j]'(by omega)) := by simp only [at2, List.getElem?_eq_getElem (show off + i < ob.rows.length by omega), Option.bind_some]; exact List.getElem?_eq_getElem (by omega)
                rw [add_none, h1, ← Nat.add_assoc, ← Nat.add_mul]; exact ((hf (i, j)).2 _ hat).1) (fun i j => (hf (i, j)).1) (fun i j x hx => by
                simp only [at2, List.getElem?_map, List.getElem?_take, List.getElem?_drop] at hx
                split at hx
                · cases hri : ob.rows[off + i]? with
                  | none => rw [hri] at hx; cases hx
                  | some r =>
                    rw [hri] at hx
                    simp only [Option.map_some, Option.bind_some, List.getElem?_map] at hx
                    cases hrj : r[j]? with
                    | none => rw [hrj] at hx; cases hx
                    | some y =>
                      rw [hrj] at hx
                      injection hx with hx
                      subst hx
                      exact ih ((hf (i, j)).2 y (by simp [at2, hri, hrj])).2
                · cases hx)
            rw [hll] at this
            exact this
        · exact .top _
      · exact .top _
    | optr k ver i j =>
      simp only [purN]
      split
      · rename_i ob hk
        split
        · rename_i hcond
          subst hcond
          obtain ⟨g, v, hv, hg, rfl⟩ := hr.inv_optr
          have hver : verOk h k ob.ver := by simp [verOk, hk]
          have key : ∀ m : Nat, ∃ cc : Value, cc.oneCell' = true ∧ ∀ x, (rowOf h k i)[j + m]? = some x → w.cell? ⟨g, i * β.sz k + (j + m), none⟩ = some cc ∧ Rep w (Stab c.w0 c.S0 h β w) β cc x := by
            intro m
            cases hat : (rowOf h k i)[j + m]? with
            | none => exact ⟨.nilFunc, rfl, fun x hx => by cases hx⟩
            | some y =>
              obtain ⟨cc, hcell, h1c, hrep⟩ := H.cell hver hv hg hat
              exact ⟨cc, h1c, fun x hx => by injection hx with hx; subst hx; exact ⟨hcell, hrep⟩⟩
          obtain ⟨f, hf⟩ := Classical.axiomOfChoice key
          refine .pt _ _ f (hP k ob v g hk hv hg) (fun m hm => ?_) (fun m => (hf m).1) (fun m x hx => ?_)
          · simp only [List.length_map, List.length_drop] at hm
            rw [add_none, Nat.add_assoc]
            exact ((hf m).2 _ (List.getElem?_eq_getElem (by omega))).1
          · rw [List.getElem?_map, List.getElem?_drop] at hx
            cases hy : (rowOf h k i)[j + m]? with
            | none => rw [hy] at hx; cases hx
            | some y =>
              rw [hy] at hx
              injection hx with hx
              subst hx
              exact ih ((hf m).2 y hy).2
        · exact .top _
      · exact .top _

end Go.Abs
