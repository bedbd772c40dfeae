/-
  What is proved here: the predicate 'awp' on abstract states is sound for whole bodies of functions, and gives contracts. Condition: the contracts of the callees.
-/
import Derived.Test.YtglbimhhiikkpaaDoorAbs13x
namespace Go.Abs
open Go.RowKit

/-! ### code -/
def brP (x : X) (p q : Prop) : Prop :=
  match x with
  | .v (.bool b) => (b = true → p) ∧ (b = false → q)
  | _ => False

def thenP (k : St → Prop) (Q : Exit → St → Prop) : Exit → St → Prop
  | .normal, s => k s
  | e, s => Q e s
def blockP (id : Nat) (Q : Exit → St → Prop) : Exit → St → Prop
  | .exit i, s => if i = id then Q .normal s else Q (.exit i) s
  | e, s => Q e s

def loopP (B : (Exit → St → Prop) → St → Prop) (Q : Exit → St → Prop) (s : St) : Prop :=
  ∃ (ι : Type) (S : ι → St) (μ : ι → Nat), (∃ i, Wk s (S i)) ∧ ∀ i, B (thenP (fun s' => ∃ j, μ j < μ i ∧ Wk s' (S j)) Q) (S i)

def awp (P : Program) (E : Env) : Code → (Exit → St → Prop) → St → Prop
  | .skip, Q, s => Q .normal s
  | .region _ ops draw, Q, s => if draw then drawP P E ops s (Q .normal) else rgW P E ops ops.toList s (Q .normal)
  | .seq x y, Q, s => awp P E x (thenP (awp P E y Q) Q) s
  | .cond c x y, Q, s => brP (ev s c) (awp P E x Q s) (awp P E y Q s)
  | .block id x, Q, s => awp P E x (blockP id Q) s
  | .loop x, Q, s => loopP (awp P E x) Q s
  | .exit id, Q, s => Q (.exit id) s
  | .ret, Q, s => Q .ret s
  | _, _, _ => False

/-- what the run keeps -/
def Post (c : Cx) (Q : Exit → St → Prop) (e : Exit) (a : Act) (w : World) : Prop := ∃ s β, Q e s ∧ Rel c s β a w

theorem awp_sound {P : Program} {E : Env} {c : Cx} (hE : E.ok P c) (hm : P.follows .mixedOrders = true)  : ∀ (x : Code) (Q : Exit → St → Prop) (s : St) (β : Pl) (a : Act) (w : World), awp P E x Q s → Rel c s β a w → x.wp P (Post c Q) a w := by
  intro x
  induction x with
  | skip => intro Q s β a w h H; exact wp_skip ⟨s, β, h, H⟩
  | region id ops draw =>
    intro Q s β a w h H
    unfold awp at h
    cases draw with
    | true => exact drawP_sound hE hm H h fun s' β' a' w' hk H' => ⟨s', β', hk, H'⟩
    | false =>
      refine wp_region_list (rgW_sound hE ops.toList s _ β a w H h fun s' β' a' w' hk H' => ⟨s', β', hk, H'⟩)
  | seq x y ihx ihy =>
    intro Q s β a w h H
    refine wp_seq (wp_mono (ihx _ s β a w h H) ?_)
    rintro e a' w' ⟨s', β', hq, H'⟩
    cases e with
    | normal => exact ihy Q s' β' a' w' hq H'
    | _ => exact ⟨s', β', hq, H'⟩
  | cond cc x y ihx ihy =>
    intro Q s β a w h H
    have hr := rep_ev H cc
    unfold awp brP at h
    split at h
    · rename_i b hb
      rw [hb] at hr
      obtain ⟨hv, _⟩ := hr.inv_v
      cases b with
      | true => exact wp_cond_true hv (ihx Q s β a w (h.1 rfl) H)
      | false => exact wp_cond_false hv (ihy Q s β a w (h.2 rfl) H)
    · exact h.elim
  | block id x ih =>
    intro Q s β a w h H
    refine wp_block (wp_mono (ih _ s β a w h H) ?_)
    rintro e a' w' ⟨s', β', hq, H'⟩
    cases e with
    | exit i =>
      simp only [Exit.inBlock, blockP] at hq ⊢
      split
      · rename_i hi; rw [if_pos hi] at hq; exact ⟨s', β', hq, H'⟩
      · rename_i hi; rw [if_neg hi] at hq; exact ⟨s', β', hq, H'⟩
    | _ => exact ⟨s', β', hq, H'⟩
  | loop x ih =>
    intro Q s β a w h H
    obtain ⟨ι, S, μ, ⟨i, hi⟩, hround⟩ := h
    obtain ⟨β', H'⟩ := hi c β a w H
    refine wp_loop_ghost (fun n a w => ∃ i β, μ i = n ∧ Rel c (S i) β a w) (μ i) ⟨i, β', rfl, H'⟩ ?_
    rintro n a w ⟨i, β, rfl, H⟩
    refine wp_mono (ih _ (S i) β a w (hround i) H) ?_
    rintro e a' w' ⟨s', β', hq, H'⟩
    cases e with
    | normal =>
      obtain ⟨j, hlt, hj⟩ := hq
      obtain ⟨β'', H''⟩ := hj c β' a' w' H'
      exact ⟨μ j, hlt, j, β'', rfl, H''⟩
    | _ => exact ⟨s', β', hq, H'⟩
  | exit id => intro Q s β a w h H; exact wp_exit ⟨s, β, h, H⟩
  | ret => intro Q s β a w h H; exact wp_ret ⟨s, β, h, H⟩
  | _ => intro Q s β a w h H; exact h.elim

/-! ### results -/
def resX (P : Program) (s : St) : ResultVar → Eff
  | .tmp t => ⟨True, s.t t, s.h⟩
  | .cell a T => eLoad P s T (s.t a)

def resL (P : Program) (s : St) : List ResultVar → (List X → Prop) → Prop
  | [], k => k []
  | r :: rs, k => (resX P s r).use fun v _ => resL P s rs fun vs => k (v :: vs)

def one (xs : List X) : X := match xs with | [x] => x | xs => .tup xs

def resOne (tmps : Array Value) : ResultVar → Sem Value
  | .tmp t => pure (tmps.getD t undef)
  | .cell a t => do loadVar t (← asAddr (tmps.getD a undef))

theorem resL_sound {P : Program} {c : Cx} {s : St} {β : Pl} {a : Act} {w : World} (H : Rel c s β a w) : ∀ (rs : List ResultVar) (k : List X → Prop), resL P s rs k → ∃ (vs : List Value) (xs : List X), k xs ∧ vs.length = xs.length ∧
    (rs.mapM (resOne a.tmps)).run P w = .ok vs w ∧ ∀ (j : Nat) x v, xs[j]? = some x → vs[j]? = some v → Rep w (Stab c.w0 c.S0 s.h β w) β v x
  | [], k, h => ⟨[], [], h, rfl, rfl, by simp⟩
  | r :: rs, k, h => by
    obtain ⟨hc, h⟩ := h
    obtain ⟨vs, xs, hk, hl, hrun, hr⟩ := resL_sound H rs _ h
    have step : ∃ v, (resOne a.tmps r).run P w = .ok v w ∧ Rep w (Stab c.w0 c.S0 s.h β w) β v (resX P s r).val := by
      cases r with
      | tmp t => exact ⟨_, rfl, H.2.2.2 t⟩
      | cell x T =>
        have hrep := H.2.2.2 x
        simp only [resX] at hc ⊢
        -- the load leaves the world alone
        unfold eLoad at hc ⊢
        split at hc
        · rename_i cells hx
          rw [hx] at hrep
          obtain ⟨ad, cs, hu, hs, hcell, h1, hr'⟩ := hrep.inv_pt
          obtain ⟨hT, hn⟩ := hc
          have := run_loadAt (P := P) (w := w) (ad := ad) hT cs fun j hj => hcell j (by omega)
          refine ⟨_, ?_, rep_ld (by simpa [need] using hn) (fun j _ => h1 j) fun j x hx => (hr' j x hx).mono (fun _ h => h) (fun _ _ => rfl) (Pl.none_le _)⟩
          simp only [resOne, hu]
          simpa [resOne, Instr.loadAt, Instr.sureAddr, asAddr] using this
        · rename_i k' ver i j hx
          rw [hx] at hrep
          obtain ⟨g, v', hv', hg, hu⟩ := hrep.inv_optr
          obtain ⟨hT, hver, hpos, hn⟩ := hc
          have key : ∀ m, ∃ cc, (m < (rowOf s.h k' i).length - j → w.cell? ⟨g, i * β.sz k' + (j + m), none⟩ = some cc) ∧ (m < (rowOf s.h k' i).length - j → cc.oneCell' = true) ∧ ∀ x, ((rowOf s.h k' i).drop j)[m]? = some x → Rep w (Stab c.w0 c.S0 s.h β w) β cc x := by
            intro m
            by_cases hm : m < (rowOf s.h k' i).length - j
            · have hx : (rowOf s.h k' i)[j + m]? = some ((rowOf s.h k' i)[j + m]'(by omega)) := List.getElem?_eq_getElem (by omega)
              obtain ⟨cc, h1, h2, h3⟩ := H.2.2.1.cell hver hv' hg hx
              refine ⟨cc, fun _ => h1, fun _ => h2, fun x hx' => ?_⟩
              rw [List.getElem?_drop, hx] at hx'
              injection hx' with e
              subst e
              exact h3
            · refine ⟨.nilFunc, fun h => absurd h hm, fun h => absurd h hm, fun x hx => ?_⟩
              rw [List.getElem?_eq_none (by simp; omega)] at hx
              cases hx
          obtain ⟨cs, hcs⟩ := Classical.axiomOfChoice key
          have := run_loadAt (P := P) (w := w) (ad := ⟨g, i * β.sz k' + j, none⟩) hT cs fun m hm => by
            rw [add_none, Nat.add_assoc]; exact (hcs m).1 (by omega)
          refine ⟨_, ?_, rep_ld (by simp only [List.length_drop]; unfold need at hn; omega) (fun m hm => (hcs m).2.1 (by simpa using hm)) fun m x hx => (hcs m).2.2 x hx⟩
          simp only [resOne, hu]
          simpa [resOne, Instr.loadAt, Instr.sureAddr, asAddr] using this
        · exact hc.elim
    obtain ⟨v, hv, hrv⟩ := step
    refine ⟨v :: vs, _ :: xs, hk, by simp [hl], ?_, fun j x v' hx hv' => ?_⟩
    · simp only [List.mapM_cons, Sem.run_bind]
      rw [hv]
      simp only [Result.andThen_ok]
      rw [hrun]
      rfl
    · cases j with
      | zero => simp at hx hv'; subst hx hv'; exact hrv
      | succ j => exact hr j x v' (by simpa using hx) (by simpa using hv')

theorem results_sound {P : Program} {c : Cx} {s : St} {β : Pl} {a : Act} {w : World} (H : Rel c s β a w) (fn : Func) (k : X → Prop) (h : resL P s fn.results.toList fun xs => k (one xs)) :
    ∃ v x, k x ∧ (results fn a.tmps).run P w = .ok v w ∧ Rep w (Stab c.w0 c.S0 s.h β w) β v x := by
  obtain ⟨vs, xs, hk, hl, hrun, hr⟩ := resL_sound H fn.results.toList _ h
  have hrun' : (fn.results.mapM (resOne a.tmps)).run P w = .ok vs.toArray w := by
    rw [Array.mapM_eq_mapM_toList, Sem.run_map, hrun]
    rfl
  have hres : results fn a.tmps = (do let vs ← fn.results.mapM (resOne a.tmps); pure (if h : vs.size = 1 then vs[0] else .tuple vs)) := rfl
  rw [hres]
  simp only [Sem.run_bind]
  rw [hrun']
  simp only [Result.andThen_ok, Sem.run_pure, List.size_toArray]
  clear hrun hrun'
  match vs, xs, hl, hk, hr with
  | [v], [x], _, hk, hr => exact ⟨v, x, hk, rfl, hr 0 x v rfl rfl⟩
  | [], [], _, hk, hr => exact ⟨.tuple #[], .tup [], hk, rfl, .tup _ _ rfl (by simp)⟩
  | v :: v2 :: vs, x :: x2 :: xs, hl, hk, hr => exact ⟨_, .tup (x :: x2 :: xs), hk, by simp; rfl, .tup _ _ (by simpa using hl) fun j y u hy hu => hr j y u hy (by simpa using hu)⟩

end Go.Abs
