/-
  What is proved here: a run of operations one behind the other, in every related world. Condition: the contracts of the callees.
-/
import Derived.Test.YtglbimhhiikkpaaDoorAbs12b
namespace Go.Abs
open Go.RowKit

def upd (f : Nat → X) (d : Nat) (x : X) : Nat → X := fun t => if t = d then x else f t
def St.put (s : St) (d : Option Nat) (x : X) (h : List Ob) : St :=
  match d with
  | some d => ⟨s.n, upd s.t d x, h⟩
  | none => ⟨s.n, s.t, h⟩
def dok (s : St) : Option Nat → Prop
  | some d => d < s.n
  | none => True
def gval (ops : Array Oper) (s : St) (j : Nat) : X :=
  match (ops[j]?).bind (·.dst) with
  | some d => s.t d
  | none => .top

def Eff.use (e : Eff) (k : X → List Ob → Prop) : Prop := e.cond ∧ k e.val e.h
theorem Eff.use_mk (c : Prop) (v : X) (h : List Ob) (k : X → List Ob → Prop) : Eff.use ⟨c, v, h⟩ k = (c ∧ k v h) := rfl
def Eff.useG (e : Eff) (es : List (Bool × Bool)) (h0 : List Ob) (k : X → Prop) : Prop := (allT es → e.cond ∧ e.h = h0) ∧ k (.gd es e.val)
theorem Eff.useG_mk (c : Prop) (v : X) (h : List Ob) (es : List (Bool × Bool)) (h0 : List Ob) (k : X → Prop) : Eff.useG ⟨c, v, h⟩ es h0 k = ((allT es → c ∧ h = h0) ∧ k (.gd es v)) := rfl

/-- the tests on which an operation hangs that is guarded by this value -/
def gl (want : Bool) : X → Option (List (Bool × Bool))
  | .v (.bool p) => some [(p, want)]
  | .gd es (.v (.bool p)) => some (es ++ [(p, want)])
  | _ => none
def guardP (x : X) (want : Bool) (k : List (Bool × Bool) → Prop) : Prop :=
  match gl want x with
  | some es => k es
  | none => False
theorem allT_append (es fs : List (Bool × Bool)) : allT (es ++ fs) ↔ allT es ∧ allT fs := by
  induction es with
  | nil => simp [allT]
  | cons e es ih => simp [allT, ih, and_assoc]

def rgW (P : Program) (E : Env) (ops : Array Oper) : List Oper → St → (St → Prop) → Prop
  | [], s, K => K s
  | o :: rest, s, K =>
    match o.guard with
    | none => dok s o.dst ∧ (aop P E s o.op).use fun v h => rgW P E ops rest (s.put o.dst v h) K
    | some (j, want) => guardP (gval ops s j) want fun es => dok s o.dst ∧ (aop P E (s.un es) o.op).useG es s.h fun v => rgW P E ops rest (s.put o.dst v s.h) K

theorem Rel.put {c : Cx} {s : St} {β β' : Pl} {a : Act} {w w' : World} {h' : List Ob} {x : X} {v : Value} (d : Option Nat) (H : Rel c s β a w) (hd : dok s d) (h1 : HRel c h' β' w')
    (h2 : ∀ u x, Rep w (Stab c.w0 c.S0 s.h β w) β u x → Rep w' (Stab c.w0 c.S0 h' β' w') β' u x) (h3 : Rep w' (Stab c.w0 c.S0 h' β' w') β' v x) : Rel c (s.put d x h') β' (a.put d v) w' := by
  obtain ⟨r1, r2, _, r4⟩ := H
  cases d with
  | none => exact ⟨r1, r2, h1, fun t => h2 _ _ (r4 t)⟩
  | some d =>
    refine ⟨r1, by show (a.tmps.setIfInBounds d v).size = s.n; simpa using r2, h1, fun t => ?_⟩
    have hd' : d < a.tmps.size := by rw [r2]; exact hd
    show Rep _ _ _ ((a.tmps.setIfInBounds d v).getD t undef) (upd s.t d x t)
    unfold upd
    by_cases ht : t = d
    · subst ht
      rw [if_pos rfl]
      have : (a.tmps.setIfInBounds t v).getD t undef = v := by simp [Array.getD_eq_getD_getElem?, hd']
      rw [this]; exact h3
    · rw [if_neg ht]
      have : (a.tmps.setIfInBounds d v).getD t undef = a.tmps.getD t undef := by
        simp only [Array.getD_eq_getD_getElem?]
        rw [Array.getElem?_setIfInBounds_ne (Ne.symm ht)]
      rw [this]; exact h2 _ _ (r4 t)

theorem Rep.inv_gd {w : World} {S : Nat → Prop} {β : Pl} {u : Value} {es : List (Bool × Bool)} {x : X} (h : Rep w S β u (.gd es x)) : (allT es → Rep w S β u x) ∧ (¬ allT es → u = undef) := by
  cases h with
  | gd _ _ _ h1 h2 => exact ⟨h1, h2⟩
theorem yielded_of {c : Cx} {s : St} {β : Pl} {a : Act} {w : World} (H : Rel c s β a w) {ops : Array Oper} {j : Nat} {want : Bool} {es : List (Bool × Bool)} (hg : gl want (gval ops s j) = some es) : (allT es → yielded ops a.tmps j = some want) ∧ (¬ allT es → yielded ops a.tmps j ≠ some want) := by
  unfold gval at hg
  unfold yielded
  cases hd : (ops[j]?).bind (·.dst) with
  | none => rw [hd] at hg; cases hg
  | some d =>
    rw [hd] at hg
    have hr := H.2.2.2 d
    dsimp only at hg
    have bool : ∀ p, a.tmps.getD d undef = .bool p → a.tmps[d]? = some (.bool p) := by
      intro p hv
      rw [Array.getD_eq_getD_getElem?] at hv
      cases h : a.tmps[d]? with
      | none => rw [h] at hv; simp [undef] at hv
      | some y => rw [h] at hv; simpa using hv
    generalize hx : s.t d = x at hg hr
    unfold gl at hg
    split at hg
    · rename_i p
      injection hg with hg
      subst hg
      obtain ⟨hv, _⟩ := hr.inv_v
      have hget := bool p hv
      refine ⟨fun h => ?_, fun h => ?_⟩
      · simp [hget]; exact h.1
      · simp [hget]; exact fun e => h ⟨e, trivial⟩
    · rename_i es' p
      injection hg with hg
      subst hg
      obtain ⟨h1, h2⟩ := Rep.inv_gd hr
      · by_cases ha : allT es'
        · obtain ⟨hv, _⟩ := (h1 ha).inv_v
          have hget := bool p hv
          refine ⟨fun h => ?_, fun h => ?_⟩
          · simp [hget]; exact ((allT_append _ _).1 h).2.1
          · simp [hget]; exact fun e => h ((allT_append _ _).2 ⟨ha, e, trivial⟩)
        · refine ⟨fun h => absurd ((allT_append _ _).1 h).1 ha, fun _ => ?_⟩
          have hu := h2 ha
          rw [Array.getD_eq_getD_getElem?] at hu
          cases h : a.tmps[d]? with
          | none => simp [h]
          | some y =>
            rw [h] at hu
            simp only [Option.getD_some] at hu
            simp [h, hu, undef]
    · cases hg

theorem rgW_sound {P : Program} {E : Env} {c : Cx} (hE : E.ok P c)  {ops : Array Oper} {Q : Exit → Act → World → Prop} : ∀ (l : List Oper) (s : St) (K : St → Prop) (β : Pl) (a : Act) (w : World), Rel c s β a w → rgW P E ops l s K →
    (∀ s' β' a' w', K s' → Rel c s' β' a' w' → Q .normal a' w') → wpList P ops Q l a w
  | [], s, K, β, a, w, H, hk, hQ => hQ s β a w hk H
  | o :: rest, s, K, β, a, w, H, hk, hQ => by
    unfold rgW at hk
    unfold wpList
    split at hk
    · rename_i hg
      obtain ⟨hd, hc, hk⟩ := hk
      rw [if_pos (by simp [Region.wanted, hg])]
      refine .inl (aop_sound hE H o hc _ Q fun v β' w' h1 h2 h3 => ?_)
      exact rgW_sound hE rest _ K β' _ w' (Rel.put o.dst H hd h1 h2 h3) hk hQ
    · rename_i j want hg
      unfold guardP at hk
      split at hk
      · rename_i es hp
        obtain ⟨hd, hc, hk⟩ := hk
        have hy := yielded_of H hp
        by_cases hpw : allT es
        · obtain ⟨hc1, hc2⟩ := hc hpw
          rw [if_pos (by simp [Region.wanted, hg, hy.1 hpw])]
          refine .inl (aop_sound hE (H.un hpw) o hc1 _ Q fun v β' w' h1 h2 h3 => ?_)
          rw [hc2] at h1 h2 h3
          exact rgW_sound hE rest _ K β' _ w' (Rel.put o.dst H hd h1 h2 (.gd es _ _ (fun _ => h3) fun e => absurd hpw e)) hk hQ
        · rw [if_neg (by simp [Region.wanted, hg, hy.2 hpw])]
          exact rgW_sound hE rest _ K β _ w (Rel.put o.dst H hd H.2.2.1 (fun _ _ h => h) (.gd es _ _ (fun e => absurd e hpw) fun _ => rfl)) hk hQ
      · exact hk.elim

end Go.Abs
