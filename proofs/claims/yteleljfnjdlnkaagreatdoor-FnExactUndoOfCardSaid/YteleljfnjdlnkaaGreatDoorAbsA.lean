/-
  What is proved here: laws of a relation between the model's worlds and a plain abstract state (lists in the place of memory). Condition: none.
  What is proved here: how the relation of Abs1 is kept when memory grows, when an object of the call's own is made, written or grown. Condition: none.
  What is proved here: what one operation of the model does to the abstract state, and that it does so in every related world. Condition: the operation's own condition, in the abstract state.
  What is proved here: the operations that only read, in every related world. Condition: the operation's own condition, in the abstract state.
  What is proved here: addresses of fields and elements, parts of values, lengths, slices, in every related world. Condition: the operation's own condition, in the abstract state.
  What is proved here: new variables and stores into objects of the call's own, in every related world. Condition: the operation's own condition, in the abstract state.
  What is proved here: literals, make and append, in every related world. Condition: the operation's own condition, in the abstract state.
  What is proved here: append, slices of slices and strings, and the small operations, in every related world. Condition: the operation's own condition, in the abstract state.
  What is proved here: slices of slices and of strings, and the small operations, in every related world. Condition: the operation's own condition, in the abstract state.
-/
import Derived.WalkKit
import Derived.WalkSpells
import Derived.Orders
import Derived.Great.FillDense
import Derived.Maps.AppendAt
import Derived.Laws.BytesString
import Derived.Laws.Cells
set_option linter.unusedVariables false
set_option linter.unusedSimpArgs false
set_option linter.unnecessarySimpa false
namespace Go.Abs
open Go.RowKit

inductive X where
  | top
  | v (x : Value)
  | sl (rows : List (List X))
  | pt (cells : List X)
  | agg (cells : List X)
  | tup (xs : List X)
  | fn (f : Nat) (cap : List X)
  | osl (k ver : Nat)
  | osub (k ver off len : Nat)
  | optr (k ver i j : Nat)
  | gd (es : List (Bool × Bool)) (x : X)
  | pin (k ver : Nat) (u : Value)
  | e0

/-- all these tests came out as wanted -/
def allT : List (Bool × Bool) → Prop
  | [] => True
  | e :: es => e.1 = e.2 ∧ allT es

/-- one cell, no memory behind it -/
def plain : Value → Bool
  | .bool _ | .int _ _ | .float _ _ | .string _ | .pointer none | .slice none 0 0 | .nilFunc | .nilIface | .map none => true
  | _ => false

/-- where the objects' versions lie, and how wide a row is -/
structure Pl where
  val : Nat → Nat → Option Value
  sz : Nat → Nat

def Pl.none : Pl := ⟨fun _ _ => Option.none, fun _ => 0⟩

def Pl.le (β β' : Pl) : Prop := (∀ k ver v, β.val k ver = some v → β'.val k ver = some v ∧ β'.sz k = β.sz k)

theorem Pl.le_refl (β : Pl) : β.le β := fun _ _ _ h => ⟨h, rfl⟩
theorem Pl.le_trans {a b c : Pl} (h : a.le b) (k : b.le c) : a.le c := fun i j v hv => ⟨(k i j v (h i j v hv).1).1, (k i j v (h i j v hv).1).2.trans (h i j v hv).2⟩
theorem Pl.none_le (β : Pl) : Pl.none.le β := fun _ _ _ h => by simp [Pl.none] at h

def blk : Value → Option Nat
  | .slice (some a) _ _ => some a.block
  | .pointer (some a) => some a.block
  | .map (some g) => some g
  | _ => none

def at2 (rows : List (List X)) (i j : Nat) : Option X := (rows[i]?).bind (·[j]?)

inductive Rep (w : World) (S : Nat → Prop) : Pl → Value → X → Prop
  | top {β} (u : Value) : Rep w S β u .top
  | v {β} (x : Value) (h : plain x = true) : Rep w S β x (.v x)
  | nil {β} (a : Option Addr) (c : Nat) : Rep w S β (.slice a 0 c) (.sl [])
  | sl {β} (ad : Addr) (c sz : Nat) (rows : List (List X)) (cs : Nat → Nat → Value) (hcap : rows.length ≤ c) (hs : S ad.block) (hz : ∀ r ∈ rows, r.length = sz)
      (hc : ∀ i j, i < rows.length → j < sz → w.cell? (ad.add (i * sz + j)) = some (cs i j))
      (h1 : ∀ i j, (cs i j).oneCell' = true) (hr : ∀ i j x, at2 rows i j = some x → Rep w S Pl.none (cs i j) x) : Rep w S β (.slice (some ad) rows.length c) (.sl rows)
  | pt {β} (ad : Addr) (cells : List X) (cs : Nat → Value) (hs : S ad.block) (hc : ∀ j, j < cells.length → w.cell? (ad.add j) = some (cs j))
      (h1 : ∀ j, (cs j).oneCell' = true) (hr : ∀ (j : Nat) x, cells[j]? = some x → Rep w S Pl.none (cs j) x) : Rep w S β (.pointer (some ad)) (.pt cells)
  | agg {β} (cs : Array Value) (xs : List X) (hl : cs.size = xs.length) (h1 : ∀ c ∈ cs, c.oneCell' = true) (hr : ∀ (j : Nat) x c, xs[j]? = some x → cs[j]? = some c → Rep w S β c x) : Rep w S β (.agg cs) (.agg xs)
  | tup {β} (cs : Array Value) (xs : List X) (hl : cs.size = xs.length) (hr : ∀ (j : Nat) x c, xs[j]? = some x → cs[j]? = some c → Rep w S β c x) : Rep w S β (.tuple cs) (.tup xs)
  | fn {β} (f : Nat) (cs : Array Value) (xs : List X) (hl : cs.size = xs.length) (hr : ∀ (j : Nat) x c, xs[j]? = some x → cs[j]? = some c → Rep w S β c x) : Rep w S β (.func (.func f) #[] cs) (.fn f xs)
  | osl {β} (k ver : Nat) (u : Value) (h : β.val k ver = some u) (h1 : u.oneCell' = true) : Rep w S β u (.osl k ver)
  | osub {β} (k ver off len g c n cap : Nat) (hcap : len ≤ c) (hoc : off + c = cap) (h : β.val k ver = some (.slice (some ⟨g, 0, none⟩) n cap)) : Rep w S β (.slice (some ⟨g, off * β.sz k, none⟩) len c) (.osub k ver off len)
  | osub0 {β} (k ver off : Nat) (a : Option Addr) (u : Value) (h : β.val k ver = some u) (hz : (u = .slice none 0 0 ∧ a = none) ∨ ∃ g n, u = .slice (some ⟨g, 0, none⟩) n off) : Rep w S β (.slice a 0 0) (.osub k ver off 0)
  | gd {β} (es : List (Bool × Bool)) (u : Value) (x : X) (h : allT es → Rep w S β u x) (hu : ¬ allT es → u = undef) : Rep w S β u (.gd es x)
  | pin {β} (u' : Value) (k ver : Nat) (u : Value) (h : β.val k ver = some u) : Rep w S β u' (.pin k ver u)
  | e0 {β} (a : Option Addr) : Rep w S β (.slice a 0 0) .e0
  | optr {β} (k ver i j g : Nat) (u : Value) (h : β.val k ver = some u) (hg : blk u = some g) : Rep w S β (.pointer (some ⟨g, i * β.sz k + j, none⟩)) (.optr k ver i j)

/-- the relation only looks at the blocks of S, and only at the places that β knows -/
theorem Rep.mono {w w' : World} {S S' : Nat → Prop} {β β' : Pl} {u : Value} {x : X} (h : Rep w S β u x) (hS : ∀ b, S b → S' b)
    (hw : ∀ b, S b → w'.heap[b]? = w.heap[b]?) (hβ : β.le β') : Rep w' S' β' u x := by
  induction h generalizing β' with
  | top u => exact .top u
  | v x h => exact .v x h
  | nil a c => exact .nil a c
  | sl ad c sz rows cs hcap hs hz hc h1 hr ih =>
    refine .sl ad c sz rows cs hcap (hS _ hs) hz (fun i j hi hj => ?_) h1 (fun i j x hx => ih i j x hx (Pl.le_refl _))
    rw [← hc i j hi hj]
    refine World.cell?_of_block ?_
    have : (ad.add (i * sz + j)).block = ad.block := by unfold Addr.add; split <;> rfl
    rw [this]; exact hw _ hs
  | pt ad cells cs hs hc h1 hr ih =>
    refine .pt ad cells cs (hS _ hs) (fun j hj => ?_) h1 (fun j x hx => ih j x hx (Pl.le_refl _))
    rw [← hc j hj]
    refine World.cell?_of_block ?_
    have : (ad.add j).block = ad.block := by unfold Addr.add; split <;> rfl
    rw [this]; exact hw _ hs
  | agg cs xs hl h1 hr ih => exact .agg cs xs hl h1 fun j x c hx hc => ih j x c hx hc hβ
  | tup cs xs hl hr ih => exact .tup cs xs hl fun j x c hx hc => ih j x c hx hc hβ
  | fn f cs xs hl hr ih => exact .fn f cs xs hl fun j x c hx hc => ih j x c hx hc hβ
  | osl k ver u h h1 => exact .osl k ver u (hβ _ _ _ h).1 h1
  | osub k ver off len g c n cap hcap hoc h =>
    obtain ⟨h1, h2⟩ := hβ _ _ _ h
    rw [← h2]; exact .osub k ver off len g c n cap hcap hoc h1
  | osub0 k ver off a u h hz => exact .osub0 k ver off a u (hβ _ _ _ h).1 hz
  | gd es u x h hu ih => exact .gd es u x (fun e => ih e hβ) hu
  | pin u' k ver u h => exact .pin u' k ver u (hβ _ _ _ h).1
  | e0 a => exact .e0 a
  | optr k ver i j g u h hg =>
    obtain ⟨h1, h2⟩ := hβ _ _ _ h
    rw [← h2]; exact .optr k ver i j g u h1 hg

/-- an object of the call's own -/
structure Ob where
  ty : Nat
  sz : Nat
  ver : Nat
  rows : List (List X)
  bx : Bool
  live : Bool
  mp : Option (List (Int × Value))

/-- the form of an object's canonical value in memory -/
def Shape (w : World) (ob : Ob) (u : Value) : Prop :=
  (u = .slice none 0 0 ∧ ob.rows = [] ∧ ob.bx = false) ∨
  (∃ g es clock l, u = .map (some g) ∧ ob.mp = some l ∧ ob.rows = [] ∧ ob.bx = true ∧ w.heap[g]? = some (.map es clock) ∧ es.toList.map (fun e => (e.key, e.val)) = l.map (fun p => (.int .i64 p.1, p.2))) ∨
  ∃ g cap cur, w.heap[g]? = some (.cells cur ob.ty (0, 0)) ∧ cur.size = cap * ob.sz ∧ ob.rows.length ≤ cap ∧ cap ≤ maxLen ∧
    (if ob.bx then cap = 1 ∧ ob.rows.length = 1 ∧ u = .pointer (some ⟨g, 0, none⟩) else u = .slice (some ⟨g, 0, none⟩) ob.rows.length cap)

def ObRel (w : World) (S : Nat → Prop) (β : Pl) (k : Nat) (ob : Ob) : Prop :=
  β.sz k = ob.sz ∧ (∀ r ∈ ob.rows, r.length = ob.sz) ∧ ∃ u, β.val k ob.ver = some u ∧ Shape w ob u ∧
    ∀ i j x, at2 ob.rows i j = some x → ∃ g c, blk u = some g ∧ w.cell? ⟨g, i * ob.sz + j, none⟩ = some c ∧ c.oneCell' = true ∧ Rep w S β c x

structure St where
  n : Nat
  t : Nat → X
  h : List Ob

/-- which blocks are owned and may still turn -/
def Owned (h : List Ob) (β : Pl) (b : Nat) : Prop := ∃ k ob u, h[k]? = some ob ∧ ob.live = true ∧ β.val k ob.ver = some u ∧ blk u = some b

/-- the blocks on which pure data may lie -/
def Stab (w0 : World) (S0 : Nat → Prop) (h : List Ob) (β : Pl) (w : World) (b : Nat) : Prop :=
  b < w.heap.size ∧ (S0 b ∨ w0.heap.size ≤ b) ∧ ¬ Owned h β b

structure Frm (w0 : World) (M : Nat → Prop) (w : World) : Prop where
  os : w.os = w0.os
  tape : w.tape = w0.tape
  output : w.output = w0.output
  size : w0.heap.size ≤ w.heap.size
  block : ∀ b, b < w0.heap.size → ¬ M b → w.heap[b]? = w0.heap[b]?

theorem Frm.refl (w : World) (M : Nat → Prop) : Frm w M w := ⟨rfl, rfl, rfl, Nat.le_refl _, fun _ _ _ => rfl⟩

/-- the context of a run: the world at its start, the blocks of pure data that came in, the blocks that it may write -/
structure Cx where
  w0 : World
  S0 : Nat → Prop
  M : Nat → Prop
  A : List (Nat × List X)

/-- the package's variables that hold what is listed -/
def Amb (w : World) (S : Nat → Prop) (A : List (Nat × List X)) : Prop := ∀ p ∈ A, Rep w S Pl.none (.pointer (some ⟨p.1, 0, none⟩)) (.pt p.2) ∧ ∃ cs t z, w.heap[p.1]? = some (.cells cs t z) ∧ cs.size = p.2.length

structure HRel (c : Cx) (h : List Ob) (β : Pl) (w : World) : Prop where
  objs : ∀ k ob, h[k]? = some ob → ObRel w (Stab c.w0 c.S0 h β w) β k ob
  inj : ∀ k k' ob ob' u u' b, h[k]? = some ob → h[k']? = some ob' → β.val k ob.ver = some u → β.val k' ob'.ver = some u' → blk u = some b → blk u' = some b → k = k'
  cur : ∀ k ob ver, h[k]? = some ob → ob.ver < ver → β.val k ver = none
  dom : ∀ k ver, h.length ≤ k → β.val k ver = none
  frm : Frm c.w0 c.M w
  own : ∀ b, Owned h β b → b < w.heap.size ∧ (c.w0.heap.size ≤ b ∨ c.M b)
  st0 : ∀ b, c.S0 b → b < c.w0.heap.size ∧ ¬ c.M b
  amb : Amb c.w0 c.S0 c.A

def Rel (c : Cx) (s : St) (β : Pl) (a : Act) (w : World) : Prop :=
  a.defers = [] ∧ a.tmps.size = s.n ∧ HRel c s.h β w ∧ ∀ t, Rep w (Stab c.w0 c.S0 s.h β w) β (a.tmps.getD t undef) (s.t t)

theorem HRel.ambNow {c : Cx} {h : List Ob} {β : Pl} {w : World} (H : HRel c h β w) : Amb w (Stab c.w0 c.S0 h β w) c.A := fun p hp => by
  obtain ⟨h1, cs, t, z, h2, h3⟩ := H.amb p hp
  have hs : c.S0 p.1 := by
    have key : ∀ {u : Value} {x : X}, Rep c.w0 c.S0 Pl.none u x → u = .pointer (some ⟨p.1, 0, none⟩) → x = .pt p.2 → c.S0 p.1 := by
      intro u x hr hu hx
      cases hr with
      | pt ad cells cs hs =>
        injection hu with e
        injection e with e
        rw [e] at hs
        exact hs
      | _ => cases hx
    exact key h1 rfl rfl
  refine ⟨h1.mono (fun b hb => ⟨Nat.lt_of_lt_of_le (H.st0 b hb).1 H.frm.size, .inl hb, fun ho => ?_⟩) (fun b hb => H.frm.block b (H.st0 b hb).1 (H.st0 b hb).2) (Pl.le_refl _), cs, t, z, (H.frm.block _ (H.st0 _ hs).1 (H.st0 _ hs).2).trans h2, h3⟩
  rcases (H.own b ho).2 with h1 | h1
  · have := (H.st0 b hb).1; omega
  · exact (H.st0 b hb).2 h1

end Go.Abs

namespace Go.Abs
open Go.RowKit

def Pl.set (β : Pl) (k ver : Nat) (u : Value) (z : Nat) : Pl :=
  ⟨fun i j => if i = k ∧ j = ver then some u else β.val i j, fun i => if i = k then z else β.sz i⟩

@[simp] theorem Pl.set_same (β : Pl) (k ver : Nat) (u : Value) (z : Nat) : (β.set k ver u z).val k ver = some u := by simp [Pl.set]
theorem Pl.set_other (β : Pl) (k ver : Nat) (u : Value) (z i j : Nat) (h : ¬ (i = k ∧ j = ver)) : (β.set k ver u z).val i j = β.val i j := by simp [Pl.set, h]

theorem Pl.le_set {β : Pl} {k ver : Nat} {u : Value} {z : Nat} (h : β.val k ver = Option.none ∨ β.val k ver = some u) (hz : ∀ j v, β.val k j = some v → β.sz k = z) : β.le (β.set k ver u z) := by
  intro i j v hv
  by_cases hi : i = k
  · subst hi
    refine ⟨?_, by simp [Pl.set, hz j v hv]⟩
    by_cases hj : j = ver
    · subst hj
      rcases h with h | h
      · rw [h] at hv; cases hv
      · rw [h] at hv; injection hv with hv; subst hv; simp
    · rw [Pl.set_other _ _ _ _ _ _ _ (by simp [hj])]; exact hv
  · exact ⟨by rw [Pl.set_other _ _ _ _ _ _ _ (by simp [hi])]; exact hv, by simp [Pl.set, hi]⟩

theorem Frm.below {w0 w w' : World} {M : Nat → Prop} (h : Frm w0 M w) (hb : Below w.heap.size w w') : Frm w0 M w' :=
  ⟨hb.os.trans h.os, hb.tape.trans h.tape, hb.output.trans h.output, Nat.le_trans h.size hb.size, fun b h1 h2 => (hb.block b (Nat.lt_of_lt_of_le h1 h.size)).trans (h.block b h1 h2)⟩

theorem Shape.blk_lt {w : World} {ob : Ob} {u : Value} {b : Nat} (h : Shape w ob u) (hb : blk u = some b) : b < w.heap.size := by
  rcases h with ⟨rfl, _⟩ | ⟨g, es, clock, l, rfl, _, _, _, hg, _⟩ | ⟨g, cap, cur, hg, _, _, _, hu⟩
  · simp [blk] at hb
  · simp only [blk, Option.some.injEq] at hb
    subst hb
    rcases Nat.lt_or_ge g w.heap.size with h | h
    · exact h
    · rw [Array.getElem?_eq_none h] at hg; cases hg
  · have hgb : g = b := by
      split at hu
      · obtain ⟨_, _, rfl⟩ := hu; simpa [blk] using hb
      · subst hu; simpa [blk] using hb
    subst hgb
    rcases Nat.lt_or_ge g w.heap.size with h | h
    · exact h
    · rw [Array.getElem?_eq_none h] at hg; cases hg

theorem Shape.keep {w w' : World} {ob : Ob} {u : Value} (h : Shape w ob u) (hb : ∀ b, blk u = some b → w'.heap[b]? = w.heap[b]?) : Shape w' ob u := by
  rcases h with h | ⟨g, es, clock, l, rfl, h1, h2, h3, hg, h4⟩ | ⟨g, cap, cur, hg, h1, h2, h3, hu⟩
  · exact .inl h
  · exact .inr (.inl ⟨g, es, clock, l, rfl, h1, h2, h3, by rw [hb g rfl]; exact hg, h4⟩)
  · have hgb : blk u = some g := by
      split at hu
      · obtain ⟨_, _, rfl⟩ := hu; rfl
      · subst hu; rfl
    exact .inr (.inr ⟨g, cap, cur, by rw [hb g hgb]; exact hg, h1, h2, h3, hu⟩)

theorem HRel.blk_lt {c : Cx} {h : List Ob} {β : Pl} {w : World} {k b : Nat} {ob : Ob} {u : Value} (H : HRel c h β w) (hk : h[k]? = some ob) (hu : β.val k ob.ver = some u) (hb : blk u = some b) : b < w.heap.size := by
  obtain ⟨_, _, u', hu', hs, _⟩ := H.objs k ob hk
  rw [hu] at hu'; injection hu' with e; subst e
  exact hs.blk_lt hb

/-- memory has only grown -/
theorem HRel.ext {c : Cx} {h : List Ob} {β : Pl} {w w' : World} (H : HRel c h β w) (hb : Below w.heap.size w w') :
    HRel c h β w' ∧ ∀ v x, Rep w (Stab c.w0 c.S0 h β w) β v x → Rep w' (Stab c.w0 c.S0 h β w') β v x := by
  have tr : ∀ v x, Rep w (Stab c.w0 c.S0 h β w) β v x → Rep w' (Stab c.w0 c.S0 h β w') β v x := fun v x hr =>
    hr.mono (fun b hs => ⟨Nat.lt_of_lt_of_le hs.1 hb.size, hs.2⟩) (fun b hs => hb.block b hs.1) (Pl.le_refl _)
  refine ⟨⟨fun k ob hk => ?_, H.inj, H.cur, H.dom, H.frm.below hb, fun b ho => ⟨Nat.lt_of_lt_of_le (H.own b ho).1 hb.size, (H.own b ho).2⟩, H.st0, H.amb⟩, tr⟩
  obtain ⟨h1, h2, u, hu, hs, hc⟩ := H.objs k ob hk
  refine ⟨h1, h2, u, hu, hs.keep fun b hbu => hb.block b (hs.blk_lt hbu), fun i j x hx => ?_⟩
  obtain ⟨g, cc, hg, hcell, h1c, hr⟩ := hc i j x hx
  exact ⟨g, cc, hg, by rw [World.cell?_of_block (w := w) (hb.block g (hs.blk_lt hg))]; exact hcell, h1c, tr _ _ hr⟩

/-- a new object: its block, if it has one, is new -/
theorem HRel.push {c : Cx} {h : List Ob} {β : Pl} {w w' : World} (H : HRel c h β w) (hb : Below w.heap.size w w') (ob : Ob) (u : Value) (hv : ob.ver = 0)
    (hrows : ∀ r ∈ ob.rows, r.length = ob.sz) (hsh : Shape w' ob u) (hnew : ∀ b, blk u = some b → w.heap.size ≤ b)
    (hcells : ∀ S' β', (∀ v x, Rep w (Stab c.w0 c.S0 h β w) β v x → Rep w' S' β' v x) → ∀ i j x, at2 ob.rows i j = some x →
      ∃ g cc, blk u = some g ∧ w'.cell? ⟨g, i * ob.sz + j, none⟩ = some cc ∧ cc.oneCell' = true ∧ Rep w' S' β' cc x) :
    HRel c (h ++ [ob]) (β.set h.length 0 u ob.sz) w' ∧ ∀ v x, Rep w (Stab c.w0 c.S0 h β w) β v x → Rep w' (Stab c.w0 c.S0 (h ++ [ob]) (β.set h.length 0 u ob.sz) w') (β.set h.length 0 u ob.sz) v x := by
  have hle : β.le (β.set h.length 0 u ob.sz) := Pl.le_set (.inl (H.dom _ _ (Nat.le_refl _))) fun j v hj => by rw [H.dom _ _ (Nat.le_refl _)] at hj; cases hj
  have hget : ∀ {k ob'}, (h ++ [ob])[k]? = some ob' → (k < h.length ∧ h[k]? = some ob') ∨ (k = h.length ∧ ob' = ob) := by
    intro k ob' hk
    rcases Nat.lt_trichotomy k h.length with hlt | rfl | hgt
    · exact .inl ⟨hlt, by rwa [List.getElem?_append_left hlt] at hk⟩
    · refine .inr ⟨rfl, ?_⟩
      rw [List.getElem?_append_right (Nat.le_refl _)] at hk
      simpa using hk.symm
    · rw [List.getElem?_eq_none (by simp; omega)] at hk; cases hk
  have hval : ∀ k j, k < h.length → (β.set h.length 0 u ob.sz).val k j = β.val k j := fun k j hk => Pl.set_other _ _ _ _ _ _ _ (by omega)
  have hown : ∀ b, Owned (h ++ [ob]) (β.set h.length 0 u ob.sz) b → Owned h β b ∨ (blk u = some b) := by
    rintro b ⟨k, ob', u', hk, hl, hu', hbl⟩
    rcases hget hk with ⟨hlt, hk'⟩ | ⟨rfl, rfl⟩
    · exact .inl ⟨k, ob', u', hk', hl, by rwa [hval k _ hlt] at hu', hbl⟩
    · rw [hv, Pl.set_same] at hu'
      injection hu' with e
      subst e
      exact .inr hbl
  have tr : ∀ v x, Rep w (Stab c.w0 c.S0 h β w) β v x → Rep w' (Stab c.w0 c.S0 (h ++ [ob]) (β.set h.length 0 u ob.sz) w') (β.set h.length 0 u ob.sz) v x := fun v x hr =>
    hr.mono (fun b hs => ⟨Nat.lt_of_lt_of_le hs.1 hb.size, hs.2.1, fun ho => by
      rcases hown b ho with h1 | h1
      · exact hs.2.2 h1
      · have := hnew b h1; have := hs.1; omega⟩) (fun b hs => hb.block b hs.1) hle
  refine ⟨⟨fun k ob' hk => ?_, ?_, ?_, ?_, H.frm.below hb, ?_, H.st0, H.amb⟩, tr⟩
  · rcases hget hk with ⟨hlt, hk'⟩ | ⟨rfl, rfl⟩
    · obtain ⟨h1, h2, u', hu', hs, hc⟩ := H.objs k ob' hk'
      refine ⟨by simpa [Pl.set, Nat.ne_of_lt hlt] using h1, h2, u', by rw [hval k _ hlt]; exact hu', hs.keep fun b hbu => hb.block b (hs.blk_lt hbu), fun i j x hx => ?_⟩
      obtain ⟨g, cc, hg, hcell, h1c, hr⟩ := hc i j x hx
      exact ⟨g, cc, hg, by rw [World.cell?_of_block (w := w) (hb.block g (hs.blk_lt hg))]; exact hcell, h1c, tr _ _ hr⟩
    · exact ⟨by simp [Pl.set], hrows, u, by rw [hv]; simp, hsh, hcells _ _ tr⟩
  · intro k k' ob1 ob2 u1 u2 b hk hk' hu1 hu2 hb1 hb2
    rcases hget hk with ⟨hlt, hk1⟩ | ⟨rfl, rfl⟩ <;> rcases hget hk' with ⟨hlt', hk2⟩ | ⟨rfl, rfl⟩
    · rw [hval _ _ hlt] at hu1; rw [hval _ _ hlt'] at hu2
      exact H.inj k k' ob1 ob2 u1 u2 b hk1 hk2 hu1 hu2 hb1 hb2
    · exfalso
      rw [hval _ _ hlt] at hu1; rw [hv, Pl.set_same] at hu2; injection hu2 with e; subst e
      have := H.blk_lt hk1 hu1 hb1
      have := hnew b hb2
      omega
    · exfalso
      rw [hval _ _ hlt'] at hu2; rw [hv, Pl.set_same] at hu1; injection hu1 with e; subst e
      have := H.blk_lt hk2 hu2 hb2
      have := hnew b hb1
      omega
    · rfl
  · intro k ob' ver hk hlt
    rcases hget hk with ⟨hl, hk'⟩ | ⟨rfl, rfl⟩
    · rw [hval k _ hl]; exact H.cur k ob' ver hk' hlt
    · rw [Pl.set_other _ _ _ _ _ _ _ (by omega)]; exact H.dom _ _ (Nat.le_refl _)
  · intro k ver hk
    simp at hk
    rw [Pl.set_other _ _ _ _ _ _ _ (by omega)]; exact H.dom k ver (by omega)
  · intro b ho
    rcases hown b ho with h1 | h1
    · exact ⟨Nat.lt_of_lt_of_le (H.own b h1).1 hb.size, (H.own b h1).2⟩
    · exact ⟨hsh.blk_lt h1, .inl (Nat.le_trans H.frm.size (hnew b h1))⟩

/-- an object is written, or grows: only its own block has turned -/
theorem HRel.put {c : Cx} {h : List Ob} {β : Pl} {w w' : World} {k : Nat} {ob : Ob} {u : Value} (H : HRel c h β w) (hk : h[k]? = some ob) (hl : ob.live = true) (hu : β.val k ob.ver = some u)
    (ob' : Ob) (u' : Value) (hl' : ob'.live = true) (hver : (ob'.ver = ob.ver ∧ u' = u) ∨ ob'.ver = ob.ver + 1) (hz : ob'.sz = ob.sz)
    (hos : w'.os = w.os) (htape : w'.tape = w.tape) (hout : w'.output = w.output) (hsize : w.heap.size ≤ w'.heap.size)
    (hb : ∀ b, b < w.heap.size → blk u ≠ some b → w'.heap[b]? = w.heap[b]?) (hblk : ∀ b, blk u' = some b → blk u = some b ∨ w.heap.size ≤ b)
    (hrows : ∀ r ∈ ob'.rows, r.length = ob'.sz) (hsh : Shape w' ob' u')
    (hcells : ∀ S' β', (∀ v x, Rep w (Stab c.w0 c.S0 h β w) β v x → Rep w' S' β' v x) → ∀ i j x, at2 ob'.rows i j = some x →
      ∃ g cc, blk u' = some g ∧ w'.cell? ⟨g, i * ob'.sz + j, none⟩ = some cc ∧ cc.oneCell' = true ∧ Rep w' S' β' cc x) :
    HRel c (h.set k ob') (β.set k ob'.ver u' ob'.sz) w' ∧ ∀ v x, Rep w (Stab c.w0 c.S0 h β w) β v x → Rep w' (Stab c.w0 c.S0 (h.set k ob') (β.set k ob'.ver u' ob'.sz) w') (β.set k ob'.ver u' ob'.sz) v x := by
  have hkl : k < h.length := by
    rcases Nat.lt_or_ge k h.length with h1 | h1
    · exact h1
    · rw [List.getElem?_eq_none h1] at hk; cases hk
  obtain ⟨hsz, hrw, u0, hu0, hs0, hc0⟩ := H.objs k ob hk
  have e0 : u = u0 := by rw [hu] at hu0; injection hu0
  subst e0
  have hle : β.le (β.set k ob'.ver u' ob'.sz) := by
    refine Pl.le_set ?_ fun j v hj => by rw [hz]; exact hsz
    rcases hver with ⟨hv, rfl⟩ | hv
    · exact .inr (by rw [hv]; exact hu)
    · exact .inl (H.cur k ob ob'.ver hk (by omega))
  have hget : ∀ {i ob1}, (h.set k ob')[i]? = some ob1 → (i ≠ k ∧ h[i]? = some ob1) ∨ (i = k ∧ ob1 = ob') := by
    intro i ob1 hi
    by_cases e : i = k
    · subst e; rw [List.getElem?_set_self hkl] at hi; injection hi with hi; exact .inr ⟨rfl, hi.symm⟩
    · rw [List.getElem?_set_ne (Ne.symm e)] at hi; exact .inl ⟨e, hi⟩
  have hval : ∀ i j, i ≠ k → (β.set k ob'.ver u' ob'.sz).val i j = β.val i j := fun i j hi => Pl.set_other _ _ _ _ _ _ _ (by simp [hi])
  have hownk : ∀ b, blk u = some b → Owned h β b := fun b hbu => ⟨k, ob, u, hk, hl, hu, hbu⟩
  have hown : ∀ b, b < w.heap.size → Owned (h.set k ob') (β.set k ob'.ver u' ob'.sz) b → Owned h β b := by
    rintro b hlt ⟨i, ob1, u1, hi, hl1, hu1, hb1⟩
    rcases hget hi with ⟨hne, hi'⟩ | ⟨rfl, rfl⟩
    · exact ⟨i, ob1, u1, hi', hl1, by rwa [hval i _ hne] at hu1, hb1⟩
    · rw [Pl.set_same] at hu1
      injection hu1 with e
      subst e
      rcases hblk b hb1 with h1 | h1
      · exact hownk b h1
      · omega
  have tr : ∀ v x, Rep w (Stab c.w0 c.S0 h β w) β v x → Rep w' (Stab c.w0 c.S0 (h.set k ob') (β.set k ob'.ver u' ob'.sz) w') (β.set k ob'.ver u' ob'.sz) v x := fun v x hr =>
    hr.mono (fun b hs => ⟨Nat.lt_of_lt_of_le hs.1 hsize, hs.2.1, fun ho => hs.2.2 (hown b hs.1 ho)⟩) (fun b hs => hb b hs.1 fun e => hs.2.2 (hownk b e)) hle
  have hoth : ∀ i ob1 u1 b, i ≠ k → h[i]? = some ob1 → β.val i ob1.ver = some u1 → blk u1 = some b → blk u ≠ some b := by
    intro i ob1 u1 b hne hi hu1 hb1 e
    exact hne (H.inj i k ob1 ob u1 u b hi hk hu1 hu hb1 e)
  refine ⟨⟨fun i ob1 hi => ?_, ?_, ?_, ?_, ?_, ?_, H.st0, H.amb⟩, tr⟩
  · rcases hget hi with ⟨hne, hi'⟩ | ⟨rfl, rfl⟩
    · obtain ⟨h1, h2, u1, hu1, hs, hc⟩ := H.objs i ob1 hi'
      have hbk : ∀ b, blk u1 = some b → w'.heap[b]? = w.heap[b]? := fun b hb1 => hb b (hs.blk_lt hb1) (hoth i ob1 u1 b hne hi' hu1 hb1)
      refine ⟨by simpa [Pl.set, hne] using h1, h2, u1, by rw [hval i _ hne]; exact hu1, hs.keep hbk, fun i' j x hx => ?_⟩
      obtain ⟨g, cc, hg, hcell, h1c, hr⟩ := hc i' j x hx
      exact ⟨g, cc, hg, by rw [World.cell?_of_block (w := w) (hbk g hg)]; exact hcell, h1c, tr _ _ hr⟩
    · exact ⟨by simp [Pl.set], hrows, u', Pl.set_same _ _ _ _ _, hsh, hcells _ _ tr⟩
  · intro i i' ob1 ob2 u1 u2 b hi hi' hu1 hu2 hb1 hb2
    rcases hget hi with ⟨hne, hi1⟩ | ⟨rfl, rfl⟩ <;> rcases hget hi' with ⟨hne', hi2⟩ | ⟨rfl, rfl⟩
    · rw [hval _ _ hne] at hu1; rw [hval _ _ hne'] at hu2
      exact H.inj i i' ob1 ob2 u1 u2 b hi1 hi2 hu1 hu2 hb1 hb2
    · exfalso
      rw [hval _ _ hne] at hu1; rw [Pl.set_same] at hu2; injection hu2 with e; subst e
      rcases hblk b hb2 with h1 | h1
      · exact hoth i ob1 u1 b hne hi1 hu1 hb1 h1
      · have := H.blk_lt hi1 hu1 hb1; omega
    · exfalso
      rw [hval _ _ hne'] at hu2; rw [Pl.set_same] at hu1; injection hu1 with e; subst e
      rcases hblk b hb1 with h1 | h1
      · exact hoth i' ob2 u2 b hne' hi2 hu2 hb2 h1
      · have := H.blk_lt hi2 hu2 hb2; omega
    · rfl
  · intro i ob1 ver hi hlt
    rcases hget hi with ⟨hne, hi'⟩ | ⟨rfl, rfl⟩
    · rw [hval i _ hne]; exact H.cur i ob1 ver hi' hlt
    · rw [Pl.set_other _ _ _ _ _ _ _ (by omega)]; exact H.cur i ob ver hk (by omega)
  · intro i ver hi
    simp at hi
    rw [hval i _ (by omega)]; exact H.dom i ver hi
  · refine ⟨hos.trans H.frm.os, htape.trans H.frm.tape, hout.trans H.frm.output, Nat.le_trans H.frm.size hsize, fun b h1 h2 => ?_⟩
    rw [hb b (Nat.lt_of_lt_of_le h1 H.frm.size) fun e => ?_]
    · exact H.frm.block b h1 h2
    · rcases (H.own b (hownk b e)).2 with h3 | h3
      · omega
      · exact h2 h3
  · rintro b ⟨i, ob1, u1, hi, hl1, hu1, hb1⟩
    rcases hget hi with ⟨hne, hi'⟩ | ⟨rfl, rfl⟩
    · rw [hval i _ hne] at hu1
      have := H.own b ⟨i, ob1, u1, hi', hl1, hu1, hb1⟩
      exact ⟨Nat.lt_of_lt_of_le this.1 hsize, this.2⟩
    · rw [Pl.set_same] at hu1
      injection hu1 with e
      subst e
      refine ⟨hsh.blk_lt hb1, ?_⟩
      rcases hblk b hb1 with h1 | h1
      · exact (H.own b (hownk b h1)).2
      · exact .inl (Nat.le_trans H.frm.size h1)

/-- an object will not turn any more -/
theorem HRel.freeze {c : Cx} {h : List Ob} {β : Pl} {w : World} {k : Nat} {ob : Ob} (H : HRel c h β w) (hk : h[k]? = some ob) :
    HRel c (h.set k { ob with live := false }) β w ∧ ∀ v x, Rep w (Stab c.w0 c.S0 h β w) β v x → Rep w (Stab c.w0 c.S0 (h.set k { ob with live := false }) β w) β v x := by
  have hkl : k < h.length := by
    rcases Nat.lt_or_ge k h.length with h1 | h1
    · exact h1
    · rw [List.getElem?_eq_none h1] at hk; cases hk
  have hget : ∀ {i ob1}, (h.set k { ob with live := false })[i]? = some ob1 → (i ≠ k ∧ h[i]? = some ob1) ∨ (i = k ∧ ob1 = { ob with live := false }) := by
    intro i ob1 hi
    by_cases e : i = k
    · subst e; rw [List.getElem?_set_self hkl] at hi; injection hi with hi; exact .inr ⟨rfl, hi.symm⟩
    · rw [List.getElem?_set_ne (Ne.symm e)] at hi; exact .inl ⟨e, hi⟩
  have hown : ∀ b, Owned (h.set k { ob with live := false }) β b → Owned h β b := by
    rintro b ⟨i, ob1, u1, hi, hl1, hu1, hb1⟩
    rcases hget hi with ⟨_, hi'⟩ | ⟨rfl, rfl⟩
    · exact ⟨i, ob1, u1, hi', hl1, hu1, hb1⟩
    · simp at hl1
  have tr : ∀ v x, Rep w (Stab c.w0 c.S0 h β w) β v x → Rep w (Stab c.w0 c.S0 (h.set k { ob with live := false }) β w) β v x := fun v x hr =>
    hr.mono (fun b hs => ⟨hs.1, hs.2.1, fun ho => hs.2.2 (hown b ho)⟩) (fun b hs => rfl) (Pl.le_refl _)
  refine ⟨⟨fun i ob1 hi => ?_, ?_, ?_, ?_, H.frm, fun b ho => H.own b (hown b ho), H.st0, H.amb⟩, tr⟩
  · rcases hget hi with ⟨_, hi'⟩ | ⟨rfl, rfl⟩
    · obtain ⟨h1, h2, u1, hu1, hs, hc⟩ := H.objs i ob1 hi'
      refine ⟨h1, h2, u1, hu1, hs, fun i' j x hx => ?_⟩
      obtain ⟨g, cc, hg, hcell, h1c, hr⟩ := hc i' j x hx
      exact ⟨g, cc, hg, hcell, h1c, tr _ _ hr⟩
    · obtain ⟨h1, h2, u1, hu1, hs, hc⟩ := H.objs i ob hk
      refine ⟨h1, h2, u1, hu1, hs, fun i' j x hx => ?_⟩
      obtain ⟨g, cc, hg, hcell, h1c, hr⟩ := hc i' j x hx
      exact ⟨g, cc, hg, hcell, h1c, tr _ _ hr⟩
  · intro i i' ob1 ob2 u1 u2 b hi hi' hu1 hu2 hb1 hb2
    rcases hget hi with ⟨hne, hi1⟩ | ⟨rfl, rfl⟩ <;> rcases hget hi' with ⟨hne', hi2⟩ | ⟨rfl, rfl⟩
    · exact H.inj i i' ob1 ob2 u1 u2 b hi1 hi2 hu1 hu2 hb1 hb2
    · exact H.inj i i' ob1 ob u1 u2 b hi1 hk hu1 hu2 hb1 hb2
    · exact H.inj i i' ob ob2 u1 u2 b hk hi2 hu1 hu2 hb1 hb2
    · rfl
  · intro i ob1 ver hi hlt
    rcases hget hi with ⟨hne, hi'⟩ | ⟨rfl, rfl⟩
    · exact H.cur i ob1 ver hi' hlt
    · exact H.cur i ob ver hk hlt
  · intro i ver hi
    simp at hi
    exact H.dom i ver hi

def ok0 (n : Nat) : X → Bool
  | .osl k _ => k < n
  | .osub k _ _ _ => k < n
  | .optr k _ _ _ => k < n
  | .pin k _ _ => k < n
  | .agg _ | .tup _ | .fn _ _ | .gd _ _ => false
  | _ => true

def ok1 (n : Nat) : X → Bool
  | .agg cs => cs.all (ok0 n)
  | .fn _ cs => cs.all (ok0 n)
  | x => ok0 n x

def Pl.cut (β : Pl) (n : Nat) : Pl := ⟨fun k ver => if k < n then β.val k ver else Option.none, β.sz⟩

theorem Rep.cut0 {w : World} {S S' : Nat → Prop} {β : Pl} {n : Nat} {u : Value} {x : X} (h : Rep w S β u x) (hS : ∀ b, S b → S' b) (ho : ok0 n x = true) : Rep w S' (β.cut n) u x := by
  cases h with
  | top u => exact .top u
  | v _ h => exact .v _ h
  | nil a c => exact .nil a c
  | sl ad c sz rows cs hcap hs hz hc h1 hr => exact .sl ad c sz rows cs hcap (hS _ hs) hz hc h1 fun i j x hx => (hr i j x hx).mono hS (fun _ _ => rfl) (Pl.le_refl _)
  | pt ad cells cs hs hc h1 hr => exact .pt ad cells cs (hS _ hs) hc h1 fun j x hx => (hr j x hx).mono hS (fun _ _ => rfl) (Pl.le_refl _)
  | agg cs xs hl h1 hr => simp [ok0] at ho
  | tup cs xs hl hr => simp [ok0] at ho
  | fn f cs xs hl hr => simp [ok0] at ho
  | gd es u x h => simp [ok0] at ho
  | osl k ver u h h1 => exact .osl k ver u (by simp [ok0] at ho; simp [Pl.cut, ho, h]) h1
  | osub k ver off len g c n' cap hcap hoc h => exact Rep.osub (β := β.cut n) k ver off len g c n' cap hcap hoc (by simp [ok0] at ho; simp [Pl.cut, ho, h])
  | osub0 k ver off a u h hz => exact .osub0 k ver off a u (by simp [ok0] at ho; simp [Pl.cut, ho, h]) hz
  | pin _ k ver u1 h => exact .pin _ k ver u1 (by simp [ok0] at ho; simp [Pl.cut, ho, h])
  | e0 a => exact .e0 a
  | optr k ver i j g u h hg => exact Rep.optr (β := β.cut n) k ver i j g u (by simp [ok0] at ho; simp [Pl.cut, ho, h]) hg

theorem Rep.cut1 {w : World} {S S' : Nat → Prop} {β : Pl} {n : Nat} {u : Value} {x : X} (h : Rep w S β u x) (hS : ∀ b, S b → S' b) (ho : ok1 n x = true) : Rep w S' (β.cut n) u x := by
  cases h with
  | agg cs xs hl h1 hr =>
    simp only [ok1, List.all_eq_true] at ho
    exact .agg cs xs hl h1 fun j x c hx hc => (hr j x c hx hc).cut0 hS (ho x (List.mem_of_getElem? hx))
  | tup cs xs hl hr => simp [ok1, ok0] at ho
  | gd es u x h => simp [ok1, ok0] at ho
  | fn f cs xs hl hr =>
    simp only [ok1, List.all_eq_true] at ho
    exact .fn f cs xs hl fun j x c hx hc => (hr j x c hx hc).cut0 hS (ho x (List.mem_of_getElem? hx))
  | top u => exact .top u
  | v _ h => exact .v _ h
  | nil a c => exact .nil a c
  | sl ad c sz rows cs hcap hs hz hc h1 hr => exact (Rep.sl (β := β) ad c sz rows cs hcap hs hz hc h1 hr).cut0 hS rfl
  | pt ad cells cs hs hc h1 hr => exact (Rep.pt (β := β) ad cells cs hs hc h1 hr).cut0 hS rfl
  | osl k ver u h h1 => exact (Rep.osl (β := β) k ver u h h1).cut0 hS ho
  | osub k ver off len g c n' cap hcap hoc h => exact (Rep.osub (β := β) k ver off len g c n' cap hcap hoc h).cut0 hS ho
  | osub0 k ver off a u h hz => exact (Rep.osub0 (β := β) k ver off a u h hz).cut0 hS ho
  | pin _ k ver u1 h => exact (Rep.pin (β := β) _ k ver u1 h).cut0 hS ho
  | e0 a => exact .e0 a
  | optr k ver i j g u h hg => exact (Rep.optr (β := β) k ver i j g u h hg).cut0 hS ho

/-- the last objects are forgotten -/
theorem HRel.drop {c : Cx} {h : List Ob} {β : Pl} {w : World} (H : HRel c h β w) (n : Nat) (hok : ∀ ob ∈ h.take n, ∀ r ∈ ob.rows, ∀ x ∈ r, ok0 n x = true) :
    HRel c (h.take n) (β.cut n) w ∧ (∀ b, Stab c.w0 c.S0 h β w b → Stab c.w0 c.S0 (h.take n) (β.cut n) w b) := by
  have hget : ∀ {k ob}, (h.take n)[k]? = some ob → k < n ∧ h[k]? = some ob := by
    intro k ob hk
    rw [List.getElem?_take] at hk
    split at hk
    · exact ⟨by assumption, hk⟩
    · cases hk
  have hval : ∀ k ver, k < n → (β.cut n).val k ver = β.val k ver := fun k ver hk => by simp [Pl.cut, hk]
  have hown : ∀ b, Owned (h.take n) (β.cut n) b → Owned h β b := by
    rintro b ⟨k, ob, u, hk, hl, hu, hb⟩
    obtain ⟨h1, h2⟩ := hget hk
    exact ⟨k, ob, u, h2, hl, by rwa [hval k _ h1] at hu, hb⟩
  have hst : ∀ b, Stab c.w0 c.S0 h β w b → Stab c.w0 c.S0 (h.take n) (β.cut n) w b := fun b hs => ⟨hs.1, hs.2.1, fun ho => hs.2.2 (hown b ho)⟩
  refine ⟨⟨fun k ob hk => ?_, ?_, ?_, ?_, H.frm, fun b ho => H.own b (hown b ho), H.st0, H.amb⟩, hst⟩
  · obtain ⟨h1, h2⟩ := hget hk
    obtain ⟨a1, a2, u, hu, hs, hc⟩ := H.objs k ob h2
    refine ⟨a1, a2, u, by rw [hval k _ h1]; exact hu, hs, fun i j x hx => ?_⟩
    obtain ⟨g, cc, hg, hcell, h1c, hr⟩ := hc i j x hx
    refine ⟨g, cc, hg, hcell, h1c, hr.cut0 hst ?_⟩
    unfold at2 at hx
    cases hrow : ob.rows[i]? with
    | none => rw [hrow] at hx; cases hx
    | some r =>
      rw [hrow] at hx
      exact hok ob (List.mem_of_getElem? hk) r (List.mem_of_getElem? hrow) x (List.mem_of_getElem? hx)
  · intro k k' ob ob' u u' b hk hk' hu hu' hb hb'
    obtain ⟨h1, h2⟩ := hget hk
    obtain ⟨h3, h4⟩ := hget hk'
    rw [hval _ _ h1] at hu; rw [hval _ _ h3] at hu'
    exact H.inj k k' ob ob' u u' b h2 h4 hu hu' hb hb'
  · intro k ob ver hk hlt
    obtain ⟨h1, h2⟩ := hget hk
    rw [hval _ _ h1]; exact H.cur k ob ver h2 hlt
  · intro k ver hk
    by_cases h1 : k < n
    · rw [hval _ _ h1]; refine H.dom k ver ?_
      rw [List.length_take] at hk; omega
    · simp [Pl.cut, h1]

/-- s' says no more than s -/
def Wk (s s' : St) : Prop := ∀ c β a w, Rel c s β a w → ∃ β', Rel c s' β' a w

theorem Wk.refl (s : St) : Wk s s := fun _ β _ _ h => ⟨β, h⟩
theorem Wk.trans {a b c : St} (h : Wk a b) (k : Wk b c) : Wk a c := fun cx β ac w hr => by
  obtain ⟨β', h'⟩ := h cx β ac w hr
  exact k cx β' ac w h'

/-- slots are forgotten -/
theorem Wk.slots {s : St} {t' : Nat → X} (ht : ∀ t, t' t = .top ∨ t' t = s.t t) : Wk s ⟨s.n, t', s.h⟩ := by
  rintro c β a w ⟨h1, h2, h3, h4⟩
  refine ⟨β, h1, h2, h3, fun t => ?_⟩
  show Rep _ _ _ _ (t' t)
  rcases ht t with e | e
  · rw [e]; exact .top _
  · rw [e]; exact h4 t

theorem Wk.drop {s : St} {t' : Nat → X} (n : Nat) (hok : ∀ ob ∈ s.h.take n, ∀ r ∈ ob.rows, ∀ x ∈ r, ok0 n x = true) (ht : ∀ t, t' t = .top ∨ (t' t = s.t t ∧ ok1 n (s.t t) = true)) : Wk s ⟨s.n, t', s.h.take n⟩ := by
  rintro c β a w ⟨h1, h2, h3, h4⟩
  obtain ⟨g1, g2⟩ := h3.drop n hok
  refine ⟨β.cut n, h1, h2, g1, fun t => ?_⟩
  show Rep _ _ _ _ (t' t)
  rcases ht t with e | ⟨e, ho⟩
  · rw [e]; exact .top _
  · rw [e]; exact (h4 t).cut1 g2 ho

end Go.Abs

namespace Go.Abs
open Go.RowKit

/-! ### the program's tables, as total functions -/
def szOf (P : Program) (T : Nat) : Nat := ((P.info? T).map (·.size)).getD 0
def byOf (P : Program) (T : Nat) : Nat := ((P.info? T).map (·.bytes)).getD 0
def okT (P : Program) (T : Nat) : Bool := (P.info? T).isSome && (P.underlying T).isSome
def isAg (P : Program) (T : Nat) : Bool := match P.underlying T with | some (.struct _) | some (.array _ _) => true | _ => false
def slEl (P : Program) (T : Nat) : Option Nat := match P.underlying T with | some (.slice e) => some e | _ => none
def arEl (P : Program) (T : Nat) : Option (Nat × Nat) := match P.underlying T with | some (.array n e) => some (n, e) | _ => none
def flOf (P : Program) (T f : Nat) : Option (Nat × Nat) := match P.underlying T with | some (.struct fs) => (fs[f]?).map fun x => (x.offset, x.type) | _ => none
def isStr (P : Program) (T : Nat) : Bool := match P.underlying T with | some .string => true | _ => false
def inK (P : Program) (T : Nat) : Option IntKind := match P.underlying T with | some (.int k) => some k | _ => none
def zeroC (P : Program) (T : Nat) : List Value := ((((P.info? T).bind (·.zero)).map (·.cells.toList)).getD [])
def hasZ (P : Program) (T : Nat) : Bool := ((P.info? T).bind (·.zero)).isSome

theorem okT_info {P : Program} {T : Nat} (h : okT P T = true) : ∃ i, P.info? T = some i ∧ szOf P T = i.size ∧ byOf P T = i.bytes := by
  simp only [okT, Bool.and_eq_true, Option.isSome_iff_exists] at h
  obtain ⟨⟨i, hi⟩, _⟩ := h
  exact ⟨i, hi, by simp [szOf, hi], by simp [byOf, hi]⟩
theorem okT_und {P : Program} {T : Nat} (h : okT P T = true) : ∃ d, P.underlying T = some d := by
  simp only [okT, Bool.and_eq_true, Option.isSome_iff_exists] at h
  exact h.2
theorem slEl_eq {P : Program} {T e : Nat} (h : slEl P T = some e) : P.underlying T = some (.slice e) := by
  unfold slEl at h; split at h
  · injection h with h; subst h; assumption
  · cases h
theorem arEl_eq {P : Program} {T n e : Nat} (h : arEl P T = some (n, e)) : P.underlying T = some (.array n e) := by
  unfold arEl at h; split at h
  · injection h with h; injection h with h1 h2; subst h1 h2; assumption
  · cases h

theorem run_isAgg {P : Program} {T : Nat} (h : okT P T = true) (w : World) : (isAgg T).run P w = .ok (isAg P T) w := by
  obtain ⟨d, hd⟩ := okT_und h
  unfold isAgg isAg
  rw [hd]
  simp only [Sem.run_bind, run_underlying hd, Result.andThen_ok]
  cases d <;> rfl
theorem run_sizeOf {P : Program} {T : Nat} (h : okT P T = true) (w : World) : (sizeOf T).run P w = .ok (szOf P T) w := by
  obtain ⟨i, hi, h1, _⟩ := okT_info h
  simp [sizeOf, typeInfo, hi, h1]

/-! ### operands -/
def cst (c : Value) : X :=
  if plain c then .v c else match c with
    | .agg cs => if cs.all plain then .agg (cs.toList.map .v) else .top
    | _ => .top
def ev (s : St) : Operand → X
  | .tmp t => s.t t
  | .const c => cst c
  | .global _ => .top
  | .func f => .fn f []

theorem plain_one {c : Value} (h : plain c = true) : c.oneCell' = true := by
  cases c <;> first | rfl | simp [plain] at h

theorem rep_cst (w : World) (S : Nat → Prop) (β : Pl) (c : Value) : Rep w S β c (cst c) := by
  unfold cst
  by_cases h : plain c = true
  · rw [if_pos h]; exact .v c h
  · rw [if_neg h]
    split
    · rename_i cs
      split
      · rename_i hall
        rw [Array.all_eq_true] at hall
        have hp : ∀ (j : Nat) c, cs[j]? = some c → plain c = true := fun j c hc => by
          obtain ⟨hj, e⟩ := Array.getElem?_eq_some_iff.1 hc
          rw [← e]; exact hall j hj
        refine .agg cs _ (by simp) (fun c hc => ?_) fun j x c hx hc => ?_
        · obtain ⟨j, hj, e⟩ := Array.mem_iff_getElem.1 hc
          exact plain_one (hp j c (by rw [Array.getElem?_eq_some_iff]; exact ⟨hj, e⟩))
        · rw [List.getElem?_map, Array.getElem?_toList, hc] at hx
          injection hx with hx
          subst hx
          exact .v c (hp j c hc)
      · exact .top _
    · exact .top _

theorem rep_ev {c : Cx} {s : St} {β : Pl} {a : Act} {w : World} (H : Rel c s β a w) (x : Operand) : Rep w (Stab c.w0 c.S0 s.h β w) β (a.eval x) (ev s x) := by
  cases x with
  | tmp t => exact H.2.2.2 t
  | const v => exact rep_cst _ _ _ v
  | global g => exact .top _
  | func f => exact .fn f #[] [] rfl (fun j x c hx => by simp at hx)

/-! ### what an operation gives: its condition, its value, the objects behind it -/
structure Eff where
  cond : Prop
  val : X
  h : List Ob

/-- 'sem' does what the effect says, in every related world -/
def Does (P : Program) (c : Cx) (s : St) (β : Pl) (w : World) (sem : Sem Value) (e : Eff) : Prop :=
  ∃ v w' β', sem.run P w = .ok v w' ∧ HRel c e.h β' w' ∧ (∀ u x, Rep w (Stab c.w0 c.S0 s.h β w) β u x → Rep w' (Stab c.w0 c.S0 e.h β' w') β' u x) ∧
    Rep w' (Stab c.w0 c.S0 e.h β' w') β' v e.val

theorem Does.pure {P : Program} {c : Cx} {s : St} {β : Pl} {w : World} {sem : Sem Value} {cond : Prop} {v : Value} {x : X} (H : HRel c s.h β w) (hrun : sem.run P w = .ok v w)
    (hr : Rep w (Stab c.w0 c.S0 s.h β w) β v x) : Does P c s β w sem ⟨cond, x, s.h⟩ := ⟨v, w, β, hrun, H, fun _ _ h => h, hr⟩

/-! ### scalars -/
def binV (op : BinOp) (a b : Value) : Value :=
  match op, a, b with
  | .add, .int k x, .int _ y => .int k (k.wrap (x + y))
  | .sub, .int k x, .int _ y => .int k (k.wrap (x - y))
  | .mul, .int k x, .int _ y => .int k (k.wrap (x * y))
  | .quo, .int k x, .int _ y => .int k (k.wrap (x.tdiv y))
  | .rem, .int k x, .int _ y => .int k (x.tmod y)
  | .and, .int k x, .int _ y => .int k (k.wrap (BitVec.ofInt k.bits x &&& BitVec.ofInt k.bits y).toNat)
  | .or, .int k x, .int _ y => .int k (k.wrap (BitVec.ofInt k.bits x ||| BitVec.ofInt k.bits y).toNat)
  | .xor, .int k x, .int _ y => .int k (k.wrap (BitVec.ofInt k.bits x ^^^ BitVec.ofInt k.bits y).toNat)
  | .andNot, .int k x, .int _ y => .int k (k.wrap (BitVec.ofInt k.bits x &&& ~~~BitVec.ofInt k.bits y).toNat)
  | .shl, .int k x, .int _ y => .int k (k.wrap (x * 2 ^ (min y.toNat k.bits)))
  | .shr, .int k x, .int _ y => .int k (x.fdiv (2 ^ (min y.toNat k.bits)))
  | .eql, .int _ x, .int _ y => .bool (x == y)
  | .neq, .int _ x, .int _ y => .bool (x != y)
  | .lss, .int _ x, .int _ y => .bool (x < y)
  | .leq, .int _ x, .int _ y => .bool (x ≤ y)
  | .gtr, .int _ x, .int _ y => .bool (x > y)
  | .geq, .int _ x, .int _ y => .bool (x ≥ y)
  | .add, .string x, .string y => .string (x ++ y)
  | .eql, .string x, .string y => .bool (x.toList == y.toList)
  | .neq, .string x, .string y => .bool (!(x.toList == y.toList))
  | .lss, .string x, .string y => .bool (Op.bytesLess x.toList y.toList)
  | .leq, .string x, .string y => .bool (Op.bytesLess x.toList y.toList || x.toList == y.toList)
  | .gtr, .string x, .string y => .bool (!(Op.bytesLess x.toList y.toList || x.toList == y.toList))
  | .geq, .string x, .string y => .bool (!Op.bytesLess x.toList y.toList)
  | .eql, .bool x, .bool y => .bool (x == y)
  | .neq, .bool x, .bool y => .bool (!(x == y))
  | _, _, _ => .nilFunc
def binC (P : Program) (T : Nat) (op : BinOp) (a b : Value) : Prop :=
  match op, a, b with
  | .add, .int k _, .int k' _ | .sub, .int k _, .int k' _ | .mul, .int k _, .int k' _ => k = k'
  | .and, .int k _, .int k' _ | .or, .int k _, .int k' _ | .xor, .int k _, .int k' _ | .andNot, .int k _, .int k' _ => k = k'
  | .quo, .int k _, .int k' y | .rem, .int k _, .int k' y => k = k' ∧ y ≠ 0
  | .shl, .int _ _, .int _ y | .shr, .int _ _, .int _ y => 0 ≤ y
  | .eql, .int k _, .int k' _ | .neq, .int k _, .int k' _ | .lss, .int k _, .int k' _ | .leq, .int k _, .int k' _ | .gtr, .int k _, .int k' _ | .geq, .int k _, .int k' _ => k = k'
  | .add, .string x, .string y => x.size + y.size ≤ 9223372036854775807
  | .eql, .string _, .string _ | .neq, .string _, .string _ | .lss, .string _, .string _ | .leq, .string _, .string _ | .gtr, .string _, .string _ | .geq, .string _, .string _ => True
  | .eql, .bool _, .bool _ | .neq, .bool _, .bool _ => P.underlying T = some .bool
  | _, _, _ => False

theorem run_equal_bool {P : Program} {T : Nat} (h : P.underlying T = some .bool) (x y : Bool) (w : World) : (Op.equal T (.bool x) (.bool y)).run P w = .ok (x == y) w := by
  have : ∀ d, (Op.equalIn (d + 1) T (.bool x) (.bool y)).run P w = .ok (x == y) w := fun d => by simp [Op.equalIn, run_underlying h]
  exact this 9999

theorem run_concat {P : Program} (x y : ByteArray) (h : x.size + y.size ≤ 9223372036854775807) (w : World) : (Op.stringOp .add x y).run P w = .ok (.string (x ++ y)) w := by
  have h' : ¬ (((x.size + y.size : Nat) : Int) > IntKind.i64.max) := by simp only [IntKind.max, IntKind.signed, IntKind.bits]; omega
  simp only [Op.stringOp]
  rw [if_neg h']
  rfl

theorem binV_run {P : Program} {T : Nat} {op : BinOp} {a b : Value} (h : binC P T op a b) (w : World) (x y : Operand) :
    ((do eqGuard op T x y a b; binOp op T a b : Sem Value)).run P w = .ok (binV op a b) w ∧ plain (binV op a b) = true := by
  unfold binC at h
  split at h <;> first
    | exact h.elim
    | (subst h; refine ⟨?_, rfl⟩; simp [eqGuard, binOp, binV, Op.intArith, Op.intBits, Op.intCmp]; done)
    | (obtain ⟨h1, h2⟩ := h; subst h1; refine ⟨?_, rfl⟩; simp [eqGuard, binOp, binV, Op.intDiv, h2]; done)
    | (refine ⟨?_, rfl⟩; simp [eqGuard, binOp, binV, Op.shift, Int.not_lt.2 h]; done)
    | (refine ⟨?_, rfl⟩; simp [eqGuard, binOp, binV, run_concat _ _ h]; done)
    | (refine ⟨?_, rfl⟩; simp [eqGuard, binOp, binV, Op.stringOp]; done)
    | (refine ⟨?_, rfl⟩; simp [eqGuard, binOp, binV, run_equal_bool h]; done)

end Go.Abs

namespace Go.Abs
open Go.RowKit

theorem add_add' (a : Addr) (i j : Nat) : (a.add i).add j = a.add (i + j) := by
  unfold Addr.add
  by_cases hi : i = 0 <;> by_cases hj : j = 0 <;> simp [hi, hj, Nat.add_assoc]
theorem add_block (a : Addr) (i : Nat) : (a.add i).block = a.block := by unfold Addr.add; split <;> rfl
theorem add_none (g o i : Nat) : (⟨g, o, none⟩ : Addr).add i = ⟨g, o + i, none⟩ := by
  unfold Addr.add; split
  · rename_i h; subst h; rfl
  · rfl

section
variable {w : World} {S : Nat → Prop} {β : Pl} {u : Value}
theorem Rep.inv_v {x : Value} (h : Rep w S β u (.v x)) : u = x ∧ plain x = true := by cases h; exact ⟨rfl, by assumption⟩
theorem Rep.inv_pt {cells : List X} (h : Rep w S β u (.pt cells)) : ∃ (ad : Addr) (cs : Nat → Value), u = .pointer (some ad) ∧ S ad.block ∧ (∀ j, j < cells.length → w.cell? (ad.add j) = some (cs j)) ∧ (∀ j, (cs j).oneCell' = true) ∧
    ∀ (j : Nat) x, cells[j]? = some x → Rep w S Pl.none (cs j) x := by
  cases h with
  | pt ad cells cs hs hc h1 hr => exact ⟨ad, cs, rfl, hs, hc, h1, hr⟩
theorem Rep.inv_agg {xs : List X} (h : Rep w S β u (.agg xs)) : ∃ cs : Array Value, u = .agg cs ∧ cs.size = xs.length ∧ (∀ c ∈ cs, c.oneCell' = true) ∧ ∀ (j : Nat) x c, xs[j]? = some x → cs[j]? = some c → Rep w S β c x := by
  cases h with
  | agg cs xs hl h1 hr => exact ⟨cs, rfl, hl, h1, hr⟩
theorem Rep.inv_tup {xs : List X} (h : Rep w S β u (.tup xs)) : ∃ cs : Array Value, u = .tuple cs ∧ cs.size = xs.length ∧ ∀ (j : Nat) x c, xs[j]? = some x → cs[j]? = some c → Rep w S β c x := by
  cases h with
  | tup cs xs hl hr => exact ⟨cs, rfl, hl, hr⟩
theorem Rep.inv_sl {rows : List (List X)} (h : Rep w S β u (.sl rows)) : (rows = [] ∧ ∃ a c, u = .slice a 0 c) ∨ ∃ (ad : Addr) (c sz : Nat) (cs : Nat → Nat → Value), u = .slice (some ad) rows.length c ∧ rows.length ≤ c ∧ S ad.block ∧ (∀ r ∈ rows, r.length = sz) ∧
    (∀ i j, i < rows.length → j < sz → w.cell? (ad.add (i * sz + j)) = some (cs i j)) ∧ (∀ i j, (cs i j).oneCell' = true) ∧ ∀ i j x, at2 rows i j = some x → Rep w S Pl.none (cs i j) x := by
  cases h with
  | nil a c => exact .inl ⟨rfl, a, c, rfl⟩
  | sl ad c sz rows cs hcap hs hz hc h1 hr => exact .inr ⟨ad, c, sz, cs, rfl, hcap, hs, hz, hc, h1, hr⟩
theorem Rep.inv_optr {k ver i j : Nat} (h : Rep w S β u (.optr k ver i j)) : ∃ g v, β.val k ver = some v ∧ blk v = some g ∧ u = .pointer (some ⟨g, i * β.sz k + j, none⟩) := by
  cases h with
  | optr k ver i j g v h hg => exact ⟨g, v, h, hg, rfl⟩
theorem Rep.inv_osl {k ver : Nat} (h : Rep w S β u (.osl k ver)) : β.val k ver = some u ∧ u.oneCell' = true := by
  cases h with
  | osl k ver u h h1 => exact ⟨h, h1⟩
theorem Rep.inv_pin {k ver : Nat} {v : Value} (h : Rep w S β u (.pin k ver v)) : β.val k ver = some v := by
  cases h with
  | pin _ _ _ _ h => exact h
theorem Rep.inv_fn {f : Nat} {xs : List X} (h : Rep w S β u (.fn f xs)) : ∃ cs : Array Value, u = .func (.func f) #[] cs ∧ cs.size = xs.length ∧ ∀ (j : Nat) x c, xs[j]? = some x → cs[j]? = some c → Rep w S β c x := by
  cases h with
  | fn f cs xs hl hr => exact ⟨cs, rfl, hl, hr⟩
end

/-! ### load -/
def ldX (ag : Bool) (sz : Nat) (l : List X) : X := if ag then .agg (l.take sz) else l.headD .top
def rowOf (h : List Ob) (k i : Nat) : List X := (((h[k]?).map (·.rows)).bind (·[i]?)).getD []
def verOk (h : List Ob) (k ver : Nat) : Prop := (h[k]?).map (·.ver) = some ver
def need (P : Program) (T : Nat) : Nat := if isAg P T then szOf P T else 1

theorem run_loadAt {P : Program} {T : Nat} {w : World} {ad : Addr} (hT : okT P T = true) (cs : Nat → Value) (hc : ∀ j, j < need P T → w.cell? (ad.add j) = some (cs j)) :
    (Instr.loadAt T (.pointer (some ad))).run P w = .ok (if isAg P T then .agg ((List.range (szOf P T)).map cs).toArray else cs 0) w := by
  unfold need at hc
  simp only [Instr.loadAt, Instr.sureAddr, loadVar, Sem.run_bind, Sem.run_pure, Result.andThen_ok, run_isAgg hT]
  by_cases hA : isAg P T = true
  · simp only [hA, if_true] at hc ⊢
    simp only [Sem.run_bind, run_sizeOf hT, Result.andThen_ok, run_loadCells w ad _ cs hc, Sem.run_pure]
  · simp only [hA] at hc ⊢
    have h0 := hc 0 (by simp)
    have e : ad.add 0 = ad := by simp [Addr.add]
    rw [e] at h0
    simp [h0]

def eLoad (P : Program) (s : St) (T : Nat) : X → Eff
  | .pt cells => ⟨okT P T = true ∧ need P T ≤ cells.length, ldX (isAg P T) (szOf P T) cells, s.h⟩
  | .optr k ver i j => ⟨okT P T = true ∧ verOk s.h k ver ∧ 0 < need P T ∧ j + need P T ≤ (rowOf s.h k i).length, ldX (isAg P T) (szOf P T) ((rowOf s.h k i).drop j), s.h⟩
  | _ => ⟨False, .top, s.h⟩

/-- what lies in an object's cell -/
theorem HRel.cell {c : Cx} {h : List Ob} {β : Pl} {w : World} (H : HRel c h β w) {k ver i j g : Nat} {v : Value} {x : X} (hv : verOk h k ver) (hu : β.val k ver = some v) (hg : blk v = some g) (hx : (rowOf h k i)[j]? = some x) :
    ∃ cc, w.cell? ⟨g, i * β.sz k + j, none⟩ = some cc ∧ cc.oneCell' = true ∧ Rep w (Stab c.w0 c.S0 h β w) β cc x := by
  unfold verOk at hv
  cases hk : h[k]? with
  | none => rw [hk] at hv; cases hv
  | some ob =>
    rw [hk] at hv
    simp only [Option.map_some, Option.some.injEq] at hv
    subst hv
    obtain ⟨h1, h2, u, hu', hs, hc⟩ := H.objs k ob hk
    rw [hu] at hu'; injection hu' with e; subst e
    have hat : at2 ob.rows i j = some x := by
      unfold rowOf at hx
      rw [hk] at hx
      simp only [Option.map_some, Option.bind_some] at hx
      unfold at2
      cases hr : ob.rows[i]? with
      | none => rw [hr] at hx; simp at hx
      | some r => rw [hr] at hx; simpa using hx
    obtain ⟨g', cc, hg', hcell, h1c, hr⟩ := hc i j x hat
    rw [hg] at hg'; injection hg' with e; subst e
    exact ⟨cc, by rw [h1]; exact hcell, h1c, hr⟩

theorem rep_ld {w : World} {S : Nat → Prop} {β : Pl} {ag : Bool} {sz : Nat} {l : List X} {cs : Nat → Value} (hl : (if ag then sz else 1) ≤ l.length) (h1 : ∀ j, j < l.length → (cs j).oneCell' = true)
    (hr : ∀ (j : Nat) x, l[j]? = some x → Rep w S β (cs j) x) : Rep w S β (if ag then .agg ((List.range sz).map cs).toArray else cs 0) (ldX ag sz l) := by
  unfold ldX
  by_cases h : ag = true
  · simp only [h, if_true] at hl ⊢
    refine .agg _ _ (by simp; omega) (fun c hc => ?_) fun j x c hx hc => ?_
    · simp at hc
      obtain ⟨j, hj, rfl⟩ := hc
      exact h1 j (by omega)
    · rw [List.getElem?_take] at hx
      split at hx
      · rename_i hj
        simp [hj] at hc
        subst hc
        exact hr j x hx
      · cases hx
  · simp only [h] at hl ⊢
    cases l with
    | nil => simp at hl
    | cons x l => exact hr 0 x rfl

theorem load_does {P : Program} {c : Cx} {s : St} {β : Pl} {w : World} {T : Nat} {u : Value} {x : X} (H : HRel c s.h β w) (hr : Rep w (Stab c.w0 c.S0 s.h β w) β u x) (hc : (eLoad P s T x).cond) :
    Does P c s β w (Instr.loadAt T u) (eLoad P s T x) := by
  unfold eLoad at hc ⊢
  split at hc
  · rename_i cells
    obtain ⟨ad, cs, rfl, hs, hcell, h1, hrep⟩ := hr.inv_pt
    obtain ⟨hT, hn⟩ := hc
    exact Does.pure H (run_loadAt hT cs fun j hj => hcell j (by omega)) (rep_ld (by simpa [need] using hn) (fun j _ => h1 j) fun j x hx => (hrep j x hx).mono (fun _ h => h) (fun _ _ => rfl) (Pl.none_le _))
  · rename_i k ver i j
    obtain ⟨g, v, hv, hg, rfl⟩ := hr.inv_optr
    obtain ⟨hT, hver, hpos, hn⟩ := hc
    have key : ∀ m, ∃ cc, (m < (rowOf s.h k i).length - j → w.cell? ⟨g, i * β.sz k + (j + m), none⟩ = some cc) ∧ (m < (rowOf s.h k i).length - j → cc.oneCell' = true) ∧ ∀ x, ((rowOf s.h k i).drop j)[m]? = some x → Rep w (Stab c.w0 c.S0 s.h β w) β cc x := by
      intro m
      by_cases hm : m < (rowOf s.h k i).length - j
      · have hx : (rowOf s.h k i)[j + m]? = some ((rowOf s.h k i)[j + m]'(by omega)) := List.getElem?_eq_getElem (by omega)
        obtain ⟨cc, h1, h2, h3⟩ := H.cell hver hv hg hx
        refine ⟨cc, fun _ => h1, fun _ => h2, fun x hx' => ?_⟩
        rw [List.getElem?_drop, hx] at hx'
        injection hx' with e
        subst e
        exact h3
      · refine ⟨.nilFunc, fun h => absurd h hm, fun h => absurd h hm, fun x hx => ?_⟩
        rw [List.getElem?_eq_none (by simp; omega)] at hx
        cases hx
    obtain ⟨cs, hcs⟩ := Classical.axiomOfChoice key
    refine Does.pure H (run_loadAt hT cs fun m hm => ?_) (rep_ld (by simp only [List.length_drop]; unfold need at hn; omega) (fun m hm => (hcs m).2.1 (by simpa using hm)) fun m x hx => (hcs m).2.2 x hx)
    rw [add_none, Nat.add_assoc]
    exact (hcs m).1 (by omega)
  · exact hc.elim

end Go.Abs

namespace Go.Abs
open Go.RowKit

/-! ### fieldAddr, field -/
def eFieldAddr (P : Program) (s : St) (T f : Nat) : X → Eff
  | .pt cells => match flOf P T f with
    | some (o, ft) => ⟨okT P ft = true ∧ 0 < szOf P ft ∧ o ≤ cells.length, .pt (cells.drop o), s.h⟩
    | none => ⟨False, .top, s.h⟩
  | .optr k ver i j => match flOf P T f with
    | some (o, ft) => ⟨okT P ft = true ∧ 0 < szOf P ft, .optr k ver i (j + o), s.h⟩
    | none => ⟨False, .top, s.h⟩
  | _ => ⟨False, .top, s.h⟩

theorem flOf_eq {P : Program} {T f o ft : Nat} (h : flOf P T f = some (o, ft)) : ∃ fs fl, P.underlying T = some (.struct fs) ∧ fs[f]? = some fl ∧ fl.offset = o ∧ fl.type = ft := by
  unfold flOf at h; split at h
  · rename_i fs hu
    cases hf : fs[f]? with
    | none => rw [hf] at h; cases h
    | some fl =>
      rw [hf] at h
      simp only [Option.map_some, Option.some.injEq, Prod.mk.injEq] at h
      exact ⟨fs, fl, hu, hf, h.1, h.2⟩
  · cases h

theorem run_fieldAt {P : Program} {T f o ft : Nat} {w : World} (h : flOf P T f = some (o, ft)) (hT : okT P ft = true) (hs : 0 < szOf P ft) (ad : Addr) :
    (Instr.fieldAt T (.pointer (some ad)) f).run P w = .ok (.pointer (some (ad.add o))) w := by
  obtain ⟨fs, fl, hu, hf, rfl, rfl⟩ := flOf_eq h
  have hne : ¬ szOf P fl.type = 0 := by omega
  simp [Instr.fieldAt, run_underlying hu, hf, Instr.sureAddr, fieldPlace, run_sizeOf hT, hne]

theorem fieldAddr_does {P : Program} {c : Cx} {s : St} {β : Pl} {w : World} {T f : Nat} {u : Value} {x : X} (H : HRel c s.h β w) (hr : Rep w (Stab c.w0 c.S0 s.h β w) β u x) (hc : (eFieldAddr P s T f x).cond) :
    Does P c s β w (Instr.fieldAt T u f) (eFieldAddr P s T f x) := by
  unfold eFieldAddr at hc ⊢
  split at hc
  · rename_i cells
    obtain ⟨ad, cs, rfl, hs, hcell, h1, hrep⟩ := hr.inv_pt
    split at hc
    · rename_i o ft hfl
      obtain ⟨hT, hz, hn⟩ := hc
      refine Does.pure H (run_fieldAt hfl hT hz ad) (.pt _ _ (fun j => cs (o + j)) (by rw [add_block]; exact hs) (fun j hj => ?_) (fun j => h1 _) fun j x hx => hrep (o + j) x (by rwa [List.getElem?_drop] at hx))
      rw [add_add']; exact hcell _ (by simp at hj; omega)
    · exact hc.elim
  · rename_i k ver i j
    obtain ⟨g, v, hv, hg, rfl⟩ := hr.inv_optr
    split at hc
    · rename_i o ft hfl
      obtain ⟨hT, hz⟩ := hc
      refine Does.pure H (run_fieldAt hfl hT hz _) ?_
      rw [add_none, Nat.add_assoc]
      exact .optr k ver i (j + o) g v hv hg
    · exact hc.elim
  · exact hc.elim

def eField (P : Program) (s : St) (T f : Nat) : X → Eff
  | .agg cells => match flOf P T f with
    | some (o, ft) => ⟨okT P ft = true ∧ o + need P ft ≤ cells.length, ldX (isAg P ft) (szOf P ft) (cells.drop o), s.h⟩
    | none => ⟨False, .top, s.h⟩
  | _ => ⟨False, .top, s.h⟩

theorem run_part {P : Program} {T o : Nat} {w : World} {cs : Array Value} (hT : okT P T = true) (hn : o + need P T ≤ cs.size) :
    (part T cs o).run P w = .ok (if isAg P T then .agg ((List.range (szOf P T)).map fun j => cs.getD (o + j) undef).toArray else cs.getD o undef) w := by
  unfold need at hn
  simp only [part, Sem.run_bind, run_isAgg hT, Result.andThen_ok]
  by_cases hA : isAg P T = true
  · simp only [hA, if_true] at hn ⊢
    simp only [Sem.run_bind, run_sizeOf hT, Result.andThen_ok, Sem.run_pure]
    congr 2
    apply Array.ext
    · simp; omega
    · intro j h1 h2
      simp at h1 h2
      simp [Array.getElem_extract]
      rw [Array.getElem?_eq_getElem (by omega)]; rfl
  · simp only [hA] at hn ⊢
    have hlt : o < cs.size := by simp at hn; omega
    simp [hlt]

theorem field_does {P : Program} {c : Cx} {s : St} {β : Pl} {w : World} {T f : Nat} {u : Value} {x : X} (H : HRel c s.h β w) (hr : Rep w (Stab c.w0 c.S0 s.h β w) β u x) (hc : (eField P s T f x).cond) :
    Does P c s β w (Instr.field T u f) (eField P s T f x) := by
  unfold eField at hc ⊢
  split at hc
  · rename_i cells
    obtain ⟨cs, rfl, hl, h1, hrep⟩ := hr.inv_agg
    split at hc
    · rename_i o ft hfl
      obtain ⟨hT, hn⟩ := hc
      obtain ⟨fs, fl, hu, hf, rfl, rfl⟩ := flOf_eq hfl
      refine Does.pure H (v := if isAg P fl.type then .agg ((List.range (szOf P fl.type)).map fun j => cs.getD (fl.offset + j) undef).toArray else cs.getD (fl.offset + 0) undef) ?_ (rep_ld (cs := fun j => cs.getD (fl.offset + j) undef) ?_ ?_ ?_)
      · simp [Instr.field, run_underlying hu, hf, asAgg, run_part hT (by omega : fl.offset + need P fl.type ≤ cs.size)]
      · simp only [List.length_drop]; unfold need at hn; omega
      · intro j hj
        simp at hj
        have : cs[fl.offset + j]? = some (cs[fl.offset + j]'(by omega)) := Array.getElem?_eq_getElem (by omega)
        simp only [Array.getD_eq_getD_getElem?, this, Option.getD_some]
        exact h1 _ (Array.getElem_mem _)
      · intro j x hx
        rw [List.getElem?_drop] at hx
        have hj : fl.offset + j < cells.length := by
          rcases Nat.lt_or_ge (fl.offset + j) cells.length with h | h
          · exact h
          · rw [List.getElem?_eq_none h] at hx; cases hx
        have : cs[fl.offset + j]? = some (cs[fl.offset + j]'(by omega)) := Array.getElem?_eq_getElem (by omega)
        simp only [Array.getD_eq_getD_getElem?, this, Option.getD_some]
        exact hrep _ x _ hx this
    · exact hc.elim
  · exact hc.elim

/-! ### indexAddr -/
def eIndexAddr (P : Program) (s : St) (T : Nat) (x i : X) : Eff :=
  match i with
  | .v (.int _ n) => match slEl P T with
    | some e => match x with
      | .sl rows => ⟨okT P e = true ∧ 0 ≤ n ∧ n.toNat < rows.length ∧ (rows[n.toNat]?.getD []).length = szOf P e, .pt (rows[n.toNat]?.getD []), s.h⟩
      | .osl k ver => ⟨okT P e = true ∧ 0 ≤ n ∧ verOk s.h k ver ∧ n.toNat < ((s.h[k]?.map (·.rows)).getD []).length ∧ ((s.h[k]?.map (·.sz)).getD 0) = szOf P e ∧ ((s.h[k]?.map (·.bx)).getD true) = false, .optr k ver n.toNat 0, s.h⟩
      | .osub k ver off len => ⟨okT P e = true ∧ 0 ≤ n ∧ n.toNat < len ∧ verOk s.h k ver ∧ ((s.h[k]?.map (·.sz)).getD 0) = szOf P e, .optr k ver (off + n.toNat) 0, s.h⟩
      | _ => ⟨False, .top, s.h⟩
    | none => match arEl P T with
      | some (l, e) => match x with
        | .pt cells => ⟨okT P e = true ∧ 0 ≤ n ∧ n.toNat < l ∧ l * szOf P e ≤ cells.length, .pt (cells.drop (n.toNat * szOf P e)), s.h⟩
        | .optr k ver r j => ⟨okT P e = true ∧ 0 ≤ n ∧ n.toNat < l, .optr k ver r (j + n.toNat * szOf P e), s.h⟩
        | _ => ⟨False, .top, s.h⟩
      | none => ⟨False, .top, s.h⟩
  | _ => ⟨False, .top, s.h⟩

theorem run_indexAt_sl {P : Program} {T e : Nat} {w : World} (hT : slEl P T = some e) (he : okT P e = true) (ad : Addr) (len cap : Nat) (k : IntKind) (n : Int) (h0 : 0 ≤ n) (h1 : n.toNat < len) :
    (Instr.indexAt T (.slice (some ad) len cap) (.int k n)).run P w = .ok (.pointer (some (ad.add (n.toNat * szOf P e)))) w := by
  have hb : 0 ≤ n ∧ n < (len : Int) := ⟨h0, by omega⟩
  simp [Instr.indexAt, run_underlying (slEl_eq hT), asIntOf, hb, run_sizeOf he]

theorem run_indexAt_ar {P : Program} {T e l : Nat} {w : World} (hT : arEl P T = some (l, e)) (he : okT P e = true) (ad : Addr) (k : IntKind) (n : Int) (h0 : 0 ≤ n) (h1 : n.toNat < l) :
    (Instr.indexAt T (.pointer (some ad)) (.int k n)).run P w = .ok (.pointer (some (ad.add (n.toNat * szOf P e)))) w := by
  have hb : 0 ≤ n ∧ n < (l : Int) := ⟨h0, by omega⟩
  simp [Instr.indexAt, run_underlying (arEl_eq hT), asIntOf, Instr.sureAddr, hb, run_sizeOf he]

/-- an object that is no box: its value is a slice -/
theorem HRel.arr {c : Cx} {h : List Ob} {β : Pl} {w : World} (H : HRel c h β w) {k ver : Nat} {ob : Ob} {u : Value} (hk : h[k]? = some ob) (hv : verOk h k ver) (hu : β.val k ver = some u) (hb : ob.bx = false) :
    (u = .slice none 0 0 ∧ ob.rows = []) ∨ ∃ g cap, u = .slice (some ⟨g, 0, none⟩) ob.rows.length cap ∧ ob.rows.length ≤ cap := by
  unfold verOk at hv
  rw [hk] at hv
  simp only [Option.map_some, Option.some.injEq] at hv
  subst hv
  obtain ⟨_, _, u', hu', hs, _⟩ := H.objs k ob hk
  rw [hu] at hu'; injection hu' with e; subst e
  rcases hs with ⟨h1, h2, _⟩ | ⟨g, es, clock, l, _, _, _, h5, _⟩ | ⟨g, cap, cur, _, _, h3, _, h4⟩
  · exact .inl ⟨h1, h2⟩
  · rw [hb] at h5; cases h5
  · rw [hb] at h4
    exact .inr ⟨g, cap, by simpa using h4, h3⟩

theorem HRel.szk {c : Cx} {h : List Ob} {β : Pl} {w : World} (H : HRel c h β w) {k z : Nat} (hz : ((h[k]?.map (·.sz)).getD 0) = z) (hpos : 0 < z) : β.sz k = z := by
  cases hk : h[k]? with
  | none => rw [hk] at hz; simp at hz; omega
  | some ob => rw [hk] at hz; simp at hz; rw [← hz]; exact (H.objs k ob hk).1

theorem verOk_get {h : List Ob} {k ver : Nat} (hv : verOk h k ver) : ∃ ob, h[k]? = some ob ∧ ob.ver = ver := by
  unfold verOk at hv
  cases hk : h[k]? with
  | none => rw [hk] at hv; cases hv
  | some ob => rw [hk] at hv; exact ⟨ob, rfl, by simpa using hv⟩

theorem indexAddr_does {P : Program} {c : Cx} {s : St} {β : Pl} {w : World} {T : Nat} {u ui : Value} {x i : X} (H : HRel c s.h β w) (hr : Rep w (Stab c.w0 c.S0 s.h β w) β u x) (hi : Rep w (Stab c.w0 c.S0 s.h β w) β ui i)
    (hc : (eIndexAddr P s T x i).cond) : Does P c s β w (Instr.indexAt T u ui) (eIndexAddr P s T x i) := by
  unfold eIndexAddr at hc ⊢
  split at hc
  case h_2 => exact hc.elim
  rename_i k n
  obtain ⟨rfl, _⟩ := hi.inv_v
  split at hc
  · rename_i e he
    split at hc
    · rename_i rows
      obtain ⟨hT, h0, h1, hz⟩ := hc
      rcases hr.inv_sl with ⟨rfl, _⟩ | ⟨ad, cp, sz, cs, rfl, _, hs, hzz, hcell, h1c, hrep⟩
      · simp at h1
      · have hget : rows[n.toNat]? = some rows[n.toNat] := List.getElem?_eq_getElem h1
        simp only [hget, Option.getD_some] at hz ⊢
        have hsz : rows[n.toNat].length = sz := hzz _ (List.getElem_mem _)
        refine Does.pure H (run_indexAt_sl he hT ad _ _ k n h0 h1) (.pt _ _ (fun j => cs n.toNat j) (by rw [add_block]; exact hs) (fun j hj => ?_) (fun j => h1c _ _) fun j x hx => hrep n.toNat j x (by simp [at2, hget, hx]))
        rw [add_add', ← hz, hsz]; exact hcell _ _ h1 (by omega)
    · rename_i k' ver
      obtain ⟨hT, h0, hv, h1, hz, hb⟩ := hc
      obtain ⟨hu, _⟩ := hr.inv_osl
      obtain ⟨ob, hk, rfl⟩ := verOk_get hv
      simp only [hk, Option.map_some, Option.getD_some] at h1 hz hb
      rcases H.arr hk hv hu hb with ⟨rfl, h2⟩ | ⟨g, cap, rfl, _⟩
      · rw [h2] at h1; simp at h1
      · refine Does.pure H (run_indexAt_sl he hT _ _ _ k n h0 h1) ?_
        have hsz : β.sz k' = szOf P e := by rw [← hz]; exact (H.objs k' ob hk).1
        rw [add_none, Nat.zero_add, ← hsz]
        have := Rep.optr (w := w) (S := Stab c.w0 c.S0 s.h β w) (β := β) k' ob.ver n.toNat 0 g _ hu rfl
        simpa using this
    · rename_i k' ver off len
      obtain ⟨hT, h0, h1, hv, hz⟩ := hc
      obtain ⟨ob, hk, rfl⟩ := verOk_get hv
      simp only [hk, Option.map_some, Option.getD_some] at hz
      have hsz : β.sz k' = szOf P e := by rw [← hz]; exact (H.objs k' ob hk).1
      cases hr with
      | osub0 => omega
      | osub _ _ _ _ g cc nn cap hcp hoc hu =>
        refine Does.pure H (run_indexAt_sl he hT _ _ _ k n h0 h1) ?_
        rw [add_none, ← hsz, ← Nat.add_mul]
        have := Rep.optr (w := w) (S := Stab c.w0 c.S0 s.h β w) (β := β) k' ob.ver (off + n.toNat) 0 g _ hu rfl
        simpa using this
    · exact hc.elim
  · rename_i hse
    split at hc
    · rename_i l e he
      split at hc
      · rename_i cells
        obtain ⟨hT, h0, h1, hz⟩ := hc
        obtain ⟨ad, cs, rfl, hs, hcell, h1c, hrep⟩ := hr.inv_pt
        refine Does.pure H (run_indexAt_ar he hT ad k n h0 h1) (.pt _ _ (fun j => cs (n.toNat * szOf P e + j)) (by rw [add_block]; exact hs) (fun j hj => ?_) (fun j => h1c _) fun j x hx => hrep _ x (by rwa [List.getElem?_drop] at hx))
        rw [add_add']; exact hcell _ (by simp at hj; omega)
      · rename_i k' ver r j
        obtain ⟨hT, h0, h1⟩ := hc
        obtain ⟨g, v, hv, hg, rfl⟩ := hr.inv_optr
        refine Does.pure H (run_indexAt_ar he hT _ k n h0 h1) ?_
        rw [add_none, Nat.add_assoc]
        exact .optr k' ver r _ g v hv hg
      · exact hc.elim
    · exact hc.elim

/-! ### len -/
def lenX (s : St) : X → Option Nat
  | .v (.string b) => some b.size
  | .v (.slice none 0 0) => some 0
  | .sl rows => some rows.length
  | .osl k _ => some ((s.h[k]?.map (·.rows)).getD []).length
  | .osub _ _ _ len => some len
  | _ => none
def eLen (P : Program) (s : St) (T : Nat) (x : X) : Eff :=
  match x with
  | .v (.string b) => ⟨isStr P T = true, .v (.int .i64 b.size), s.h⟩
  | .v (.slice none 0 0) => ⟨(slEl P T).isSome = true, .v (.int .i64 0), s.h⟩
  | .sl rows => ⟨(slEl P T).isSome = true, .v (.int .i64 rows.length), s.h⟩
  | .osl k ver => ⟨(slEl P T).isSome = true ∧ verOk s.h k ver ∧ ((s.h[k]?.map (·.bx)).getD true) = false, .v (.int .i64 ((s.h[k]?.map (·.rows)).getD []).length), s.h⟩
  | .osub _ _ _ len => ⟨(slEl P T).isSome = true, .v (.int .i64 len), s.h⟩
  | _ => ⟨False, .top, s.h⟩

theorem run_len_sl {P : Program} {T ty : Nat} {w : World} (h : (slEl P T).isSome = true) (a : Option Addr) (n cp : Nat) : (Builtin.len_ #[T] ty #[.slice a n cp]).run P w = .ok (.int .i64 n) w := by
  obtain ⟨e, he⟩ := Option.isSome_iff_exists.1 h
  simp [Builtin.len_, run_underlying (slEl_eq he), goInt]
theorem isStr_eq {P : Program} {T : Nat} (h : isStr P T = true) : P.underlying T = some .string := by
  unfold isStr at h; split at h
  · assumption
  · cases h

theorem len_does {P : Program} {c : Cx} {s : St} {β : Pl} {w : World} {T ty : Nat} {u : Value} {x : X} (H : HRel c s.h β w) (hr : Rep w (Stab c.w0 c.S0 s.h β w) β u x) (hc : (eLen P s T x).cond) :
    Does P c s β w (Builtin.len_ #[T] ty #[u]) (eLen P s T x) := by
  unfold eLen at hc ⊢
  split at hc
  · obtain ⟨rfl, _⟩ := hr.inv_v
    exact Does.pure H (by simp [Builtin.len_, run_underlying (isStr_eq hc), goInt]) (.v _ rfl)
  · obtain ⟨rfl, _⟩ := hr.inv_v
    exact Does.pure H (run_len_sl hc _ _ _) (.v _ rfl)
  · rcases hr.inv_sl with ⟨rfl, a, cp, rfl⟩ | ⟨ad, cp, sz, cs, rfl, _⟩
    · exact Does.pure H (run_len_sl hc _ _ _) (.v _ rfl)
    · exact Does.pure H (run_len_sl hc _ _ _) (.v _ rfl)
  · rename_i k ver
    obtain ⟨h1, hv, hb⟩ := hc
    obtain ⟨hu, _⟩ := hr.inv_osl
    obtain ⟨ob, hk, rfl⟩ := verOk_get hv
    simp only [hk, Option.map_some, Option.getD_some] at hb ⊢
    rcases H.arr hk hv hu hb with ⟨rfl, h2⟩ | ⟨g, cap, rfl, _⟩
    · rw [h2]; exact Does.pure H (run_len_sl h1 _ _ _) (.v _ rfl)
    · exact Does.pure H (run_len_sl h1 _ _ _) (.v _ rfl)
  · cases hr with
    | osub0 => exact Does.pure H (run_len_sl hc _ _ _) (.v _ rfl)
    | osub => exact Does.pure H (run_len_sl hc _ _ _) (.v _ rfl)
  · exact hc.elim

end Go.Abs

namespace Go.Abs
open Go.RowKit

def cellsX : X → Option (List X)
  | .agg cs => some cs
  | .top | .tup _ | .gd _ _ | .pin _ _ _ => none
  | x => some [x]

theorem rep_cells {w : World} {S : Nat → Prop} {β : Pl} {u : Value} {x : X} {xs : List X} (hr : Rep w S β u x) (hx : cellsX x = some xs) :
    u.cells.size = xs.length ∧ (∀ c ∈ u.cells, c.oneCell' = true) ∧ ∀ (j : Nat) x c, xs[j]? = some x → u.cells[j]? = some c → Rep w S β c x := by
  have one : u.oneCell' = true → xs = [x] → u.cells.size = xs.length ∧ (∀ c ∈ u.cells, c.oneCell' = true) ∧ ∀ (j : Nat) x c, xs[j]? = some x → u.cells[j]? = some c → Rep w S β c x := by
    intro h1 e
    subst e
    have hcs : u.cells = #[u] := by cases u <;> first | rfl | simp [Value.oneCell'] at h1
    rw [hcs]
    refine ⟨rfl, fun c hc => by simp at hc; subst hc; exact h1, fun j y c hy hc => ?_⟩
    cases j with
    | zero => simp at hy hc; subst hy hc; exact hr
    | succ j => simp at hy
  cases hr with
  | top => simp [cellsX] at hx
  | tup => simp [cellsX] at hx
  | gd => simp [cellsX] at hx
  | pin => simp [cellsX] at hx
  | agg cs ys hl h1 hrr =>
    simp only [cellsX, Option.some.injEq] at hx
    subst hx
    exact ⟨hl, h1, hrr⟩
  | v _ h => exact one (plain_one h) (by simp [cellsX] at hx; exact hx.symm)
  | nil => exact one rfl (by simp [cellsX] at hx; exact hx.symm)
  | sl => exact one rfl (by simp [cellsX] at hx; exact hx.symm)
  | pt => exact one rfl (by simp [cellsX] at hx; exact hx.symm)
  | fn => exact one rfl (by simp [cellsX] at hx; exact hx.symm)
  | osl _ _ _ _ h1 => exact one h1 (by simp [cellsX] at hx; exact hx.symm)
  | osub => exact one rfl (by simp [cellsX] at hx; exact hx.symm)
  | osub0 => exact one rfl (by simp [cellsX] at hx; exact hx.symm)
  | e0 => exact one rfl (by simp [cellsX] at hx; exact hx.symm)
  | optr => exact one rfl (by simp [cellsX] at hx; exact hx.symm)

/-! ### a new variable -/
def eBox (s : St) (T : Nat) (x : X) : Eff :=
  match cellsX x with
  | some xs => ⟨True, .optr s.h.length 0 0 0, s.h ++ [⟨T, xs.length, 0, [xs], true, true, none⟩]⟩
  | none => ⟨False, .top, s.h⟩

theorem newBlock_push {c : Cx} {h : List Ob} {β : Pl} {w : World} (H : HRel c h β w) (T : Nat) (xs : List X) (cs : Array Value) (hl : cs.size = xs.length) (h1 : ∀ c ∈ cs, c.oneCell' = true)
    (hr : ∀ (j : Nat) x cc, xs[j]? = some x → cs[j]? = some cc → Rep w (Stab c.w0 c.S0 h β w) β cc x) :
    HRel c (h ++ [⟨T, xs.length, 0, [xs], true, true, none⟩]) (β.set h.length 0 (.pointer (some ⟨w.heap.size, 0, none⟩)) xs.length) (w.alloc (.cells cs T)) ∧
      ∀ v x, Rep w (Stab c.w0 c.S0 h β w) β v x → Rep (w.alloc (.cells cs T)) (Stab c.w0 c.S0 (h ++ [⟨T, xs.length, 0, [xs], true, true, none⟩]) (β.set h.length 0 (.pointer (some ⟨w.heap.size, 0, none⟩)) xs.length) (w.alloc (.cells cs T))) (β.set h.length 0 (.pointer (some ⟨w.heap.size, 0, none⟩)) xs.length) v x := by
  have hnew : (w.alloc (.cells cs T)).heap[w.heap.size]? = some (.cells cs T (0, 0)) := heap_alloc_new w _
  refine H.push ((Below.refl _ _).alloc (Nat.le_refl _) _) ⟨T, xs.length, 0, [xs], true, true, none⟩ _ rfl (by simp) (.inr (.inr ⟨w.heap.size, 1, cs, hnew, by simp [hl], by simp, by simp [maxLen], by simp⟩)) (fun b hb => by simp [blk] at hb; omega) ?_
  intro S' β' tr i j x hx
  cases i with
  | succ i => simp [at2] at hx
  | zero =>
    simp only [at2, List.getElem?_cons_zero, Option.bind_some] at hx
    have hj : j < cs.size := by
      rcases Nat.lt_or_ge j xs.length with h | h
      · omega
      · rw [List.getElem?_eq_none h] at hx; cases hx
    have hcj : cs[j]? = some cs[j] := Array.getElem?_eq_getElem hj
    exact ⟨w.heap.size, cs[j], rfl, by simp only [Nat.zero_mul, Nat.zero_add]; rw [cell_of_row _ _ _ _ _ _ hnew]; exact hcj, h1 _ (Array.getElem_mem _), tr _ _ (hr j x _ hx hcj)⟩

theorem box_does {P : Program} {c : Cx} {s : St} {β : Pl} {w : World} {T : Nat} {u : Value} {x : X} (H : HRel c s.h β w) (hr : Rep w (Stab c.w0 c.S0 s.h β w) β u x) (hc : (eBox s T x).cond) :
    Does P c s β w (Instr.box T u) (eBox s T x) := by
  unfold eBox at hc ⊢
  split at hc
  · rename_i xs hx
    obtain ⟨h1, h2, h3⟩ := rep_cells hr hx
    obtain ⟨g1, g2⟩ := newBlock_push H T xs u.cells h1 h2 h3
    refine ⟨.pointer (some ⟨w.heap.size, 0, none⟩), _, _, ?_, g1, g2, ?_⟩
    · simp [Instr.box, newVar, newRow]
    · have := Rep.optr (w := w.alloc (.cells u.cells T)) (S := Stab c.w0 c.S0 (s.h ++ [⟨T, xs.length, 0, [xs], true, true, none⟩]) (β.set s.h.length 0 (.pointer (some ⟨w.heap.size, 0, none⟩)) xs.length) (w.alloc (.cells u.cells T)))
        (β := β.set s.h.length 0 (.pointer (some ⟨w.heap.size, 0, none⟩)) xs.length) s.h.length 0 0 0 w.heap.size _ (Pl.set_same _ _ _ _ _) rfl
      simpa using this
  · exact hc.elim

def eAlloc (P : Program) (s : St) (T : Nat) : Eff :=
  ⟨hasZ P T = true ∧ (zeroC P T).all plain = true, .optr s.h.length 0 0 0, s.h ++ [⟨T, (zeroC P T).length, 0, [(zeroC P T).map .v], true, true, none⟩]⟩

theorem hasZ_eq {P : Program} {T : Nat} (h : hasZ P T = true) : ∃ i z, P.info? T = some i ∧ i.zero = some z ∧ zeroC P T = z.cells.toList := by
  unfold hasZ at h
  cases hi : P.info? T with
  | none => rw [hi] at h; simp at h
  | some i =>
    rw [hi] at h
    cases hz : i.zero with
    | none => simp [hz] at h
    | some z => exact ⟨i, z, rfl, hz, by simp [zeroC, hi, hz]⟩

theorem run_zeroValue {P : Program} {T : Nat} {i : TypeInfo} {z : Value} (hi : P.info? T = some i) (hz : i.zero = some z) (w : World) : (zeroValue T).run P w = .ok z w := by
  simp [zeroValue, typeInfo, hi, hz]

theorem alloc_does {P : Program} {c : Cx} {s : St} {β : Pl} {w : World} {T : Nat} (H : HRel c s.h β w) (hc : (eAlloc P s T).cond) : Does P c s β w (Instr.alloc T true (.tuple #[])) (eAlloc P s T) := by
  obtain ⟨h1, h2⟩ := hc
  obtain ⟨i, z, hi, hz, hzc⟩ := hasZ_eq h1
  have hall : ∀ (j : Nat) c, z.cells[j]? = some c → plain c = true := fun j c hcc => by
    rw [List.all_eq_true] at h2
    refine h2 c ?_
    rw [hzc, Array.mem_toList_iff]
    exact Array.mem_of_getElem? hcc
  obtain ⟨g1, g2⟩ := newBlock_push H T ((zeroC P T).map .v) z.cells (by simp [hzc]) (fun cc hcc => by
      obtain ⟨j, hj, e⟩ := Array.mem_iff_getElem.1 hcc
      exact plain_one (hall j cc (by rw [Array.getElem?_eq_some_iff]; exact ⟨hj, e⟩))) (fun j x cc hx hcc => by
      rw [List.getElem?_map, hzc, Array.getElem?_toList, hcc] at hx
      injection hx with hx
      subst hx
      exact .v _ (hall j cc hcc))
  have hlen : ((zeroC P T).map X.v).length = (zeroC P T).length := by simp
  rw [hlen] at g1 g2
  refine ⟨.pointer (some ⟨w.heap.size, 0, none⟩), _, _, ?_, g1, g2, ?_⟩
  · simp [Instr.alloc, run_zeroValue hi hz, newVar, newRow]
  · have := Rep.optr (w := w.alloc (.cells z.cells T)) (S := Stab c.w0 c.S0 (s.h ++ [⟨T, (zeroC P T).length, 0, [(zeroC P T).map .v], true, true, none⟩]) (β.set s.h.length 0 (.pointer (some ⟨w.heap.size, 0, none⟩)) (zeroC P T).length) (w.alloc (.cells z.cells T)))
      (β := β.set s.h.length 0 (.pointer (some ⟨w.heap.size, 0, none⟩)) (zeroC P T).length) s.h.length 0 0 0 w.heap.size _ (Pl.set_same _ _ _ _ _) rfl
    simpa [eAlloc] using this

/-! ### store -/
def splice (l : List X) (j : Nat) (xs : List X) : List X := l.take j ++ xs ++ l.drop (j + xs.length)
def putCells (h : List Ob) (k i j : Nat) (xs : List X) : List Ob :=
  match h[k]? with
  | some ob => h.set k { ob with rows := ob.rows.set i (splice (rowOf h k i) j xs) }
  | none => h
def liveOk (h : List Ob) (k : Nat) : Prop := ((h[k]?).map (·.live)).getD false = true

def eStore (P : Program) (s : St) (T : Nat) (a x : X) : Eff :=
  match a with
  | .optr k ver i j => match cellsX x with
    | some xs => ⟨okT P T = true ∧ xs.length = szOf P T ∧ 0 < xs.length ∧ verOk s.h k ver ∧ liveOk s.h k ∧ j + xs.length ≤ (rowOf s.h k i).length, .top, putCells s.h k i j xs⟩
    | none => ⟨False, .top, s.h⟩
  | _ => ⟨False, .top, s.h⟩

theorem splice_get (l : List X) (j : Nat) (xs : List X) (m : Nat) (h : j + xs.length ≤ l.length) : (splice l j xs)[m]? = if j ≤ m ∧ m < j + xs.length then xs[m - j]? else l[m]? := by
  unfold splice
  have h1 : (l.take j).length = j := by simp; omega
  by_cases hm : m < j
  · rw [if_neg (by omega), List.append_assoc, List.getElem?_append_left (by omega), List.getElem?_take, if_pos hm]
  · by_cases hm2 : m < j + xs.length
    · rw [if_pos ⟨by omega, hm2⟩, List.getElem?_append_left (by simp; omega), List.getElem?_append_right (by omega), h1]
    · rw [if_neg (by omega), List.getElem?_append_right (by simp; omega), List.getElem?_drop]
      congr 1
      simp
      omega
theorem splice_length (l : List X) (j : Nat) (xs : List X) (h : j + xs.length ≤ l.length) : (splice l j xs).length = l.length := by
  unfold splice; simp; omega

theorem rows_lt {rows : List (List X)} {sz i j : Nat} {x : X} (hz : ∀ r ∈ rows, r.length = sz) (hx : at2 rows i j = some x) : i < rows.length ∧ j < sz := by
  unfold at2 at hx
  cases hr : rows[i]? with
  | none => rw [hr] at hx; cases hx
  | some r =>
    rw [hr] at hx
    have h1 : i < rows.length := by
      rcases Nat.lt_or_ge i rows.length with h | h
      · exact h
      · rw [List.getElem?_eq_none h] at hr; cases hr
    refine ⟨h1, ?_⟩
    rw [← hz r (List.mem_of_getElem? hr)]
    rcases Nat.lt_or_ge j r.length with h | h
    · exact h
    · simp only [Option.bind_some] at hx; rw [List.getElem?_eq_none h] at hx; cases hx

theorem store_does {P : Program} {c : Cx} {s : St} {β : Pl} {w : World} {T : Nat} {ua u : Value} {a x : X} (H : HRel c s.h β w) (hra : Rep w (Stab c.w0 c.S0 s.h β w) β ua a) (hr : Rep w (Stab c.w0 c.S0 s.h β w) β u x)
    (hc : (eStore P s T a x).cond) : ∃ w' β', (Instr.storeAt T ua u).run P w = .ok () w' ∧ HRel c (eStore P s T a x).h β' w' ∧
      (∀ u x', Rep w (Stab c.w0 c.S0 s.h β w) β u x' → Rep w' (Stab c.w0 c.S0 (eStore P s T a x).h β' w') β' u x') := by
  unfold eStore at hc ⊢
  split at hc
  case h_2 => exact hc.elim
  rename_i k ver i j
  split at hc
  case h_2 => exact hc.elim
  rename_i xs hxs
  obtain ⟨hT, hlen, hpos, hv, hlive, hroom⟩ := hc
  obtain ⟨g, v, hv', hg, rfl⟩ := hra.inv_optr
  obtain ⟨ob, hk, rfl⟩ := verOk_get hv
  obtain ⟨c1, c2, c3⟩ := rep_cells hr hxs
  have hl : ob.live = true := by simpa [liveOk, hk] using hlive
  obtain ⟨hsz, hrows, v0, hv0, hsh, hcells⟩ := H.objs k ob hk
  have e0 : v = v0 := by rw [hv'] at hv0; injection hv0
  subst e0
  have hrow : rowOf s.h k i = (ob.rows[i]?).getD [] := by simp [rowOf, hk]
  have hi : i < ob.rows.length := by
    rcases Nat.lt_or_ge i ob.rows.length with h | h
    · exact h
    · rw [hrow, List.getElem?_eq_none h] at hroom; simp only [Option.getD_none, List.length_nil] at hroom; omega
  have hrow' : rowOf s.h k i = ob.rows[i] := by rw [hrow, List.getElem?_eq_getElem hi]; rfl
  have hrl : ob.rows[i].length = ob.sz := hrows _ (List.getElem_mem _)
  rw [hrow', hrl] at hroom
  have hput : putCells s.h k i j xs = s.h.set k { ob with rows := ob.rows.set i (splice ob.rows[i] j xs) } := by simp [putCells, hk, hrow']
  show ∃ w' β', _ ∧ HRel c (putCells s.h k i j xs) β' w' ∧ _
  rw [hput]
  -- the block
  rcases hsh with ⟨rfl, _⟩ | ⟨_, _, _, _, _, _, h0, _⟩ | ⟨g', cap, cur, hcur, hcs, hcap, hmax, hu⟩
  · simp [blk] at hg
  · rw [h0] at hi; simp at hi
  have hgg : g' = g := by
    split at hu
    · obtain ⟨_, _, rfl⟩ := hu; simpa [blk] using hg
    · subst hu; simpa [blk] using hg
  subst hgg
  have hb1 : (i + 1) * ob.sz ≤ cap * ob.sz := Nat.mul_le_mul_right _ (by omega)
  have hb2 : (i + 1) * ob.sz = i * ob.sz + ob.sz := by rw [Nat.add_mul]; simp
  have hul : u.cells.toList.length = xs.length := by simp [c1]
  have hst := run_storeCells_at (P := P) g' (i * ob.sz + j) ob.ty u.cells.toList 0 cur w hcur (by rw [hul]; omega) (fun y hy => c2 y (by simpa using hy))
  simp only [Nat.add_zero] at hst
  have hrun : (Instr.storeAt T (.pointer (some ⟨g', i * β.sz k + j, none⟩)) u).run P w = .ok () (w.setRow g' (cur.toList.take (i * ob.sz + j) ++ u.cells.toList ++ cur.toList.drop (i * ob.sz + j + u.cells.toList.length)).toArray) := by
    have hne : ¬ u.cells.size ≠ szOf P T := by rw [c1, hlen]; simp
    simp only [Instr.storeAt, Instr.sureAddr, storeVar, Sem.run_bind, Sem.run_pure, Result.andThen_ok, run_sizeOf hT, Sem.run_ite, if_neg hne, hsz]
    exact hst
  refine ⟨_, β.set k ob.ver v ob.sz, hrun, ?_⟩
  generalize hnew : (cur.toList.take (i * ob.sz + j) ++ u.cells.toList ++ cur.toList.drop (i * ob.sz + j + u.cells.toList.length)).toArray = cur'
  have hnl : cur'.size = cur.size := by rw [← hnew]; simp; omega
  have hget : ∀ m, cur'[m]? = if i * ob.sz + j ≤ m ∧ m < i * ob.sz + j + xs.length then u.cells[m - (i * ob.sz + j)]? else cur[m]? := by
    intro m
    rw [← hnew]
    simp only [List.getElem?_toArray]
    have t1 : (cur.toList.take (i * ob.sz + j)).length = i * ob.sz + j := by simp; omega
    by_cases hm : m < i * ob.sz + j
    · rw [if_neg (by omega), List.append_assoc, List.getElem?_append_left (by omega), List.getElem?_take, if_pos hm]; simp
    · by_cases hm2 : m < i * ob.sz + j + xs.length
      · rw [if_pos ⟨by omega, hm2⟩, List.getElem?_append_left (by simp only [List.length_append]; omega), List.getElem?_append_right (by omega), t1]; simp
      · rw [if_neg (by omega), List.getElem?_append_right (by simp only [List.length_append]; omega), List.getElem?_drop]
        simp only [Array.getElem?_toList, List.length_append, t1, hul]
        congr 1
        omega
  have hw' : (w.setRow g' cur').heap[g']? = some (.cells cur' ob.ty (0, 0)) := setRow_heap w g' cur _ ob.ty _ hcur
  have hput' := H.put hk hl hv' { ob with rows := ob.rows.set i (splice ob.rows[i] j xs) } v hl (.inl ⟨rfl, rfl⟩) rfl (w' := w.setRow g' cur') rfl rfl rfl (by simp [World.setRow])
    (fun b _ hne => setRow_other w g' b cur' (fun e => hne (by rw [hg, e]))) (fun b hb => .inl hb)
    (fun r hr => by
      rcases List.mem_or_eq_of_mem_set hr with h | h
      · exact hrows r h
      · rw [h, splice_length _ _ _ (by rw [hrl]; exact hroom)]; exact hrl)
    (.inr (.inr ⟨g', cap, cur', hw', by rw [hnl]; exact hcs, by simpa using hcap, hmax, by simpa using hu⟩)) ?_
  · exact hput'
  · intro S' β' tr i' j' x' hx'
    have hcell : ∀ m y, cur'[m]? = some y → (w.setRow g' cur').cell? ⟨g', m, none⟩ = some y := fun m y hy => by simp [World.cell?, hw', hy]
    by_cases hii : i' = i
    · subst hii
      simp only [at2, List.getElem?_set_self hi, Option.bind_some] at hx'
      rw [splice_get _ _ _ _ (by rw [hrl]; exact hroom)] at hx'
      split at hx'
      · rename_i hin
        have hlt : j' - j < u.cells.size := by rw [c1]; omega
        have hcj : u.cells[j' - j]? = some (u.cells[j' - j]'hlt) := Array.getElem?_eq_getElem hlt
        refine ⟨g', _, hg, hcell _ _ (by rw [hget, if_pos (show _ ∧ _ from ⟨by show i' * ob.sz + j ≤ i' * ob.sz + j'; omega, by show i' * ob.sz + j' < _; omega⟩), show i' * ob.sz + j' - (i' * ob.sz + j) = j' - j by omega]; exact hcj), c2 _ (Array.getElem_mem _), tr _ _ (c3 _ x' _ hx' hcj)⟩
      · rename_i hin
        have hat : at2 ob.rows i' j' = some x' := by simp only [at2, List.getElem?_eq_getElem hi, Option.bind_some]; exact hx'
        obtain ⟨g2, cc, hg2, hcc, h1c, hrc⟩ := hcells i' j' x' hat
        rw [hg] at hg2; injection hg2 with e; subst e
        refine ⟨g', cc, hg, hcell _ _ ?_, h1c, tr _ _ hrc⟩
        rw [hget, if_neg (show ¬ (i' * ob.sz + j ≤ i' * ob.sz + j' ∧ i' * ob.sz + j' < i' * ob.sz + j + xs.length) by omega)]
        rw [cell_of_row _ _ _ _ _ _ hcur] at hcc; exact hcc
    · have hat : at2 ob.rows i' j' = some x' := by
        simpa [at2, List.getElem?_set_ne (Ne.symm hii)] using hx'
      obtain ⟨_, hj'⟩ := rows_lt hrows hat
      obtain ⟨g2, cc, hg2, hcc, h1c, hrc⟩ := hcells i' j' x' hat
      rw [hg] at hg2; injection hg2 with e; subst e
      refine ⟨g', cc, hg, hcell _ _ ?_, h1c, tr _ _ hrc⟩
      rw [hget, if_neg ?_]
      · rw [cell_of_row _ _ _ _ _ _ hcur] at hcc; exact hcc
      · show ¬ (i * ob.sz + j ≤ i' * ob.sz + j' ∧ i' * ob.sz + j' < i * ob.sz + j + xs.length)
        rcases Nat.lt_or_gt_of_ne hii with hlt | hgt
        · have : (i' + 1) * ob.sz ≤ i * ob.sz := Nat.mul_le_mul_right _ hlt
          rw [Nat.add_mul] at this
          omega
        · have : (i + 1) * ob.sz ≤ i' * ob.sz := Nat.mul_le_mul_right _ hgt
          rw [Nat.add_mul] at this
          omega

end Go.Abs

namespace Go.Abs
open Go.RowKit

/-! ### literals of structs, arrays and slices -/
def fillX (place : Nat → Option (Nat × Nat)) (cells : List X) : List (Nat × X) → Option (List X)
  | [] => some cells
  | (i, x) :: rest => match place i with
    | none => none
    | some (off, size) => match cellsX x with
      | none => none
      | some xs => if xs.length = size ∧ off + size ≤ cells.length then fillX place (splice cells off xs) rest else none

def FlatRel (w : World) (S : Nat → Prop) (β : Pl) (cs : Array Value) (xs : List X) : Prop :=
  cs.size = xs.length ∧ ∀ (j : Nat) x c, xs[j]? = some x → cs[j]? = some c → c.oneCell' = true ∧ Rep w S β c x

theorem fill_rel {w : World} {S : Nat → Prop} {β : Pl} (place : Nat → Option (Nat × Nat)) : ∀ (ps : List (Nat × X)) (vs : List (Nat × Value)) (cs : Array Value) (xs xs' : List X), FlatRel w S β cs xs → fillX place xs ps = some xs' →
    ps.map (·.1) = vs.map (·.1) → (∀ (j : Nat) p q, ps[j]? = some p → vs[j]? = some q → Rep w S β q.2 p.2) → ∃ cs', Instr.fill place cs vs = some cs' ∧ FlatRel w S β cs' xs'
  | [], vs, cs, xs, xs', hf, hx, hm, _ => by
    cases vs with
    | cons => simp at hm
    | nil => simp only [fillX, Option.some.injEq] at hx; subst hx; exact ⟨cs, rfl, hf⟩
  | (i, x) :: ps, vs, cs, xs, xs', hf, hx, hm, hr => by
    cases vs with
    | nil => simp at hm
    | cons q vs =>
      obtain ⟨i', v⟩ := q
      simp only [List.map_cons, List.cons.injEq] at hm
      obtain ⟨rfl, hm⟩ := hm
      have hrv : Rep w S β v x := hr 0 (i, x) (i, v) rfl rfl
      simp only [fillX] at hx
      cases hp : place i with
      | none => rw [hp] at hx; cases hx
      | some os =>
        obtain ⟨off, size⟩ := os
        rw [hp] at hx
        dsimp only at hx
        cases hc : cellsX x with
        | none => rw [hc] at hx; cases hx
        | some ys =>
          rw [hc] at hx
          dsimp only at hx
          split at hx
          · rename_i hlen
            obtain ⟨c1, c2, c3⟩ := rep_cells hrv hc
            obtain ⟨f1, f2⟩ := Great.foldl_set off v.cells.toList 0 cs
            have hcs : cs.size = xs.length := hf.1
            have hno : ¬ (v.cells.size ≠ size || decide (off + v.cells.size > cs.size)) = true := by
              simp; omega
            have hfold : v.cells.zipIdx.foldl (fun cs (x : Value × Nat) => cs.setIfInBounds (off + x.2) x.1) cs = (v.cells.toList.zipIdx 0).foldl (fun cs (x : Value × Nat) => cs.setIfInBounds (off + x.2) x.1) cs := by
              rw [← Array.foldl_toList, Array.toList_zipIdx]
            have hrel : FlatRel w S β ((v.cells.toList.zipIdx 0).foldl (fun cs (x : Value × Nat) => cs.setIfInBounds (off + x.2) x.1) cs) (splice xs off ys) := by
              refine ⟨by rw [f1, splice_length _ _ _ (by omega)]; exact hcs, fun j y c hy hcc => ?_⟩
              rw [f2] at hcc
              rw [splice_get _ _ _ _ (by omega)] at hy
              simp only [Nat.add_zero, Array.length_toList] at hcc
              by_cases hin : off ≤ j ∧ j < off + ys.length
              · rw [if_pos hin] at hy
                rw [if_pos ⟨hin.1, by omega, by omega⟩, Array.getElem?_toList] at hcc
                exact ⟨c2 c (Array.mem_of_getElem? hcc), c3 _ y c hy hcc⟩
              · rw [if_neg hin] at hy
                rw [if_neg (by omega)] at hcc
                exact hf.2 j y c hy hcc
            obtain ⟨cs', h1, h2⟩ := fill_rel place ps vs _ _ xs' hrel hx hm (fun j p q hp hq => hr (j + 1) p q (by simpa using hp) (by simpa using hq))
            refine ⟨cs', ?_, h2⟩
            simp only [Instr.fill, hp]
            rw [if_neg hno, hfold]
            exact h1
          · cases hx

def placesX (P : Program) (T : Nat) (f : Nat) : Option (Nat × Nat) := (flOf P T f).map fun x => (x.1, szOf P x.2)
/-- every field's type is known -/
def flOk (P : Program) (T : Nat) : Bool := match P.underlying T with | some (.struct fs) => fs.toList.all fun f => okT P f.type | _ => false

def eBuild (P : Program) (s : St) (T : Nat) (ps : List (Nat × X)) : Eff :=
  if flOk P T then
    match fillX (placesX P T) ((zeroC P T).map .v) ps with
    | some xs => ⟨hasZ P T = true ∧ (zeroC P T).all plain = true, .agg xs, s.h⟩
    | none => ⟨False, .top, s.h⟩
  else match arEl P T with
    | some (_, e) => match fillX (fun i => some (i * szOf P e, szOf P e)) ((zeroC P T).map .v) ps with
      | some xs => ⟨okT P e = true ∧ hasZ P T = true ∧ (zeroC P T).all plain = true, .agg xs, s.h⟩
      | none => ⟨False, .top, s.h⟩
    | none => ⟨False, .top, s.h⟩

theorem zero_rel {P : Program} {T : Nat} {w : World} {S : Nat → Prop} {β : Pl} {z : Value} (hzc : zeroC P T = z.cells.toList) (h2 : (zeroC P T).all plain = true) : FlatRel w S β z.cells ((zeroC P T).map .v) := by
  refine ⟨by simp [hzc], fun j x cc hx hcc => ?_⟩
  rw [List.getElem?_map, hzc, Array.getElem?_toList, hcc] at hx
  injection hx with hx
  subst hx
  rw [List.all_eq_true] at h2
  have hp : plain cc = true := h2 cc (by rw [hzc, Array.mem_toList_iff]; exact Array.mem_of_getElem? hcc)
  exact ⟨plain_one hp, .v _ hp⟩

theorem flatrel_agg {w : World} {S : Nat → Prop} {β : Pl} {cs : Array Value} {xs : List X} (h : FlatRel w S β cs xs) : Rep w S β (.agg cs) (.agg xs) := by
  refine .agg cs xs h.1 (fun c hc => ?_) fun j x c hx hc => (h.2 j x c hx hc).2
  obtain ⟨j, hj, e⟩ := Array.mem_iff_getElem.1 hc
  have hlt : j < xs.length := by rw [← h.1]; exact hj
  exact (h.2 j _ c (List.getElem?_eq_getElem hlt) (by rw [Array.getElem?_eq_some_iff]; exact ⟨hj, e⟩)).1

theorem run_places' {P : Program} {w : World} : ∀ (fs : List Field), (fs.all fun f => okT P f.type) = true → (fs.mapM fun f => (do pure (f.offset, ← sizeOf f.type) : Sem (Nat × Nat))).run P w = .ok (fs.map fun f => (f.offset, szOf P f.type)) w
  | [], _ => rfl
  | f :: fs, h => by
    simp only [List.all_cons, Bool.and_eq_true] at h
    have ih := run_places' (w := w) fs h.2
    simp only [List.mapM_cons, Sem.run_bind, run_sizeOf h.1, Result.andThen_ok, Sem.run_pure, ih, List.map_cons]

theorem build_does {P : Program} {c : Cx} {s : St} {β : Pl} {w : World} {T : Nat} {ps : List (Nat × X)} {vs : Array (Nat × Value)} (H : HRel c s.h β w) (hm : ps.map (·.1) = vs.toList.map (·.1))
    (hr : ∀ (j : Nat) p q, ps[j]? = some p → vs.toList[j]? = some q → Rep w (Stab c.w0 c.S0 s.h β w) β q.2 p.2) (hc : (eBuild P s T ps).cond) : Does P c s β w (Instr.build T vs) (eBuild P s T ps) := by
  unfold eBuild at hc ⊢
  split at hc
  · rename_i hfl
    split at hc
    · rename_i xs hx
      obtain ⟨h1, h2⟩ := hc
      obtain ⟨i, z, hi, hz, hzc⟩ := hasZ_eq h1
      rw [if_pos hfl]
      unfold flOk at hfl
      split at hfl
      · rename_i fs hu
        have hpl : (fun i => ((fs.toList.map fun f => (f.offset, szOf P f.type)).toArray)[i]?) = placesX P T := by
          funext j
          simp [placesX, flOf, hu]
          cases fs[j]? <;> rfl
        obtain ⟨cs', e1, e2⟩ := fill_rel (placesX P T) ps vs.toList z.cells _ xs (zero_rel hzc h2) hx hm hr
        refine Does.pure H ?_ (flatrel_agg e2)
        simp only [Instr.build, Sem.run_bind, run_zeroValue hi hz, Result.andThen_ok, run_underlying hu, Array.mapM_eq_mapM_toList, Sem.run_map, run_places' fs.toList hfl]
        rw [hpl, e1]
        rfl
      · cases hfl
    · exact hc.elim
  · rename_i hnf
    rw [if_neg hnf]
    split at hc
    · rename_i l e he
      split at hc
      · rename_i xs hx
        obtain ⟨h0, h1, h2⟩ := hc
        obtain ⟨i, z, hi, hz, hzc⟩ := hasZ_eq h1
        obtain ⟨cs', e1, e2⟩ := fill_rel _ ps vs.toList z.cells _ xs (zero_rel hzc h2) hx hm hr
        refine Does.pure H ?_ (flatrel_agg e2)
        simp only [Instr.build, Sem.run_bind, run_zeroValue hi hz, Result.andThen_ok, run_underlying (arEl_eq he), run_sizeOf h0, e1]
        rfl
      · exact hc.elim
    · exact hc.elim

/-! ### a new row -/
theorem newRow_push {c : Cx} {h : List Ob} {β : Pl} {w w' : World} (H : HRel c h β w) (hb : Below w.heap.size w w') (T sz cap : Nat) (rows : List (List X)) (cs : Array Value) (g : Nat) (hg : w.heap.size ≤ g)
    (hw : w'.heap[g]? = some (.cells cs T (0, 0))) (hrows : ∀ r ∈ rows, r.length = sz) (hl : cs.size = cap * sz) (hcap : rows.length ≤ cap) (hmax : cap ≤ maxLen)
    (hr : ∀ S' β', (∀ v x, Rep w (Stab c.w0 c.S0 h β w) β v x → Rep w' S' β' v x) → ∀ i j x, at2 rows i j = some x → ∃ cc, cs[i * sz + j]? = some cc ∧ cc.oneCell' = true ∧ Rep w' S' β' cc x) :
    HRel c (h ++ [⟨T, sz, 0, rows, false, true, none⟩]) (β.set h.length 0 (.slice (some ⟨g, 0, none⟩) rows.length cap) sz) w' ∧
      ∀ v x, Rep w (Stab c.w0 c.S0 h β w) β v x → Rep w' (Stab c.w0 c.S0 (h ++ [⟨T, sz, 0, rows, false, true, none⟩]) (β.set h.length 0 (.slice (some ⟨g, 0, none⟩) rows.length cap) sz) w') (β.set h.length 0 (.slice (some ⟨g, 0, none⟩) rows.length cap) sz) v x := by
  refine H.push hb ⟨T, sz, 0, rows, false, true, none⟩ _ rfl hrows (.inr (.inr ⟨g, cap, cs, hw, hl, hcap, hmax, by simp⟩)) (fun b hb => by simp [blk] at hb; omega) ?_
  intro S' β' tr i j x hx
  obtain ⟨cc, h1, h2, h3⟩ := hr S' β' tr i j x hx
  exact ⟨g, cc, rfl, by rw [cell_of_row _ _ _ _ _ _ hw]; exact h1, h2, h3⟩

def chunk (sz n : Nat) (l : List X) : List (List X) := (List.range n).map fun i => (l.drop (i * sz)).take sz

def eBuildSlice (P : Program) (s : St) (T len : Nat) (ps : List (Nat × X)) : Eff :=
  match slEl P T with
  | none => ⟨False, .top, s.h⟩
  | some e => match fillX (fun i => some (i * szOf P e, szOf P e)) ((List.range (len * szOf P e)).map fun m => .v ((zeroC P e).getD (m % szOf P e) .nilFunc)) ps with
    | none => ⟨False, .top, s.h⟩
    | some xs => ⟨okT P e = true ∧ hasZ P e = true ∧ (zeroC P e).all plain = true ∧ (zeroC P e).length = szOf P e ∧ 0 < szOf P e ∧ len * szOf P e ≤ 16777216, .osl s.h.length 0, s.h ++ [⟨e, szOf P e, 0, chunk (szOf P e) len xs, false, true, none⟩]⟩

theorem chunk_rows (sz n : Nat) (l : List X) (h : l.length = n * sz) : (∀ r ∈ chunk sz n l, r.length = sz) ∧ (chunk sz n l).length = n ∧ ∀ i j x, at2 (chunk sz n l) i j = some x → l[i * sz + j]? = some x := by
  refine ⟨fun r hr => ?_, by simp [chunk], fun i j x hx => ?_⟩
  · simp only [chunk, List.mem_map, List.mem_range] at hr
    obtain ⟨i, hi, rfl⟩ := hr
    have : (i + 1) * sz ≤ n * sz := Nat.mul_le_mul_right _ hi
    rw [Nat.add_mul] at this
    simp
    omega
  · simp only [at2, chunk, List.getElem?_map] at hx
    rcases Nat.lt_or_ge i n with hi | hi
    · rw [List.getElem?_range hi] at hx
      simp only [Option.map_some, Option.bind_some, List.getElem?_take, List.getElem?_drop] at hx
      split at hx
      · exact hx
      · cases hx
    · rw [List.getElem?_eq_none (by simpa using hi)] at hx; cases hx

theorem one_le_maxLen : 16777216 ≤ maxLen := by simp [maxLen]

theorem buildSlice_does {P : Program} {c : Cx} {s : St} {β : Pl} {w : World} {T len : Nat} {ps : List (Nat × X)} {vs : Array (Nat × Value)} (H : HRel c s.h β w) (hm : ps.map (·.1) = vs.toList.map (·.1))
    (hr : ∀ (j : Nat) p q, ps[j]? = some p → vs.toList[j]? = some q → Rep w (Stab c.w0 c.S0 s.h β w) β q.2 p.2) (hc : (eBuildSlice P s T len ps).cond) : Does P c s β w (Instr.buildSlice T len vs) (eBuildSlice P s T len ps) := by
  unfold eBuildSlice at hc ⊢
  split at hc
  · exact hc.elim
  rename_i e he
  split at hc
  · exact hc.elim
  rename_i xs hx
  obtain ⟨hT, h1, h2, hzl, hpos, hlim⟩ := hc
  obtain ⟨i, z, hi, hz, hzc⟩ := hasZ_eq h1
  have hzs : z.cells.size = szOf P e := by rw [← hzl, hzc]; simp
  have hz0 : FlatRel w (Stab c.w0 c.S0 s.h β w) β ((Array.range (len * szOf P e)).map (z.cells[· % z.cells.size]!)) ((List.range (len * szOf P e)).map fun m => .v ((zeroC P e).getD (m % szOf P e) .nilFunc)) := by
    refine ⟨by simp, fun j x cc hxx hcc => ?_⟩
    have hj : j < len * szOf P e := by
      rcases Nat.lt_or_ge j (len * szOf P e) with h | h
      · exact h
      · rw [List.getElem?_eq_none (by simpa using h)] at hxx; cases hxx
    rw [List.getElem?_map, List.getElem?_range hj] at hxx
    simp only [Array.getElem?_map, Array.getElem?_range, hj, if_true, Option.map_some, Option.some.injEq] at hcc
    simp only [Option.map_some, Option.some.injEq] at hxx
    have hlt : j % szOf P e < z.cells.size := by rw [hzs]; exact Nat.mod_lt _ hpos
    have e1 : (zeroC P e).getD (j % szOf P e) .nilFunc = z.cells[j % szOf P e]'hlt := by
      rw [hzc]; simp [List.getD, hlt]
    have e2 : cc = z.cells[j % szOf P e]'hlt := by rw [← hcc, hzs]; simp [getElem!_pos, hlt]
    rw [e1] at hxx
    subst hxx
    rw [e2]
    rw [List.all_eq_true] at h2
    have hp : plain (z.cells[j % szOf P e]'hlt) = true := h2 _ (by rw [hzc, Array.mem_toList_iff]; exact Array.getElem_mem _)
    exact ⟨plain_one hp, .v _ hp⟩
  obtain ⟨cs', e1, e2⟩ := fill_rel _ ps vs.toList _ _ xs hz0 hx hm hr
  have hlen : ∀ (ps : List (Nat × X)) (xs xs' : List X), fillX (fun i => some (i * szOf P e, szOf P e)) xs ps = some xs' → xs'.length = xs.length := by
    intro ps
    induction ps with
    | nil => intro xs xs' h; simp only [fillX, Option.some.injEq] at h; rw [h]
    | cons p ps ih =>
      intro xs xs' h
      obtain ⟨i, x⟩ := p
      simp only [fillX] at h
      split at h
      · cases h
      · split at h
        · rw [ih _ _ h, splice_length]
          omega
        · cases h
  have hxl : xs.length = len * szOf P e := by rw [hlen _ _ _ hx]; simp
  obtain ⟨k1, k2, k3⟩ := chunk_rows (szOf P e) len xs hxl
  have hnew : (w.alloc (.cells cs' e)).heap[w.heap.size]? = some (.cells cs' e (0, 0)) := heap_alloc_new w _
  have hl1 : len ≤ len * szOf P e := Nat.le_mul_of_pos_right _ hpos
  obtain ⟨g1, g2⟩ := newRow_push H ((Below.refl _ _).alloc (Nat.le_refl _) _) e (szOf P e) len (chunk (szOf P e) len xs) cs' w.heap.size (Nat.le_refl _) hnew k1 (by rw [e2.1, hxl]) (by omega) (by have := one_le_maxLen; omega)
    (fun S' β' tr i j x hxx => by
      have h3 := k3 i j x hxx
      have hlt : i * szOf P e + j < cs'.size := by
        rw [e2.1]
        rcases Nat.lt_or_ge (i * szOf P e + j) xs.length with h | h
        · exact h
        · rw [List.getElem?_eq_none h] at h3; cases h3
      have := e2.2 _ x _ h3 (Array.getElem?_eq_getElem hlt)
      exact ⟨_, Array.getElem?_eq_getElem hlt, this.1, tr _ _ this.2⟩)
  refine ⟨.slice (some ⟨w.heap.size, 0, none⟩) len len, _, _, ?_, g1, g2, ?_⟩
  · have hle : ¬ (len * szOf P e > 2 ^ 24) := by omega
    simp only [Instr.buildSlice, Sem.run_bind, run_underlying (slEl_eq he), Result.andThen_ok, run_sizeOf hT, Sem.run_ite, if_neg hle]
    by_cases h0 : len * szOf P e = 0
    · have hl0 : len = 0 := by rcases Nat.mul_eq_zero.1 h0 with h | h <;> omega
      subst hl0
      simp only [Nat.zero_mul] at e1 ⊢
      simp only [if_true, Sem.run_pure, Result.andThen_ok]
      have e1' : Instr.fill (fun i => some (i * szOf P e, szOf P e)) ((Array.range 0).map ((#[] : Array Value)[· % 0]!)) vs.toList = some cs' := by
        rw [← e1]
        have em : ∀ f : Nat → Value, (Array.range 0).map f = #[] := fun f => Array.eq_empty_of_size_eq_zero (by simp)
        rw [em, em]
      simp only [List.size_toArray, List.length_nil]
      rw [e1']
      simp [newRow]
    · simp only [if_neg h0, run_zeroValue hi hz, Result.andThen_ok, Sem.run_pure]
      rw [e1]
      simp [newRow]
  · have : (chunk (szOf P e) len xs).length = len := k2
    rw [this]
    exact .osl _ _ _ (Pl.set_same _ _ _ _ _) rfl

def isV : X → Bool
  | .v u => plain u
  | _ => false
/-- a slice that is laid out and only read -/
def eBSD (P : Program) (s : St) (T len : Nat) (ps : List (Nat × X)) : Eff :=
  match slEl P T with
  | none => ⟨False, .top, s.h⟩
  | some e => match fillX (fun i => some (i * szOf P e, szOf P e)) ((List.range (len * szOf P e)).map fun m => .v ((zeroC P e).getD (m % szOf P e) .nilFunc)) ps with
    | none => ⟨False, .top, s.h⟩
    | some xs => ⟨(okT P e = true ∧ hasZ P e = true ∧ (zeroC P e).all plain = true ∧ (zeroC P e).length = szOf P e ∧ 0 < szOf P e ∧ len * szOf P e ≤ 16777216) ∧ xs.all isV = true, if len = 0 then .e0 else .sl (chunk (szOf P e) len xs), s.h⟩

theorem buildSlice_pure {P : Program} {c : Cx} {s : St} {β : Pl} {w : World} {T len : Nat} {ps : List (Nat × X)} {vs : Array (Nat × Value)} (H : HRel c s.h β w) (hm : ps.map (·.1) = vs.toList.map (·.1))
    (hr : ∀ (j : Nat) p q, ps[j]? = some p → vs.toList[j]? = some q → Rep w (Stab c.w0 c.S0 s.h β w) β q.2 p.2) (hc : (eBSD P s T len ps).cond) : Does P c s β w (Instr.buildSlice T len vs) (eBSD P s T len ps) := by
  unfold eBSD at hc ⊢
  split at hc
  · exact hc.elim
  rename_i e he
  split at hc
  · exact hc.elim
  rename_i xs hx
  obtain ⟨⟨hT, h1, h2, hzl, hpos, hlim⟩, hpure⟩ := hc
  obtain ⟨i, z, hi, hz, hzc⟩ := hasZ_eq h1
  have hzs : z.cells.size = szOf P e := by rw [← hzl, hzc]; simp
  have hz0 : FlatRel w (Stab c.w0 c.S0 s.h β w) β ((Array.range (len * szOf P e)).map (z.cells[· % z.cells.size]!)) ((List.range (len * szOf P e)).map fun m => .v ((zeroC P e).getD (m % szOf P e) .nilFunc)) := by
    refine ⟨by simp, fun j x cc hxx hcc => ?_⟩
    have hj : j < len * szOf P e := by
      rcases Nat.lt_or_ge j (len * szOf P e) with h | h
      · exact h
      · rw [List.getElem?_eq_none (by simpa using h)] at hxx; cases hxx
    rw [List.getElem?_map, List.getElem?_range hj] at hxx
    simp only [Array.getElem?_map, Array.getElem?_range, hj, if_true, Option.map_some, Option.some.injEq] at hcc
    simp only [Option.map_some, Option.some.injEq] at hxx
    have hlt : j % szOf P e < z.cells.size := by rw [hzs]; exact Nat.mod_lt _ hpos
    have e1 : (zeroC P e).getD (j % szOf P e) .nilFunc = z.cells[j % szOf P e]'hlt := by
      rw [hzc]; simp [List.getD, hlt]
    have e2 : cc = z.cells[j % szOf P e]'hlt := by rw [← hcc, hzs]; simp [getElem!_pos, hlt]
    rw [e1] at hxx
    subst hxx
    rw [e2]
    rw [List.all_eq_true] at h2
    have hp : plain (z.cells[j % szOf P e]'hlt) = true := h2 _ (by rw [hzc, Array.mem_toList_iff]; exact Array.getElem_mem _)
    exact ⟨plain_one hp, .v _ hp⟩
  obtain ⟨cs', e1, e2⟩ := fill_rel _ ps vs.toList _ _ xs hz0 hx hm hr
  have hlen : ∀ (ps : List (Nat × X)) (xs xs' : List X), fillX (fun i => some (i * szOf P e, szOf P e)) xs ps = some xs' → xs'.length = xs.length := by
    intro ps
    induction ps with
    | nil => intro xs xs' h; simp only [fillX, Option.some.injEq] at h; rw [h]
    | cons p ps ih =>
      intro xs xs' h
      obtain ⟨i, x⟩ := p
      simp only [fillX] at h
      split at h
      · cases h
      · split at h
        · rw [ih _ _ h, splice_length]
          omega
        · cases h
  have hxl : xs.length = len * szOf P e := by rw [hlen _ _ _ hx]; simp
  obtain ⟨k1, k2, k3⟩ := chunk_rows (szOf P e) len xs hxl
  have hnew : (w.alloc (.cells cs' e)).heap[w.heap.size]? = some (.cells cs' e (0, 0)) := heap_alloc_new w _
  have hl1 : len ≤ len * szOf P e := Nat.le_mul_of_pos_right _ hpos
  obtain ⟨g1, g2⟩ := H.ext (w' := w.alloc (.cells cs' e)) ((Below.refl _ _).alloc (Nat.le_refl _) _)
  have hsz : w.heap.size < (w.alloc (.cells cs' e)).heap.size := (Array.getElem?_eq_some_iff.1 hnew).1
  have hst : Stab c.w0 c.S0 s.h β (w.alloc (.cells cs' e)) w.heap.size := ⟨by omega, .inr H.frm.size, fun ho => by have := (H.own _ ho).1; omega⟩
  have hcell : ∀ i j x, at2 (chunk (szOf P e) len xs) i j = some x → ∃ cc, cs'[i * szOf P e + j]? = some cc ∧ cc.oneCell' = true ∧ Rep w (Stab c.w0 c.S0 s.h β w) β cc x := fun i j x hxx => by
      have h3 := k3 i j x hxx
      have hlt : i * szOf P e + j < cs'.size := by
        rw [e2.1]
        rcases Nat.lt_or_ge (i * szOf P e + j) xs.length with h | h
        · exact h
        · rw [List.getElem?_eq_none h] at h3; cases h3
      have := e2.2 _ x _ h3 (Array.getElem?_eq_getElem hlt)
      exact ⟨_, Array.getElem?_eq_getElem hlt, this.1, this.2⟩
  have hrep : Rep (w.alloc (.cells cs' e)) (Stab c.w0 c.S0 s.h β (w.alloc (.cells cs' e))) β (.slice (some ⟨w.heap.size, 0, none⟩) len len) (.sl (chunk (szOf P e) len xs)) := by
    have := Rep.sl (w := w.alloc (.cells cs' e)) (S := Stab c.w0 c.S0 s.h β (w.alloc (.cells cs' e))) (β := β) ⟨w.heap.size, 0, none⟩ len (szOf P e) (chunk (szOf P e) len xs) (fun i j => if (at2 (chunk (szOf P e) len xs) i j).isSome then (cs'[i * szOf P e + j]?).getD (.bool false) else .bool false) (by omega) hst k1
      (fun i j hi hj => by
        have hs : (at2 (chunk (szOf P e) len xs) i j).isSome = true := by
          unfold at2
          rw [List.getElem?_eq_getElem hi]
          simp only [Option.bind_some]
          rw [List.getElem?_eq_getElem (by rw [k1 _ (List.getElem_mem hi)]; exact hj)]
          rfl
        obtain ⟨x, hx'⟩ := Option.isSome_iff_exists.1 hs
        obtain ⟨cc, c1, _⟩ := hcell i j x hx'
        rw [if_pos hs, c1]
        have : (⟨w.heap.size, 0, none⟩ : Addr).add (i * szOf P e + j) = ⟨w.heap.size, i * szOf P e + j, none⟩ := by simp [Addr.add]; omega
        rw [this, cell_of_row _ _ _ _ _ _ hnew, c1]; rfl)
      (fun i j => by
        show Value.oneCell' (if (at2 (chunk (szOf P e) len xs) i j).isSome = true then (cs'[i * szOf P e + j]?).getD (.bool false) else .bool false) = true
        cases hs : at2 (chunk (szOf P e) len xs) i j with
        | none => rfl
        | some x =>
          obtain ⟨cc, c1, c2, _⟩ := hcell i j x hs
          simp [c1, c2])
      (fun i j x hxx => by
        obtain ⟨cc, c1, c2, c3⟩ := hcell i j x hxx
        show Rep _ _ _ (if (at2 (chunk (szOf P e) len xs) i j).isSome = true then (cs'[i * szOf P e + j]?).getD (.bool false) else .bool false) x
        rw [hxx, c1]
        simp only [Option.isSome_some, if_true, Option.getD_some]
        have hxm : x ∈ xs := List.mem_of_getElem? (k3 i j x hxx)
        rw [List.all_eq_true] at hpure
        have hp := hpure x hxm
        unfold isV at hp
        split at hp
        · obtain ⟨rfl, _⟩ := c3.inv_v
          exact .v _ hp
        · cases hp)
    rw [k2] at this
    exact this
  have hrep' : Rep (w.alloc (.cells cs' e)) (Stab c.w0 c.S0 s.h β (w.alloc (.cells cs' e))) β (.slice (some ⟨w.heap.size, 0, none⟩) len len) (if len = 0 then .e0 else .sl (chunk (szOf P e) len xs)) := by
    split
    · rename_i h0
      subst h0
      exact .e0 _
    · exact hrep
  refine ⟨.slice (some ⟨w.heap.size, 0, none⟩) len len, _, _, ?_, g1, g2, hrep'⟩
  · have hle : ¬ (len * szOf P e > 2 ^ 24) := by omega
    simp only [Instr.buildSlice, Sem.run_bind, run_underlying (slEl_eq he), Result.andThen_ok, run_sizeOf hT, Sem.run_ite, if_neg hle]
    by_cases h0 : len * szOf P e = 0
    · have hl0 : len = 0 := by rcases Nat.mul_eq_zero.1 h0 with h | h <;> omega
      subst hl0
      simp only [Nat.zero_mul] at e1 ⊢
      simp only [if_true, Sem.run_pure, Result.andThen_ok]
      have e1' : Instr.fill (fun i => some (i * szOf P e, szOf P e)) ((Array.range 0).map ((#[] : Array Value)[· % 0]!)) vs.toList = some cs' := by
        rw [← e1]
        have em : ∀ f : Nat → Value, (Array.range 0).map f = #[] := fun f => Array.eq_empty_of_size_eq_zero (by simp)
        rw [em, em]
      simp only [List.size_toArray, List.length_nil]
      rw [e1']
      simp [newRow]
    · simp only [if_neg h0, run_zeroValue hi hz, Result.andThen_ok, Sem.run_pure]
      rw [e1]
      simp [newRow]

/-! ### make -/
def eMake (P : Program) (s : St) (T : Nat) (l c : X) : Eff :=
  match slEl P T, l, c with
  | some e, .v (.int _ n), .v (.int _ m) => ⟨okT P e = true ∧ hasZ P e = true ∧ (zeroC P e).all plain = true ∧ (zeroC P e).length = szOf P e ∧ 0 < szOf P e ∧ 0 ≤ n ∧ n ≤ m ∧ (byOf P e : Int) * m ≤ 281474976710656 ∧ m ≤ 9223372036854775807,
      .osl s.h.length 0, s.h ++ [⟨e, szOf P e, 0, List.replicate n.toNat ((zeroC P e).map .v), false, true, none⟩]⟩
  | _, _, _ => ⟨False, .top, s.h⟩

theorem make_does {P : Program} {c : Cx} {s : St} {β : Pl} {w : World} {T : Nat} {ul uc : Value} {l cp : X} (H : HRel c s.h β w) (hl : Rep w (Stab c.w0 c.S0 s.h β w) β ul l) (hcp : Rep w (Stab c.w0 c.S0 s.h β w) β uc cp)
    (hc : (eMake P s T l cp).cond) : Does P c s β w (Instr.makeSlice T ul uc) (eMake P s T l cp) := by
  unfold eMake at hc ⊢
  split at hc
  · rename_i e k n k' m he
    obtain ⟨rfl, _⟩ := hl.inv_v
    obtain ⟨rfl, _⟩ := hcp.inv_v
    obtain ⟨hT, h1, h2, hzl, hpos, h0, hnm, hby, hmx⟩ := hc
    obtain ⟨i, z, hi, hz, hzc⟩ := hasZ_eq h1
    obtain ⟨i', hi', hs', hb'⟩ := okT_info hT
    have ei : i = i' := by rw [hi] at hi'; injection hi'
    subst ei
    have hzs : z.cells.size = szOf P e := by rw [← hzl, hzc]; simp
    have hrun := run_make w T e i z (slEl_eq he) hi hz k k' n m h0 hnm (by rw [← hb']; exact hby) hmx
    rw [← hs'] at hrun
    have hnew : (w.alloc (.cells (madeCells z.cells (m.toNat * szOf P e)) e)).heap[w.heap.size]? = some (.cells (madeCells z.cells (m.toNat * szOf P e)) e (0, 0)) := heap_alloc_new w _
    obtain ⟨g1, g2⟩ := newRow_push H ((Below.refl _ _).alloc (Nat.le_refl _) _) e (szOf P e) m.toNat (List.replicate n.toNat ((zeroC P e).map .v)) _ w.heap.size (Nat.le_refl _) hnew
      (fun r hr => by rw [List.eq_of_mem_replicate hr]; simp [hzl]) (size_madeCells _ _) (by simp; omega) (by simp only [maxLen]; omega)
      (fun S' β' tr i j x hx => by
        simp only [at2, List.getElem?_replicate] at hx
        split at hx
        · rename_i hin
          simp only [Option.bind_some, List.getElem?_map] at hx
          cases hzj : (zeroC P e)[j]? with
          | none => rw [hzj] at hx; cases hx
          | some y =>
            rw [hzj] at hx
            simp only [Option.map_some, Option.some.injEq] at hx
            subst hx
            have hj : j < szOf P e := by
              rw [← hzl]
              rcases Nat.lt_or_ge j (zeroC P e).length with h | h
              · exact h
              · rw [List.getElem?_eq_none h] at hzj; cases hzj
            have hyp : plain y = true := by rw [List.all_eq_true] at h2; exact h2 y (List.mem_of_getElem? hzj)
            refine ⟨y, ?_, plain_one hyp, .v _ hyp⟩
            have hle : (i + 1) * szOf P e ≤ m.toNat * szOf P e := Nat.mul_le_mul_right _ (by omega)
            rw [Nat.add_mul] at hle
            have hlt : i * szOf P e + j < m.toNat * szOf P e := by omega
            have hmod : (i * szOf P e + j) % szOf P e = j := by rw [Nat.add_comm, Nat.add_mul_mod_self_right]; exact Nat.mod_eq_of_lt hj
            rw [hzc, Array.getElem?_toList] at hzj
            simp only [madeCells, Array.getElem?_map, Array.getElem?_range, hlt, if_true, Option.map_some, hzs, hmod]
            rw [getElem!_pos z.cells j (by omega)]
            rw [Array.getElem?_eq_getElem (by omega)] at hzj
            exact hzj
        · cases hx)
    refine ⟨_, _, _, hrun, g1, g2, ?_⟩
    have hlen : (List.replicate n.toNat ((zeroC P e).map X.v)).length = n.toNat := by simp
    rw [hlen]
    exact .osl _ _ _ (Pl.set_same _ _ _ _ _) rfl
  · exact hc.elim

end Go.Abs

namespace Go.Abs
open Go.RowKit

/-! ### append -/
/-- the rows of a source -/
def srcRows (h : List Ob) : X → Option (List (List X))
  | .v (.slice none 0 0) => some []
  | .sl rows => some rows
  | .osl k _ => some ((h[k]?.map (·.rows)).getD [])
  | .osub k _ off len => some ((((h[k]?.map (·.rows)).getD []).drop off).take len)
  | _ => none
def srcOk (h : List Ob) : X → Prop
  | .v _ => True
  | .sl _ => True
  | .osl k ver => verOk h k ver ∧ ((h[k]?.map (·.bx)).getD true) = false
  | .osub k ver off len => verOk h k ver ∧ ((h[k]?.map (·.bx)).getD true) = false ∧ off + len ≤ ((h[k]?.map (·.rows)).getD []).length
  | _ => False

theorem src_read {c : Cx} {h : List Ob} {β : Pl} {w : World} (H : HRel c h β w) {u : Value} {x : X} {rows : List (List X)} {sz : Nat} (hr : Rep w (Stab c.w0 c.S0 h β w) β u x) (hs : srcRows h x = some rows) (ho : srcOk h x)
    (hz : ∀ r ∈ rows, r.length = sz) :
    (rows = [] ∧ ∃ a cp, u = .slice a 0 cp) ∨ ∃ (ad : Addr) (cp : Nat) (news : List Value), u = .slice (some ad) rows.length cp ∧ news.length = rows.length * sz ∧ (∀ (j : Nat) v, news[j]? = some v → w.cell? (ad.add j) = some v) ∧
      (∀ v ∈ news, v.oneCell' = true) ∧ ∀ i j x, at2 rows i j = some x → ∃ cc, news[i * sz + j]? = some cc ∧ Rep w (Stab c.w0 c.S0 h β w) β cc x := by
  -- from a function that gives the cells
  have mk : ∀ (ad : Addr) (cp : Nat), u = .slice (some ad) rows.length cp → (∀ i j x, at2 rows i j = some x → ∃ cc, w.cell? (ad.add (i * sz + j)) = some cc ∧ cc.oneCell' = true ∧ Rep w (Stab c.w0 c.S0 h β w) β cc x) → 0 < rows.length →
      ∃ (ad : Addr) (cp : Nat) (news : List Value), u = .slice (some ad) rows.length cp ∧ news.length = rows.length * sz ∧ (∀ (j : Nat) v, news[j]? = some v → w.cell? (ad.add j) = some v) ∧
      (∀ v ∈ news, v.oneCell' = true) ∧ ∀ i j x, at2 rows i j = some x → ∃ cc, news[i * sz + j]? = some cc ∧ Rep w (Stab c.w0 c.S0 h β w) β cc x := by
    intro ad cp hu hcell hpos
    have hdiv : ∀ m, m < rows.length * sz → ∃ x, at2 rows (m / sz) (m % sz) = some x := by
      intro m hm
      have hszp : 0 < sz := by
        rcases Nat.eq_zero_or_pos sz with h | h
        · subst h; simp at hm
        · exact h
      have h1 : m / sz < rows.length := Nat.div_lt_of_lt_mul (by rw [Nat.mul_comm]; exact hm)
      have h2 : m % sz < sz := Nat.mod_lt _ hszp
      have h3 : rows[m / sz]? = some rows[m / sz] := List.getElem?_eq_getElem h1
      have h4 : rows[m / sz].length = sz := hz _ (List.getElem_mem _)
      exact ⟨_, by simp only [at2, h3, Option.bind_some]; exact List.getElem?_eq_getElem (by omega)⟩
    have key : ∀ m, ∃ cc, m < rows.length * sz → w.cell? (ad.add m) = some cc ∧ cc.oneCell' = true ∧ ∀ x, at2 rows (m / sz) (m % sz) = some x → Rep w (Stab c.w0 c.S0 h β w) β cc x := by
      intro m
      by_cases hm : m < rows.length * sz
      · obtain ⟨x, hx⟩ := hdiv m hm
        obtain ⟨cc, h1, h2, h3⟩ := hcell _ _ x hx
        refine ⟨cc, fun _ => ⟨?_, h2, fun y hy => ?_⟩⟩
        · rw [Nat.div_add_mod' m sz] at h1; exact h1
        · rw [hx] at hy; injection hy with e; subst e; exact h3
      · exact ⟨.nilFunc, fun h => absurd h hm⟩
    obtain ⟨f, hf⟩ := Classical.axiomOfChoice key
    refine ⟨ad, cp, (List.range (rows.length * sz)).map f, hu, by simp, fun j v hj => ?_, fun v hv => ?_, fun i j x hx => ?_⟩
    · rw [List.getElem?_map] at hj
      rcases Nat.lt_or_ge j (rows.length * sz) with hlt | hge
      · rw [List.getElem?_range hlt] at hj
        simp only [Option.map_some, Option.some.injEq] at hj
        subst hj
        exact (hf j hlt).1
      · rw [List.getElem?_eq_none (by simpa using hge)] at hj; cases hj
    · simp only [List.mem_map, List.mem_range] at hv
      obtain ⟨m, hm, rfl⟩ := hv
      exact (hf m hm).2.1
    · obtain ⟨hi, hj⟩ := rows_lt hz hx
      have hle : (i + 1) * sz ≤ rows.length * sz := Nat.mul_le_mul_right _ hi
      rw [Nat.add_mul] at hle
      have hlt : i * sz + j < rows.length * sz := by omega
      refine ⟨f (i * sz + j), by rw [List.getElem?_map, List.getElem?_range hlt]; rfl, (hf _ hlt).2.2 x ?_⟩
      have e1 : (i * sz + j) / sz = i := by rw [Nat.add_comm, Nat.add_mul_div_right _ _ (by omega)]; rw [Nat.div_eq_of_lt hj]; simp
      have e2 : (i * sz + j) % sz = j := by rw [Nat.add_comm, Nat.add_mul_mod_self_right]; exact Nat.mod_eq_of_lt hj
      rw [e1, e2]; exact hx
  cases x with
  | v y =>
    obtain ⟨rfl, _⟩ := hr.inv_v
    unfold srcRows at hs
    split at hs <;> first | (rename_i e; injection e with e; subst e; injection hs with hs; exact .inl ⟨hs.symm, none, 0, rfl⟩) | (rename_i e; cases e; done) | cases hs
  | sl rs =>
    simp only [srcRows, Option.some.injEq] at hs
    subst hs
    rcases hr.inv_sl with ⟨rfl, a, cp, rfl⟩ | ⟨ad, cp, sz', cs, rfl, _, hss, hzz, hcell, h1c, hrep⟩
    · exact .inl ⟨rfl, a, cp, rfl⟩
    · rcases Nat.eq_zero_or_pos rs.length with h0 | hpos
      · exact .inl ⟨List.eq_nil_of_length_eq_zero h0, _, _, by rw [h0]⟩
      · refine .inr (mk ad cp rfl (fun i j x hx => ?_) hpos)
        obtain ⟨hi, hj⟩ := rows_lt hzz hx
        have hsz : sz' = sz := by rw [← hzz rs[i] (List.getElem_mem _), ← hz rs[i] (List.getElem_mem _)]
        subst hsz
        exact ⟨cs i j, hcell i j hi hj, h1c i j, (hrep i j x hx).mono (fun _ h => h) (fun _ _ => rfl) (Pl.none_le _)⟩
  | osl k ver =>
    obtain ⟨hv, hb⟩ := ho
    obtain ⟨ob, hk, rfl⟩ := verOk_get hv
    simp only [srcRows, hk, Option.map_some, Option.getD_some, Option.some.injEq] at hs hb
    subst hs
    obtain ⟨hu, _⟩ := hr.inv_osl
    rcases H.arr hk hv hu hb with ⟨rfl, h2⟩ | ⟨g, cap, rfl, _⟩
    · exact .inl ⟨h2, none, 0, rfl⟩
    · rcases Nat.eq_zero_or_pos ob.rows.length with h0 | hpos
      · exact .inl ⟨List.eq_nil_of_length_eq_zero h0, _, _, by rw [h0]⟩
      · refine .inr (mk _ _ rfl (fun i j x hx => ?_) hpos)
        obtain ⟨h1, h2, u', hu', _, hcc⟩ := H.objs k ob hk
        rw [hu] at hu'; injection hu' with e; subst e
        obtain ⟨g', cc, hg', hcell, h1c, hrep⟩ := hcc i j x hx
        simp only [blk, Option.some.injEq] at hg'
        subst hg'
        have hsz : ob.sz = sz := by
          obtain ⟨hi, _⟩ := rows_lt h2 hx
          rw [← h2 ob.rows[i] (List.getElem_mem _), ← hz ob.rows[i] (List.getElem_mem _)]
        subst hsz
        exact ⟨cc, by rw [add_none, Nat.zero_add]; exact hcell, h1c, hrep⟩
  | osub k ver off len =>
    obtain ⟨hv, hb, hlen⟩ := ho
    obtain ⟨ob, hk, rfl⟩ := verOk_get hv
    simp only [srcRows, hk, Option.map_some, Option.getD_some, Option.some.injEq] at hs hb hlen
    have hl : rows.length = len := by rw [← hs]; simp; omega
    cases hr with
    | osub0 => exact .inl ⟨List.eq_nil_of_length_eq_zero hl, _, _, rfl⟩
    | osub _ _ _ _ g cc nn cap hcp hoc hu =>
      rcases Nat.eq_zero_or_pos len with h0 | hpos
      · subst h0; exact .inl ⟨List.eq_nil_of_length_eq_zero hl, _, _, rfl⟩
      · refine .inr (mk ⟨g, off * β.sz k, none⟩ cc (by rw [hl]) (fun i j x hx => ?_) (by omega))
        obtain ⟨h1, h2, u', hu', _, hcc⟩ := H.objs k ob hk
        rw [hu] at hu'; injection hu' with e; subst e
        have hat : at2 ob.rows (off + i) j = some x := by
          rw [← hs] at hx
          simp only [at2, List.getElem?_take, List.getElem?_drop] at hx
          split at hx
          · exact hx
          · cases hx
        obtain ⟨g', cc', hg', hcell, h1c, hrep⟩ := hcc _ j x hat
        simp only [blk, Option.some.injEq] at hg'
        subst hg'
        have hsz : ob.sz = sz := by
          obtain ⟨hi, _⟩ := rows_lt h2 hat
          have hm : ob.rows[off + i] ∈ rows := by
            rw [← hs]
            refine List.mem_of_getElem? (i := i) ?_
            obtain ⟨hi', _⟩ := rows_lt hz hx
            rw [List.getElem?_take, if_pos (by omega), List.getElem?_drop]
            exact List.getElem?_eq_getElem hi
          rw [← h2 ob.rows[off + i] (List.getElem_mem _), ← hz _ hm]
        subst hsz
        exact ⟨cc', by rw [add_none, h1, ← Nat.add_assoc, ← Nat.add_mul]; exact hcell, h1c, hrep⟩
  | _ => exact ho.elim

def eAppend (P : Program) (s : St) (T : Nat) (a b : X) : Eff :=
  match slEl P T, srcRows s.h b with
  | some e, some news => match a with
    | .osl k ver => ⟨okT P e = true ∧ hasZ P e = true ∧ (zeroC P e).length = szOf P e ∧ 0 < szOf P e ∧ verOk s.h k ver ∧ liveOk s.h k ∧ ((s.h[k]?.map (·.bx)).getD true) = false ∧ ((s.h[k]?.map (·.ty)).getD 0) = e ∧ ((s.h[k]?.map (·.sz)).getD 0) = szOf P e ∧
        srcOk s.h b ∧ (∀ r ∈ news, r.length = szOf P e) ∧ (((s.h[k]?.map (·.rows)).getD []).length + news.length) * byOf P e ≤ 140737488355328 ∧ ((s.h[k]?.map (·.rows)).getD []).length + news.length ≤ 9223372036854775807,
        .osl k (ver + 1), match s.h[k]? with | some ob => s.h.set k { ob with ver := ver + 1, rows := ob.rows ++ news } | none => s.h⟩
    | .v (.slice none 0 0) => ⟨okT P e = true ∧ hasZ P e = true ∧ (zeroC P e).length = szOf P e ∧ 0 < szOf P e ∧ srcOk s.h b ∧ (∀ r ∈ news, r.length = szOf P e) ∧ news.length * byOf P e ≤ 140737488355328 ∧ news.length ≤ 9223372036854775807,
        .osl s.h.length 0, s.h ++ [⟨e, szOf P e, 0, news, false, true, none⟩]⟩
    | .osub k ver off len => ⟨okT P e = true ∧ verOk s.h k ver ∧ liveOk s.h k ∧ ((s.h[k]?.map (·.bx)).getD true) = false ∧ ((s.h[k]?.map (·.ty)).getD 0) = e ∧ ((s.h[k]?.map (·.sz)).getD 0) = szOf P e ∧
        srcOk s.h b ∧ (∀ r ∈ news, r.length = szOf P e) ∧ off + len + news.length ≤ ((s.h[k]?.map (·.rows)).getD []).length,
        .osub k ver off (len + news.length), match s.h[k]? with | some ob => s.h.set k { ob with rows := ob.rows.take (off + len) ++ (news ++ ob.rows.drop (off + len + news.length)) } | none => s.h⟩
    | _ => ⟨False, .top, s.h⟩
  | _, _ => ⟨False, .top, s.h⟩

theorem at2_mid {rows news : List (List X)} {p i j : Nat} {x : X} (hp : p ≤ rows.length) (hx : at2 (rows.take p ++ (news ++ rows.drop (p + news.length))) i j = some x) : (p ≤ i ∧ i < p + news.length ∧ at2 news (i - p) j = some x) ∨ ((i < p ∨ p + news.length ≤ i) ∧ at2 rows i j = some x) := by
  have l1 : (rows.take p).length = p := by simp; omega
  unfold at2 at hx ⊢
  by_cases c1 : i < p
  · rw [List.getElem?_append_left (by omega), List.getElem?_take_of_lt c1] at hx
    exact .inr ⟨.inl c1, hx⟩
  · rw [List.getElem?_append_right (by omega), l1] at hx
    by_cases c2 : i < p + news.length
    · rw [List.getElem?_append_left (by omega)] at hx
      exact .inl ⟨by omega, c2, hx⟩
    · rw [List.getElem?_append_right (by omega), List.getElem?_drop, show p + news.length + (i - p - news.length) = i by omega] at hx
      exact .inr ⟨.inr (by omega), hx⟩
/-- rows of an object are written over -/
theorem HRel.rowsW {c : Cx} {h : List Ob} {β : Pl} {w : World} {k g cap : Nat} {ob : Ob} {cur : Array Value} (H : HRel c h β w) (hk : h[k]? = some ob) (hl : ob.live = true) (hbx : ob.bx = false)
    (hu : β.val k ob.ver = some (.slice (some ⟨g, 0, none⟩) ob.rows.length cap)) (hcur : w.heap[g]? = some (.cells cur ob.ty (0, 0))) (hcs : cur.size = cap * ob.sz) (hcap : ob.rows.length ≤ cap) (hmax : cap ≤ maxLen) (news : List Value) (rs : List (List X)) (p : Nat)
    (hp : p + rs.length ≤ ob.rows.length) (hnl : news.length = rs.length * ob.sz) (h1 : ∀ v ∈ news, v.oneCell' = true) (hz : ∀ r ∈ rs, r.length = ob.sz)
    (hr : ∀ i j x, at2 rs i j = some x → ∃ cc, news[i * ob.sz + j]? = some cc ∧ Rep w (Stab c.w0 c.S0 h β w) β cc x) :
    HRel c (h.set k { ob with rows := ob.rows.take p ++ (rs ++ ob.rows.drop (p + rs.length)) }) (β.set k ob.ver (.slice (some ⟨g, 0, none⟩) ob.rows.length cap) ob.sz) (w.setRow g (cur.toList.take (p * ob.sz) ++ news ++ cur.toList.drop (p * ob.sz + news.length)).toArray) ∧
    ∀ v x, Rep w (Stab c.w0 c.S0 h β w) β v x → Rep (w.setRow g (cur.toList.take (p * ob.sz) ++ news ++ cur.toList.drop (p * ob.sz + news.length)).toArray) (Stab c.w0 c.S0 (h.set k { ob with rows := ob.rows.take p ++ (rs ++ ob.rows.drop (p + rs.length)) }) (β.set k ob.ver (.slice (some ⟨g, 0, none⟩) ob.rows.length cap) ob.sz) (w.setRow g (cur.toList.take (p * ob.sz) ++ news ++ cur.toList.drop (p * ob.sz + news.length)).toArray)) (β.set k ob.ver (.slice (some ⟨g, 0, none⟩) ob.rows.length cap) ob.sz) v x := by
  obtain ⟨hsz, hrows, v0, hv0, hsh, hcells⟩ := H.objs k ob hk
  have e0 : v0 = .slice (some ⟨g, 0, none⟩) ob.rows.length cap := by rw [hu] at hv0; injection hv0 with e; exact e.symm
  subst e0
  have hb1 : (p + rs.length) * ob.sz ≤ cap * ob.sz := Nat.mul_le_mul_right _ (by omega)
  rw [Nat.add_mul] at hb1
  generalize hnew : (cur.toList.take (p * ob.sz) ++ news ++ cur.toList.drop (p * ob.sz + news.length)).toArray = cur'
  have hnl' : cur'.size = cur.size := by rw [← hnew]; simp; omega
  have hget : ∀ m, cur'[m]? = if p * ob.sz ≤ m ∧ m < p * ob.sz + news.length then news[m - p * ob.sz]? else cur[m]? := by
    intro m
    rw [← hnew]
    simp only [List.getElem?_toArray]
    have t1 : (cur.toList.take (p * ob.sz)).length = p * ob.sz := by simp; omega
    by_cases hm : m < p * ob.sz
    · rw [if_neg (by omega), List.append_assoc, List.getElem?_append_left (by omega), List.getElem?_take, if_pos hm]; simp
    · by_cases hm2 : m < p * ob.sz + news.length
      · rw [if_pos ⟨by omega, hm2⟩, List.getElem?_append_left (by simp only [List.length_append]; omega), List.getElem?_append_right (by omega), t1]
      · rw [if_neg (by omega), List.getElem?_append_right (by simp only [List.length_append]; omega), List.getElem?_drop]
        simp only [Array.getElem?_toList, List.length_append, t1]
        congr 1
        omega
  have hw' : (w.setRow g cur').heap[g]? = some (.cells cur' ob.ty (0, 0)) := setRow_heap w g cur _ ob.ty _ hcur
  have hlen : (ob.rows.take p ++ (rs ++ ob.rows.drop (p + rs.length))).length = ob.rows.length := by simp; omega
  refine H.put hk hl hu { ob with rows := ob.rows.take p ++ (rs ++ ob.rows.drop (p + rs.length)) } _ hl (.inl ⟨rfl, rfl⟩) rfl (w' := w.setRow g cur') rfl rfl rfl (by simp [World.setRow])
    (fun b _ hne => setRow_other w g b cur' (fun e => hne (by rw [e]; rfl))) (fun b hb => .inl hb)
    (fun r hr => by
      rcases List.mem_append.1 hr with h | h
      · exact hrows r (List.mem_of_mem_take h)
      · rcases List.mem_append.1 h with h | h
        · exact hz r h
        · exact hrows r (List.mem_of_mem_drop h))
    (.inr (.inr ⟨g, cap, cur', hw', by rw [hnl']; exact hcs, by rw [hlen]; exact hcap, hmax, by
      show if ob.bx = true then _ else _
      rw [hbx]
      simp only [Bool.false_eq_true, if_false]
      rw [hlen]⟩)) ?_
  intro S' β' tr i j x hx
  have hcell : ∀ m y, cur'[m]? = some y → (w.setRow g cur').cell? ⟨g, m, none⟩ = some y := fun m y hy => by simp [World.cell?, hw', hy]
  show ∃ g' cc, _ ∧ (w.setRow g cur').cell? ⟨g', i * ob.sz + j, none⟩ = some cc ∧ _
  rcases at2_mid (by omega) hx with ⟨i1, i2, hx'⟩ | ⟨hi, hx'⟩
  · obtain ⟨cc, hc1, hc2⟩ := hr _ j x hx'
    obtain ⟨hi', hj'⟩ := rows_lt hz hx'
    have m1 : (i - p + 1) * ob.sz ≤ rs.length * ob.sz := Nat.mul_le_mul_right _ (by omega)
    have m2 : (i - p) * ob.sz = i * ob.sz - p * ob.sz := Nat.sub_mul _ _ _
    have m3 : p * ob.sz ≤ i * ob.sz := Nat.mul_le_mul_right _ i1
    rw [Nat.add_mul] at m1
    refine ⟨g, cc, rfl, hcell _ _ ?_, h1 cc (List.mem_of_getElem? hc1), tr _ _ hc2⟩
    rw [hget, if_pos (by omega), ← hc1]
    congr 1
    omega
  · obtain ⟨g2, cc, hg2, hcc, h1c, hrc⟩ := hcells i j x hx'
    obtain ⟨hi', hj'⟩ := rows_lt hrows hx'
    injection hg2 with e; subst e
    refine ⟨g, cc, rfl, hcell _ _ ?_, h1c, tr _ _ hrc⟩
    rw [cell_of_row _ _ _ _ _ _ hcur] at hcc
    rw [hget, if_neg, hcc]
    rcases hi with hi | hi
    · have m1 : (i + 1) * ob.sz ≤ p * ob.sz := Nat.mul_le_mul_right _ hi
      rw [Nat.add_mul] at m1
      omega
    · have m1 : (p + rs.length) * ob.sz ≤ i * ob.sz := Nat.mul_le_mul_right _ hi
      rw [Nat.add_mul] at m1
      omega

theorem run_append_of_nil' {P : Program} (w : World) (base : Nat) (t ty e : TypeId) (i : TypeInfo) (size : Nat) (ht : P.underlying t = some (.slice e)) (hi : P.info? e = some i)
    (v : Value) (n : Nat) (xs : List Value) (hown : w.ownsRow base e size v n xs) (c : Nat) : (Builtin.append_ #[t, t] ty #[v, .slice none 0 c]).run P w = .ok v w := by
  rcases hown.2 with ⟨rfl, rfl⟩ | ⟨g, cap, cur, rfl, _, _, hnc, _⟩
  · simp [Builtin.append_, run_underlying ht, sizeOf, typeInfo, hi, Builtin.lenOf, Builtin.firstCells]
  · simp [Builtin.append_, run_underlying ht, sizeOf, typeInfo, hi, Builtin.lenOf, Builtin.firstCells, hnc, storeCells]

theorem grown_below {w w' : World} {v : Value} (hg : w.grownBy w' v.ownBlock) (hv : v.ownBlock = none) : Below w.heap.size w w' :=
  ⟨hg.os, hg.tape, hg.output, hg.size, fun k hk => hg.block k hk (by rw [hv]; simp)⟩

theorem at2_append {rows news : List (List X)} {i j : Nat} {x : X} (hx : at2 (rows ++ news) i j = some x) : (i < rows.length ∧ at2 rows i j = some x) ∨ (rows.length ≤ i ∧ at2 news (i - rows.length) j = some x) := by
  unfold at2 at hx ⊢
  rcases Nat.lt_or_ge i rows.length with h | h
  · rw [List.getElem?_append_left h] at hx; exact .inl ⟨h, hx⟩
  · rw [List.getElem?_append_right h] at hx; exact .inr ⟨h, hx⟩

/-- what append leaves, of whatever source -/
theorem append_run {P : Program} {c : Cx} {h : List Ob} {β : Pl} {w : World} (H : HRel c h β w) {T ty e : Nat} {ub : Value} {b : X} {news : List (List X)} (he : slEl P T = some e) (hT : okT P e = true) (hZ : hasZ P e = true) (hzl : (zeroC P e).length = szOf P e) (hpos : 0 < szOf P e)
    (hrb : Rep w (Stab c.w0 c.S0 h β w) β ub b) (hs : srcRows h b = some news) (ho : srcOk h b) (hz : ∀ r ∈ news, r.length = szOf P e)
    (v : Value) (n : Nat) (xs : List Value) (hown : w.ownsRow 0 e (szOf P e) v n xs) (hby : (n + news.length) * byOf P e ≤ 140737488355328) (hmx : n + news.length ≤ 9223372036854775807) :
    ∃ v' w' cs, (Builtin.append_ #[T, T] ty #[v, ub]).run P w = .ok v' w' ∧ w'.ownsRow 0 e (szOf P e) v' (n + news.length) (xs ++ cs) ∧ w.grownBy w' v.ownBlock ∧ (v'.ownBlock = v.ownBlock ∨ v'.ownBlock = some w.heap.size) ∧
      (∀ u ∈ cs, u.oneCell' = true) ∧ ∀ i j x, at2 news i j = some x → ∃ cc, cs[i * szOf P e + j]? = some cc ∧ Rep w (Stab c.w0 c.S0 h β w) β cc x := by
  obtain ⟨i, z, hi, hzz, hzc⟩ := hasZ_eq hZ
  obtain ⟨i', hi', hs', hb'⟩ := okT_info hT
  have ei : i = i' := by rw [hi] at hi'; injection hi'
  subst ei
  have hzs : z.cells.size = szOf P e := by rw [← hzl, hzc]; simp
  have hmx' : n + news.length ≤ maxLen := by simp only [maxLen]; omega
  rcases src_read H hrb hs ho hz with ⟨rfl, a, cp, rfl⟩ | ⟨ad, cp, nw, rfl, h1, h2, h3, h4⟩
  · cases a with
    | none => exact ⟨v, w, [], run_append_of_nil' w 0 T ty e i _ (slEl_eq he) hi v n xs hown cp, by simpa using hown, World.grownBy.refl w _, .inl rfl, by simp, by simp [at2]⟩
    | some ad =>
      obtain ⟨v', w', hrun, g1, g2, _, g4⟩ := run_append_own_at (P := P) w 0 T ty e i z (szOf P e) (byOf P e) (slEl_eq he) hi hzz hs'.symm hb'.symm hzs hpos v n xs hown ad 0 cp [] (by simp) (by simp) (by simp) hmx' hby (Nat.zero_le _)
      exact ⟨v', w', [], hrun, g1, g2, g4, by simp, by simp [at2]⟩
  · obtain ⟨v', w', hrun, g1, g2, _, g4⟩ := run_append_own_at (P := P) w 0 T ty e i z (szOf P e) (byOf P e) (slEl_eq he) hi hzz hs'.symm hb'.symm hzs hpos v n xs hown ad news.length cp nw h1 h2 h3 hmx' hby (Nat.zero_le _)
    exact ⟨v', w', nw, hrun, g1, g2, g4, h3, h4⟩

theorem blk_own {v : Value} (h : v = .slice none 0 0 ∨ ∃ g n cap, v = .slice (some ⟨g, 0, none⟩) n cap) : blk v = v.ownBlock := by
  rcases h with rfl | ⟨g, n, cap, rfl⟩ <;> rfl

theorem owns_shape {w : World} {e sz n : Nat} {v : Value} {xs : List Value} (h : w.ownsRow 0 e sz v n xs) (ob : Ob) (h1 : ob.ty = e) (h2 : ob.sz = sz) (h3 : ob.rows.length = n) (h4 : ob.bx = false) : Shape w ob v := by
  rcases h.2 with ⟨rfl, rfl⟩ | ⟨g, cap, cur, rfl, _, hg, a1, a2, a3, _⟩
  · exact .inl ⟨rfl, List.eq_nil_of_length_eq_zero h3, h4⟩
  · exact .inr (.inr ⟨g, cap, cur, by rw [h1]; exact hg, by rw [h2]; exact a3, by omega, a2, by simp [h4, h3]⟩)

theorem owns_form {w : World} {e sz n : Nat} {v : Value} {xs : List Value} (h : w.ownsRow 0 e sz v n xs) : v = .slice none 0 0 ∨ ∃ g n cap, v = .slice (some ⟨g, 0, none⟩) n cap := by
  rcases h.2 with ⟨rfl, rfl⟩ | ⟨g, cap, cur, rfl, _⟩
  · exact .inl rfl
  · exact .inr ⟨g, n, cap, rfl⟩

/-- the cells of an owned row, by block and offset -/
theorem owns_cell {w : World} {e sz n m : Nat} {v : Value} {xs : List Value} {y : Value} (h : w.ownsRow 0 e sz v n xs) (hy : xs[m]? = some y) : ∃ g, blk v = some g ∧ w.cell? ⟨g, m, none⟩ = some y := by
  rcases h.2 with ⟨rfl, rfl⟩ | ⟨g, cap, cur, rfl, _, hg, a1, a2, a3, a4⟩
  · have : xs = [] := List.eq_nil_of_length_eq_zero (by rw [h.1]; simp)
    rw [this] at hy; simp at hy
  · refine ⟨g, rfl, ?_⟩
    rw [cell_of_row _ _ _ _ _ _ hg]
    rw [← a4, List.getElem?_take] at hy
    split at hy
    · simpa using hy
    · cases hy

theorem append_does {P : Program} {c : Cx} {s : St} {β : Pl} {w : World} {T ty : Nat} {ua ub : Value} {a b : X} (H : HRel c s.h β w) (hra : Rep w (Stab c.w0 c.S0 s.h β w) β ua a) (hrb : Rep w (Stab c.w0 c.S0 s.h β w) β ub b)
    (hc : (eAppend P s T a b).cond) : Does P c s β w (Builtin.append_ #[T, T] ty #[ua, ub]) (eAppend P s T a b) := by
  unfold eAppend at hc ⊢
  split at hc
  case h_2 => exact hc.elim
  rename_i e news he hs
  split at hc
  · rename_i k ver
    obtain ⟨hT, hZ, hzl, hpos, hv, hlive, hbx, hty, hsz, ho, hz, hby, hmx⟩ := hc
    obtain ⟨ob, hk, rfl⟩ := verOk_get hv
    simp only [hk, Option.map_some, Option.getD_some] at hbx hty hsz hby hmx ⊢
    obtain ⟨hu, _⟩ := hra.inv_osl
    have hl : ob.live = true := by simpa [liveOk, hk] using hlive
    obtain ⟨hsz', hrows, u', hu', hsh, hcells⟩ := H.objs k ob hk
    rw [hu] at hu'; injection hu' with eu; subst eu
    -- the row as it is owned now
    obtain ⟨xs, hown, hxs⟩ : ∃ xs, w.ownsRow 0 e (szOf P e) ua ob.rows.length xs ∧ ∀ i j x, at2 ob.rows i j = some x → ∃ cc, xs[i * szOf P e + j]? = some cc ∧ cc.oneCell' = true ∧ Rep w (Stab c.w0 c.S0 s.h β w) β cc x := by
      rcases hsh with ⟨rfl, hr0, _⟩ | ⟨_, _, _, _, _, _, _, h0, _⟩ | ⟨g, cap, cur, hg, a1, a2, a3, a4⟩
      · refine ⟨[], ⟨by simp [hr0], .inl ⟨rfl, by simp [hr0]⟩⟩, fun i j x hx => ?_⟩
        rw [hr0] at hx; simp [at2] at hx
      · rw [hbx] at h0; cases h0
      · rw [hbx] at a4
        simp only [Bool.false_eq_true, if_false] at a4
        subst a4
        rw [hsz] at a1
        have hle : ob.rows.length * szOf P e ≤ cap * szOf P e := Nat.mul_le_mul_right _ a2
        refine ⟨cur.toList.take (ob.rows.length * szOf P e), ⟨by simp; omega, .inr ⟨g, cap, cur, rfl, Nat.zero_le _, by rw [← hty]; exact hg, a2, a3, a1, rfl⟩⟩, fun i j x hx => ?_⟩
        obtain ⟨g', cc, hg', hcell, h1c, hrep⟩ := hcells i j x hx
        simp only [blk, Option.some.injEq] at hg'
        subst hg'
        rw [cell_of_row _ _ _ _ _ _ hg, hsz] at hcell
        obtain ⟨hi, hj⟩ := rows_lt hrows hx
        have hle2 : (i + 1) * szOf P e ≤ ob.rows.length * szOf P e := Nat.mul_le_mul_right _ hi
        rw [Nat.add_mul] at hle2
        exact ⟨cc, by rw [List.getElem?_take, if_pos (by omega)]; simpa using hcell, h1c, hrep⟩
    obtain ⟨v', w', cs, hrun, g1, g2, g3, g4, g5⟩ := append_run (ty := ty) H he hT hZ hzl hpos hrb hs ho hz ua ob.rows.length xs hown hby hmx
    have hfa := blk_own (owns_form hown)
    have hfv := blk_own (owns_form g1)
    have hput := H.put hk hl hu { ob with ver := ob.ver + 1, rows := ob.rows ++ news } v' hl (.inr rfl) rfl (w' := w') g2.os g2.tape g2.output g2.size
      (fun b hb hne => g2.block b hb (by rw [← hfa]; exact fun e => hne e.symm)) (fun b hb => by
        rw [hfv] at hb; rw [hfa]
        rcases g3 with h | h
        · rw [h] at hb; exact .inl hb
        · rw [h] at hb; injection hb with hb; exact .inr (by omega))
      (fun r hr => by
        rcases List.mem_append.1 hr with h | h
        · exact hrows r h
        · show _ = ob.sz; rw [hsz]; exact hz r h)
      (owns_shape g1 _ hty hsz (by simp) hbx)
      (fun S' β' tr i j x hx => by
        show ∃ g cc, _ ∧ w'.cell? ⟨g, i * ob.sz + j, none⟩ = some cc ∧ _
        rw [hsz]
        rcases at2_append hx with ⟨hi, hx'⟩ | ⟨hi, hx'⟩
        · obtain ⟨cc, h1, h2, h3⟩ := hxs i j x hx'
          obtain ⟨g, q1, q2⟩ := owns_cell g1 (m := i * szOf P e + j) (y := cc) (by rw [List.getElem?_append_left]; exact h1; exact (List.getElem?_eq_some_iff.1 h1).1)
          exact ⟨g, cc, q1, q2, h2, tr _ _ h3⟩
        · obtain ⟨cc, h1, h3⟩ := g5 _ j x hx'
          have hxl : xs.length = ob.rows.length * szOf P e := hown.1
          obtain ⟨g, q1, q2⟩ := owns_cell g1 (m := i * szOf P e + j) (y := cc) (by
            have hle : ob.rows.length * szOf P e ≤ i * szOf P e := Nat.mul_le_mul_right _ hi
            rw [List.getElem?_append_right (by omega), hxl, ← h1]
            congr 1
            rw [Nat.sub_mul]; omega)
          exact ⟨g, cc, q1, q2, g4 cc (List.mem_of_getElem? h1), tr _ _ h3⟩)
    refine ⟨v', w', _, hrun, hput.1, hput.2, .osl _ _ _ (Pl.set_same _ _ _ _ _) ?_⟩
    rcases owns_form g1 with rfl | ⟨_, _, _, rfl⟩ <;> rfl
  · obtain ⟨hT, hZ, hzl, hpos, ho, hz, hby, hmx⟩ := hc
    obtain ⟨rfl, _⟩ := hra.inv_v
    obtain ⟨v', w', cs, hrun, g1, g2, g3, g4, g5⟩ := append_run (ty := ty) H he hT hZ hzl hpos hrb hs ho hz (.slice none 0 0) 0 [] (World.ownsRow_nil w 0 e _) (by simpa using hby) (by simpa using hmx)
    simp only [Nat.zero_add, List.nil_append] at g1
    have hfv := blk_own (owns_form g1)
    have hpush := H.push (w' := w') (grown_below g2 rfl) ⟨e, szOf P e, 0, news, false, true, none⟩ v' rfl hz (owns_shape g1 _ rfl rfl rfl rfl) (fun b hb => by
        rw [hfv] at hb
        rcases g3 with h | h
        · rw [h] at hb; cases hb
        · rw [h] at hb; injection hb with hb; omega)
      (fun S' β' tr i j x hx => by
        obtain ⟨cc, h1, h3⟩ := g5 _ j x hx
        obtain ⟨g, q1, q2⟩ := owns_cell g1 h1
        exact ⟨g, cc, q1, q2, g4 cc (List.mem_of_getElem? h1), tr _ _ h3⟩)
    refine ⟨v', w', _, hrun, hpush.1, hpush.2, .osl _ _ _ (Pl.set_same _ _ _ _ _) ?_⟩
    rcases owns_form g1 with rfl | ⟨_, _, _, rfl⟩ <;> rfl
  · rename_i k ver off len
    obtain ⟨hT, hv, hlive, hbx, hty, hsz, ho, hz, hfit⟩ := hc
    obtain ⟨ob, hk, rfl⟩ := verOk_get hv
    simp only [hk, Option.map_some, Option.getD_some] at hbx hty hsz hfit ⊢
    have hl : ob.live = true := by simpa [liveOk, hk] using hlive
    obtain ⟨i, hi, hs', hb'⟩ := okT_info hT
    obtain ⟨hszk, hrows, u', hu', hsh, hcells⟩ := H.objs k ob hk
    rcases Nat.eq_zero_or_pos news.length with hn0 | hnpos
    · -- nothing is appended
      have hn : news = [] := List.eq_nil_of_length_eq_zero hn0
      subst hn
      have hset : s.h.set k { ob with rows := ob.rows.take (off + len) ++ ([] ++ ob.rows.drop (off + len + ([] : List (List X)).length)) } = s.h := by
        have : ({ ob with rows := ob.rows.take (off + len) ++ ([] ++ ob.rows.drop (off + len + ([] : List (List X)).length)) } : Ob) = ob := by simp
        rw [this]
        exact List.ext_getElem? fun m => by
          by_cases e : m = k
          · subst e; rw [List.getElem?_set_self (List.getElem?_eq_some_iff.1 hk).1, hk]
          · rw [List.getElem?_set_ne (Ne.symm e)]
      have hb0 : ∃ a cp, ub = .slice a 0 cp := by
        rcases src_read H hrb hs ho hz with ⟨_, a, cp, h⟩ | ⟨ad, cp, nw, h, _⟩
        · exact ⟨a, cp, h⟩
        · exact ⟨some ad, cp, h⟩
      obtain ⟨a', cp, rfl⟩ := hb0
      have ha : ∃ a cc, ua = .slice a len cc ∧ len ≤ cc := by
        cases hra with
        | osub0 _ _ _ a _ _ _ => exact ⟨a, 0, rfl, Nat.le_refl _⟩
        | osub _ _ _ _ g cc nn cap hcp hoc hu => exact ⟨_, cc, rfl, hcp⟩
      obtain ⟨a, cc, rfl, hcc⟩ := ha
      have hrun : (Builtin.append_ #[T, T] ty #[.slice a len cc, .slice a' 0 cp]).run P w = .ok (.slice a len cc) w := by
        cases a' with
        | none => cases a <;> simp [Builtin.append_, run_underlying (slEl_eq he), sizeOf, typeInfo, hi, Builtin.lenOf, Builtin.firstCells, hcc, storeCells]
        | some ad' =>
          have hf := run_firstCells_some (P := P) w i.size 0 ad' 0 cp [] (by simp) (by simp)
          cases a <;> simp [Builtin.append_, run_underlying (slEl_eq he), sizeOf, typeInfo, hi, Builtin.lenOf, hf, hcc, storeCells]
      simp only [hset]
      exact ⟨_, w, β, hrun, H, fun _ _ h => h, hra⟩
    · cases hra with
      | osub0 _ _ _ a u hu hz0 =>
        exfalso
        rw [hu] at hu'; injection hu' with eu; subst eu
        rcases hz0 with ⟨rfl, _⟩ | ⟨g, nn, rfl⟩
        · rcases hsh with ⟨_, h0, _⟩ | ⟨_, _, _, _, h, _⟩ | ⟨g, cap, cur, _, _, _, _, h⟩
          · have h9 : ob.rows.length = 0 := by rw [h0]; rfl
            omega
          · cases h
          · rw [hbx] at h; cases h
        · rcases hsh with ⟨h, _⟩ | ⟨_, _, _, _, h, _⟩ | ⟨g', cap, cur, _, _, hle, _, h⟩
          · cases h
          · cases h
          · rw [hbx] at h
            simp only [Bool.false_eq_true, if_false] at h
            injection h with _ _ h3
            omega
      | osub _ _ _ _ g cc nn cap hcp hoc hu =>
        rw [hu] at hu'; injection hu' with eu; subst eu
        rcases hsh with ⟨h, _⟩ | ⟨_, _, _, _, h, _⟩ | ⟨g', cap', cur, hcur, hcs, hle, hmax, h⟩
        · cases h
        · cases h
        rw [hbx] at h
        simp only [Bool.false_eq_true, if_false] at h
        injection h with h1 h2 h3
        injection h1 with h1
        injection h1 with h1
        subst h1 h2 h3
        rcases src_read H hrb hs ho hz with ⟨h, _⟩ | ⟨ad, cp, nw, rfl, q1, q2, q3, q4⟩
        · rw [h] at hnpos; simp at hnpos
        have hW := H.rowsW hk hl hbx hu hcur hcs hle hmax nw news (off + len) hfit (by rw [hsz]; exact q1) q3 (by rw [hsz]; exact hz) (by rw [hsz]; exact q4)
        have hle2 : (off + len + news.length) * ob.sz ≤ cap * ob.sz := Nat.mul_le_mul_right _ (by omega)
        rw [Nat.add_mul, Nat.add_mul] at hle2
        have hst := run_storeCells_at (P := P) g (off * ob.sz + len * ob.sz) e nw 0 cur w (by rw [← hty]; exact hcur) (by rw [q1, ← hsz]; omega) q3
        have hf := run_firstCells_some (P := P) w i.size news.length ad news.length cp nw (by rw [q1, hs']) q2
        have hroom : len + news.length ≤ cc := by omega
        simp only [Nat.add_zero] at hst
        have hrun : (Builtin.append_ #[T, T] ty #[.slice (some ⟨g, off * β.sz k, none⟩) len cc, .slice (some ad) news.length cp]).run P w = .ok (.slice (some ⟨g, off * β.sz k, none⟩) (len + news.length) cc) (w.setRow g (cur.toList.take ((off + len) * ob.sz) ++ nw ++ cur.toList.drop ((off + len) * ob.sz + nw.length)).toArray) := by
          rw [Nat.add_mul]
          have hsi : i.size = ob.sz := by rw [hsz, hs']
          rw [hsi] at hf
          simp [Builtin.append_, run_underlying (slEl_eq he), sizeOf, typeInfo, hi, Builtin.lenOf, hroom, hsi, hf, Addr.add_lit, hszk, hst]
        refine ⟨_, _, _, hrun, hW.1, hW.2, ?_⟩
        have := Rep.osub (w := w.setRow g (cur.toList.take ((off + len) * ob.sz) ++ nw ++ cur.toList.drop ((off + len) * ob.sz + nw.length)).toArray) (S := Stab c.w0 c.S0 (s.h.set k { ob with rows := ob.rows.take (off + len) ++ (news ++ ob.rows.drop (off + len + news.length)) }) (β.set k ob.ver (.slice (some ⟨g, 0, none⟩) ob.rows.length cap) ob.sz) (w.setRow g (cur.toList.take ((off + len) * ob.sz) ++ nw ++ cur.toList.drop ((off + len) * ob.sz + nw.length)).toArray)) (β := β.set k ob.ver (.slice (some ⟨g, 0, none⟩) ob.rows.length cap) ob.sz) k ob.ver off (len + news.length) g cc ob.rows.length cap hroom hoc (Pl.set_same _ _ _ _ _)
        have hss : (β.set k ob.ver (.slice (some ⟨g, 0, none⟩) ob.rows.length cap) ob.sz).sz k = β.sz k := by simp [Pl.set, hszk]
        rw [hss] at this
        exact this
  · exact hc.elim

end Go.Abs

namespace Go.Abs
open Go.RowKit

/-! ### slices -/
/-- a bound: what was typed, or the default -/
def bnd (d : Nat) : Option X → Option Int
  | none => some d
  | some (.v (.int _ n)) => some n
  | _ => none

def eSlice (P : Program) (s : St) (T : Nat) (x : X) (lo hi mx : Option X) : Eff :=
  match mx with
  | some m => match x with
    | .osl k ver => match slEl P T, bnd 0 lo, bnd 0 hi, bnd 0 (some m) with
      | some e, some l, some h, some z => ⟨okT P e = true ∧ hi.isSome = true ∧ verOk s.h k ver ∧ ((s.h[k]?.map (·.bx)).getD true) = false ∧ 0 ≤ l ∧ l ≤ h ∧ h ≤ z ∧ z ≤ ((s.h[k]?.map (·.rows)).getD []).length, .top, s.h⟩
      | _, _, _, _ => ⟨False, .top, s.h⟩
    | _ => ⟨False, .top, s.h⟩
  | none => match x with
    | .v (.string b) => match bnd 0 lo, bnd b.size hi with
      | some l, some h => ⟨isStr P T = true ∧ 0 ≤ l ∧ l ≤ h ∧ h ≤ b.size, .v (.string (b.extract l.toNat h.toNat)), s.h⟩
      | _, _ => ⟨False, .top, s.h⟩
    | .sl rows => match slEl P T, bnd 0 lo, bnd rows.length hi with
      | some e, some l, some h => ⟨okT P e = true ∧ (∀ r ∈ rows, r.length = szOf P e) ∧ 0 ≤ l ∧ l ≤ h ∧ h ≤ rows.length, .sl ((rows.drop l.toNat).take (h.toNat - l.toNat)), s.h⟩
      | _, _, _ => ⟨False, .top, s.h⟩
    | .osl k ver => match slEl P T, bnd 0 lo, bnd ((s.h[k]?.map (·.rows)).getD []).length hi with
      | some e, some l, some h => ⟨okT P e = true ∧ verOk s.h k ver ∧ ((s.h[k]?.map (·.bx)).getD true) = false ∧ ((s.h[k]?.map (·.sz)).getD 0) = szOf P e ∧ 0 ≤ l ∧ l ≤ h ∧ h ≤ ((s.h[k]?.map (·.rows)).getD []).length, .osub k ver l.toNat (h.toNat - l.toNat), s.h⟩
      | _, _, _ => ⟨False, .top, s.h⟩
    | .osub k ver off len => match slEl P T, bnd 0 lo, bnd len hi with
      | some e, some l, some h => ⟨okT P e = true ∧ verOk s.h k ver ∧ ((s.h[k]?.map (·.sz)).getD 0) = szOf P e ∧ 0 ≤ l ∧ l ≤ h ∧ (h ≤ len ∨ (((s.h[k]?.map (·.bx)).getD true) = false ∧ off + h.toNat ≤ ((s.h[k]?.map (·.rows)).getD []).length)), .osub k ver (off + l.toNat) (h.toNat - l.toNat), s.h⟩
      | _, _, _ => ⟨False, .top, s.h⟩
    | _ => ⟨False, .top, s.h⟩

theorem bnd_run {P : Program} {w : World} {S : Nat → Prop} {β : Pl} (v : Value) (x : X) (n : Int) (d y : Nat) (code : BoundsCode) (hr : Rep w S β v x) (hb : bnd d (some x) = some n) (hn0 : 0 ≤ n) (hn1 : n ≤ y) : (Instr.sliceBound v y code).run P w = .ok n.toNat w := by
  cases x with
  | v y' =>
    obtain ⟨rfl, _⟩ := hr.inv_v
    cases v with
    | int k m =>
      simp only [bnd, Option.some.injEq] at hb
      subst hb
      exact run_sliceBound _ k m y code hn0 hn1
    | _ => simp [bnd] at hb
  | _ => simp [bnd] at hb

theorem run_bounds {P : Program} {w : World} {S : Nat → Prop} {β : Pl} (isS : Bool) (len cap : Nat) (lo hi : Option Value) (xlo xhi : Option X) (l h : Int)
    (hlo : ∀ v, lo = some v → ∃ x, xlo = some x ∧ Rep w S β v x) (hlo' : lo = none → xlo = none) (hhi : ∀ v, hi = some v → ∃ x, xhi = some x ∧ Rep w S β v x) (hhi' : hi = none → xhi = none)
    (hl : bnd 0 xlo = some l) (hh : bnd len xhi = some h) (h0 : 0 ≤ l) (h1 : l ≤ h) (h2 : h ≤ cap) (_hc : len ≤ cap) : (Instr.sliceBounds isS len cap lo hi none).run P w = .ok (l.toNat, h.toNat, cap) w := by
  have bd : ∀ (v : Value) (x : X) (n : Int) (d y : Nat) (code : BoundsCode), Rep w S β v x → bnd d (some x) = some n → 0 ≤ n → n ≤ y → (Instr.sliceBound v y code).run P w = .ok n.toNat w := by
    intro v x n d y code hr hb hn0 hn1
    cases x with
    | v y' =>
      obtain ⟨rfl, _⟩ := hr.inv_v
      cases v with
      | int k m =>
        simp only [bnd, Option.some.injEq] at hb
        subst hb
        exact run_sliceBound _ k m y code hn0 hn1
      | _ => simp [bnd] at hb
    | _ => simp [bnd] at hb
  cases hi with
  | none =>
    have := hhi' rfl
    subst this
    simp only [bnd, Option.some.injEq] at hh
    subst hh
    cases lo with
    | none =>
      have := hlo' rfl
      subst this
      simp only [bnd, Option.some.injEq] at hl
      subst hl
      simp [Instr.sliceBounds]
    | some v =>
      obtain ⟨x, rfl, hr⟩ := hlo v rfl
      simp [Instr.sliceBounds, bd v x l 0 len _ hr hl h0 (by omega)]
  | some vh =>
    obtain ⟨xh, rfl, hrh⟩ := hhi vh rfl
    cases lo with
    | none =>
      have := hlo' rfl
      subst this
      simp only [bnd, Option.some.injEq] at hl
      subst hl
      simp [Instr.sliceBounds, bd vh xh h len cap _ hrh hh (by omega) (by omega)]
    | some v =>
      obtain ⟨x, rfl, hr⟩ := hlo v rfl
      simp [Instr.sliceBounds, bd vh xh h len cap _ hrh hh (by omega) (by omega), bd v x l 0 h.toNat _ hr hl h0 (by omega)]

theorem run_slice_sl {P : Program} {w : World} {T e : Nat} (he : slEl P T = some e) (hT : okT P e = true) (a : Option Addr) (len cap l h : Nat) (lo hi : Option Value) (hb : (Instr.sliceBounds true len cap lo hi none).run P w = .ok (l, h, cap) w) :
    (Instr.sliceAt T (.slice a len cap) lo hi none).run P w = .ok (.slice (if cap = l then a else a.map (·.add (l * szOf P e))) (h - l) (cap - l)) w := by
  simp only [Instr.sliceAt, Instr.slice, Sem.run_bind, run_underlying (slEl_eq he), Result.andThen_ok, hb, run_sizeOf hT, Sem.run_pure]

theorem slice_does {P : Program} {c : Cx} {s : St} {β : Pl} {w : World} {T : Nat} {u : Value} {x : X} {lo hi : Option Value} {xlo xhi xmx : Option X} {mx : Option Value} (H : HRel c s.h β w) (hr : Rep w (Stab c.w0 c.S0 s.h β w) β u x)
    (hlo : ∀ v, lo = some v → ∃ x, xlo = some x ∧ Rep w (Stab c.w0 c.S0 s.h β w) β v x) (hlo' : lo = none → xlo = none) (hhi : ∀ v, hi = some v → ∃ x, xhi = some x ∧ Rep w (Stab c.w0 c.S0 s.h β w) β v x) (hhi' : hi = none → xhi = none) (hmx : xmx = none → mx = none)
    (hmx' : ∀ x, xmx = some x → ∃ v, mx = some v ∧ Rep w (Stab c.w0 c.S0 s.h β w) β v x)
    (hc : (eSlice P s T x xlo xhi xmx).cond) : Does P c s β w (Instr.sliceAt T u lo hi mx) (eSlice P s T x xlo xhi xmx) := by
  unfold eSlice at hc ⊢
  split at hc
  · rename_i m
    split at hc
    · rename_i k ver
      split at hc
      · rename_i e l h z he hl hh hz
        obtain ⟨hT, hsome, hv, hbx, h0, h1, h2, h3⟩ := hc
        obtain ⟨ob, hk, rfl⟩ := verOk_get hv
        simp only [hk, Option.map_some, Option.getD_some] at hbx h3
        obtain ⟨hu, _⟩ := hr.inv_osl
        obtain ⟨vm, rfl, hrm⟩ := hmx' _ rfl
        obtain ⟨a, n, cap, rfl, hcap⟩ : ∃ a n cap, u = .slice a n cap ∧ ob.rows.length ≤ cap := by
          rcases H.arr hk hv hu hbx with ⟨rfl, hr0⟩ | ⟨g, cap, rfl, hcap⟩
          · exact ⟨_, _, _, rfl, by rw [hr0]; simp⟩
          · exact ⟨_, _, _, rfl, hcap⟩
        obtain ⟨xh, rfl⟩ := Option.isSome_iff_exists.1 hsome
        obtain ⟨vh, hvh, hrh⟩ : ∃ v, hi = some v ∧ Rep w (Stab c.w0 c.S0 s.h β w) β v xh := by
          cases hi with
          | none => exact absurd (hhi' rfl) (by simp)
          | some v => obtain ⟨x, h1, h2⟩ := hhi v rfl; injection h1 with h1; subst h1; exact ⟨v, rfl, h2⟩
        subst hvh
        have b1 : ∀ code, (Instr.sliceBound vm cap code).run P w = .ok z.toNat w := fun code => bnd_run vm m z 0 cap code hrm hz (by omega) (by omega)
        have b2 : ∀ code, (Instr.sliceBound vh z.toNat code).run P w = .ok h.toNat w := fun code => bnd_run vh xh h 0 z.toNat code hrh hh (by omega) (by omega)
        have hb : (Instr.sliceBounds true n cap lo (some vh) (some vm)).run P w = .ok (l.toNat, h.toNat, z.toNat) w := by
          cases lo with
          | none =>
            have := hlo' rfl
            subst this
            simp only [bnd, Option.some.injEq] at hl
            subst hl
            simp [Instr.sliceBounds, b1, b2]
          | some v =>
            obtain ⟨x, rfl, hrl⟩ := hlo v rfl
            have b3 : ∀ code, (Instr.sliceBound v h.toNat code).run P w = .ok l.toNat w := fun code => bnd_run v x l 0 h.toNat code hrl hl h0 (by omega)
            simp [Instr.sliceBounds, b1, b2, b3]
        refine Does.pure H (v := .slice (if z.toNat = l.toNat then a else a.map (·.add (l.toNat * szOf P e))) (h.toNat - l.toNat) (z.toNat - l.toNat)) ?_ (.top _)
        simp only [Instr.sliceAt, Instr.slice, Sem.run_bind, run_underlying (slEl_eq he), Result.andThen_ok, hb, run_sizeOf hT, Sem.run_pure]
      · exact hc.elim
    · exact hc.elim
  rw [hmx rfl]
  split at hc
  · rename_i b
    obtain ⟨rfl, _⟩ := hr.inv_v
    split at hc
    · rename_i l h hl hh
      obtain ⟨hT, h0, h1, h2⟩ := hc
      have hb := run_bounds (P := P) false b.size b.size lo hi xlo xhi l h hlo hlo' hhi hhi' hl hh h0 h1 h2 (Nat.le_refl _)
      refine Does.pure H ?_ (.v _ rfl)
      simp only [Instr.sliceAt, Instr.slice, Sem.run_bind, run_underlying (isStr_eq hT), Result.andThen_ok, Option.isSome_none, Bool.false_eq_true, if_false, Sem.run_pure, hb]
    · exact hc.elim
  · rename_i rows
    split at hc
    · rename_i e l h he hl hh
      obtain ⟨hT, hz, h0, h1, h2⟩ := hc
      rcases hr.inv_sl with ⟨rfl, a, cp, rfl⟩ | ⟨ad, cp, sz, cs, rfl, hcp, hs, hzz, hcell, h1c, hrep⟩
      · have hb := run_bounds (P := P) true 0 cp lo hi xlo xhi l h hlo hlo' hhi hhi' hl hh h0 h1 (by simp at h2; omega) (Nat.zero_le _)
        refine Does.pure H (run_slice_sl he hT _ _ _ _ _ _ _ hb) ?_
        have e1 : h.toNat - l.toNat = 0 := by simp at h2; omega
        rw [e1]
        simp only [List.drop_nil, List.take_nil]
        exact .nil _ _
      · have hb := run_bounds (P := P) true rows.length cp lo hi xlo xhi l h hlo hlo' hhi hhi' hl hh h0 h1 (by omega) hcp
        refine Does.pure H (run_slice_sl he hT _ _ _ _ _ _ _ hb) ?_
        have hlen : ((rows.drop l.toNat).take (h.toNat - l.toNat)).length = h.toNat - l.toNat := by simp; omega
        rcases Nat.eq_zero_or_pos (h.toNat - l.toNat) with e0 | hpos
        · rw [e0]; simp only [List.take_zero]; exact .nil _ _
        · rw [if_neg (by omega)]
          have hlr : l.toNat < rows.length := by omega
          have hsz : sz = szOf P e := by rw [← hzz rows[l.toNat] (List.getElem_mem _), hz rows[l.toNat] (List.getElem_mem _)]
          have hat : ∀ i j x, at2 ((rows.drop l.toNat).take (h.toNat - l.toNat)) i j = some x → at2 rows (l.toNat + i) j = some x := by
            intro i j x hx
            simp only [at2, List.getElem?_take, List.getElem?_drop] at hx
            split at hx
            · exact hx
            · cases hx
          have := Rep.sl (w := w) (S := Stab c.w0 c.S0 s.h β w) (β := β) (ad.add (l.toNat * szOf P e)) (cp - l.toNat) sz ((rows.drop l.toNat).take (h.toNat - l.toNat)) (fun i j => cs (l.toNat + i) j) (by rw [hlen]; omega) (by rw [add_block]; exact hs)
            (fun r hr => hzz r (List.mem_of_mem_drop (List.mem_of_mem_take hr))) (fun i j hi hj => by
              rw [hlen] at hi
              rw [add_add', ← hsz, ← Nat.add_assoc, ← Nat.add_mul]; exact hcell _ j (by omega) hj) (fun i j => h1c _ _) (fun i j x hx => hrep _ j x (hat i j x hx))
          rw [hlen] at this
          exact this
    · exact hc.elim
  · rename_i k ver
    split at hc
    · rename_i e l h he hl hh
      obtain ⟨hT, hv, hbx, hsz, h0, h1, h2⟩ := hc
      obtain ⟨ob, hk, rfl⟩ := verOk_get hv
      simp only [hk, Option.map_some, Option.getD_some] at hbx hsz hh h2
      obtain ⟨hu, _⟩ := hr.inv_osl
      rcases H.arr hk hv hu hbx with ⟨rfl, hr0⟩ | ⟨g, cap, rfl, hcap⟩
      · rw [hr0] at hh h2
        have hb := run_bounds (P := P) true 0 0 lo hi xlo xhi l h hlo hlo' hhi hhi' hl hh h0 h1 (by simpa using h2) (Nat.le_refl _)
        refine Does.pure H (run_slice_sl he hT _ _ _ _ _ _ _ hb) ?_
        have e1 : h.toNat = 0 := by simp at h2; omega
        have e2 : l.toNat = 0 := by omega
        rw [e1, e2]
        exact .osub0 _ _ _ _ _ hu (.inl ⟨rfl, rfl⟩)
      · have hb := run_bounds (P := P) true ob.rows.length cap lo hi xlo xhi l h hlo hlo' hhi hhi' hl hh h0 h1 (by omega) hcap
        refine Does.pure H (run_slice_sl he hT _ _ _ _ _ _ _ hb) ?_
        by_cases e0 : cap = l.toNat
        · have e1 : h.toNat - l.toNat = 0 := by omega
          have e2 : cap - l.toNat = 0 := by omega
          rw [e1, e2]; exact .osub0 _ _ _ _ _ hu (.inr ⟨g, _, by rw [← e0]⟩)
        · rw [if_neg e0]
          have hszk : β.sz k = szOf P e := by rw [← hsz]; exact (H.objs k ob hk).1
          have := Rep.osub (w := w) (S := Stab c.w0 c.S0 s.h β w) (β := β) k ob.ver l.toNat (h.toNat - l.toNat) g (cap - l.toNat) _ _ (by omega) (by omega) hu
          simp only [Option.map_some, add_none, Nat.zero_add]
          rw [← hszk]
          exact this
    · exact hc.elim
  · rename_i k ver off len
    split at hc
    · rename_i e l h he hl hh
      obtain ⟨hT, hv, hsz, h0, h1, h2⟩ := hc
      obtain ⟨ob, hk, rfl⟩ := verOk_get hv
      simp only [hk, Option.map_some, Option.getD_some] at hsz
      simp only [hk, Option.map_some, Option.getD_some] at h2
      cases hr with
      | osub0 _ _ _ a uo hu hz0 =>
        have e1 : h.toNat = 0 := by
          rcases h2 with h2 | ⟨hbx, h2⟩
          · simp at h2; omega
          · rcases hz0 with ⟨rfl, _⟩ | ⟨g, nn, rfl⟩
            · rcases H.arr hk hv hu hbx with ⟨_, hr0⟩ | ⟨g, cap, h, _⟩
              · rw [hr0] at h2; simp at h2; omega
              · cases h
            · rcases H.arr hk hv hu hbx with ⟨h, _⟩ | ⟨g, cap, h, hcap⟩
              · cases h
              · injection h with _ _ h; omega
        have e2 : l.toNat = 0 := by omega
        have hb := run_bounds (P := P) true 0 0 lo hi xlo xhi l h hlo hlo' hhi hhi' hl hh h0 h1 (by omega) (Nat.le_refl _)
        refine Does.pure H (run_slice_sl he hT _ _ _ _ _ _ _ hb) ?_
        rw [e1, e2]
        exact .osub0 _ _ _ _ _ hu hz0
      | osub _ _ _ _ g cp nn cap hcp hoc hu =>
        have hhc : h.toNat ≤ cp := by
          rcases h2 with h2 | ⟨hbx, h2⟩
          · omega
          · rcases H.arr hk hv hu hbx with ⟨h, _⟩ | ⟨g, cap, h, hcap⟩
            · cases h
            · injection h with _ _ h; omega
        have hb := run_bounds (P := P) true len cp lo hi xlo xhi l h hlo hlo' hhi hhi' hl hh h0 h1 (by omega) hcp
        refine Does.pure H (run_slice_sl he hT _ _ _ _ _ _ _ hb) ?_
        by_cases e0 : cp = l.toNat
        · have e1 : h.toNat - l.toNat = 0 := by omega
          have e2 : cp - l.toNat = 0 := by omega
          rw [e1, e2]; exact .osub0 _ _ _ _ _ hu (.inr ⟨g, nn, by rw [← e0, hoc]⟩)
        · rw [if_neg e0]
          have hszk : β.sz k = szOf P e := by rw [← hsz]; exact (H.objs k ob hk).1
          have := Rep.osub (w := w) (S := Stab c.w0 c.S0 s.h β w) (β := β) k ob.ver (off + l.toNat) (h.toNat - l.toNat) g (cp - l.toNat) _ _ (by omega) (by omega) hu
          simp only [Option.map_some, add_none]
          rw [← hszk, ← Nat.add_mul]
          exact this
    · exact hc.elim
  · exact hc.elim

/-! ### small ones -/
def eIndex (P : Program) (s : St) (T : Nat) (x i : X) : Eff :=
  match x, i with
  | .v (.string b), .v (.int _ n) => ⟨isStr P T = true ∧ 0 ≤ n ∧ n.toNat < b.size, .v (.int .u8 ((b.data.toList.getD n.toNat 0).toNat : Int)), s.h⟩
  | .agg cells, .v (.int _ n) => match arEl P T with
    | some (l, e) => ⟨okT P e = true ∧ 0 ≤ n ∧ n.toNat < l ∧ n.toNat * szOf P e + need P e ≤ cells.length, ldX (isAg P e) (szOf P e) (cells.drop (n.toNat * szOf P e)), s.h⟩
    | none => ⟨False, .top, s.h⟩
  | _, _ => ⟨False, .top, s.h⟩

theorem index_does {P : Program} {c : Cx} {s : St} {β : Pl} {w : World} {T : Nat} {u ui : Value} {x i : X} (H : HRel c s.h β w) (hr : Rep w (Stab c.w0 c.S0 s.h β w) β u x) (hi : Rep w (Stab c.w0 c.S0 s.h β w) β ui i)
    (hc : (eIndex P s T x i).cond) : Does P c s β w (Instr.index T u ui) (eIndex P s T x i) := by
  unfold eIndex at hc ⊢
  split at hc
  · rename_i b k n
    obtain ⟨rfl, _⟩ := hr.inv_v
    obtain ⟨rfl, _⟩ := hi.inv_v
    obtain ⟨hT, h0, h1⟩ := hc
    refine Does.pure H ?_ (.v _ rfl)
    have e1 : b[n.toNat]? = some (b.data.toList.getD n.toNat 0) := by
      have h2 : n.toNat < b.data.size := h1
      rw [getElem?_pos b n.toNat h1]
      have h3 : b.data[n.toNat]? = some (b.data[n.toNat]'h2) := Array.getElem?_eq_getElem h2
      simp [List.getD, h3]
      rfl
    simp [Instr.index, asIntOf, run_underlying (isStr_eq hT), h0, e1]
  · rename_i cells k n
    obtain ⟨rfl, _⟩ := hi.inv_v
    split at hc
    · rename_i l e he
      obtain ⟨cs, rfl, hl, h1, hrep⟩ := hr.inv_agg
      obtain ⟨hT, h0, hlt, hn⟩ := hc
      have hb : 0 ≤ n ∧ n < (l : Int) := ⟨h0, by omega⟩
      refine Does.pure H (v := if isAg P e then .agg ((List.range (szOf P e)).map fun j => cs.getD (n.toNat * szOf P e + j) undef).toArray else cs.getD (n.toNat * szOf P e + 0) undef) ?_ (rep_ld (cs := fun j => cs.getD (n.toNat * szOf P e + j) undef) ?_ ?_ ?_)
      · simp [Instr.index, asIntOf, run_underlying (arEl_eq he), hb, run_sizeOf hT, run_part hT (by omega : n.toNat * szOf P e + need P e ≤ cs.size)]
      · simp only [List.length_drop]; unfold need at hn; omega
      · intro j hj
        simp at hj
        have : cs[n.toNat * szOf P e + j]? = some (cs[n.toNat * szOf P e + j]'(by omega)) := Array.getElem?_eq_getElem (by omega)
        simp only [Array.getD_eq_getD_getElem?, this, Option.getD_some]
        exact h1 _ (Array.getElem_mem _)
      · intro j x hx
        rw [List.getElem?_drop] at hx
        have hj : n.toNat * szOf P e + j < cells.length := (List.getElem?_eq_some_iff.1 hx).1
        have : cs[n.toNat * szOf P e + j]? = some (cs[n.toNat * szOf P e + j]'(by omega)) := Array.getElem?_eq_getElem (by omega)
        simp only [Array.getD_eq_getD_getElem?, this, Option.getD_some]
        exact hrep _ x _ hx this
    · exact hc.elim
  · exact hc.elim

def eExtract (s : St) (x : X) (i : Nat) : Eff :=
  match x with
  | .tup xs => ⟨i < xs.length, xs.getD i .top, s.h⟩
  | _ => ⟨False, .top, s.h⟩
theorem extract_does {P : Program} {c : Cx} {s : St} {β : Pl} {w : World} {u : Value} {x : X} {i : Nat} (H : HRel c s.h β w) (hr : Rep w (Stab c.w0 c.S0 s.h β w) β u x) (hc : (eExtract s x i).cond) :
    Does P c s β w (Instr.extract u i) (eExtract s x i) := by
  unfold eExtract at hc ⊢
  split at hc
  · rename_i xs
    obtain ⟨cs, rfl, hl, hrep⟩ := hr.inv_tup
    have hi : i < cs.size := by rw [hl]; exact hc
    refine Does.pure H (v := cs[i]) (by simp [Instr.extract, Array.getElem?_eq_getElem hi]) (hrep i _ _ ?_ (Array.getElem?_eq_getElem hi))
    have hc' : i < xs.length := hc
    simp [List.getD, hc']
  · exact hc.elim

def eUn (s : St) (op : UnOp) (x : X) : Eff :=
  match op, x with
  | .not, .v (.bool b) => ⟨True, .v (.bool !b), s.h⟩
  | .neg, .v (.int k n) => ⟨True, .v (.int k (k.wrap (0 - n))), s.h⟩
  | _, _ => ⟨False, .top, s.h⟩
theorem un_does {P : Program} {c : Cx} {s : St} {β : Pl} {w : World} {op : UnOp} {u : Value} {x : X} (H : HRel c s.h β w) (hr : Rep w (Stab c.w0 c.S0 s.h β w) β u x) (hc : (eUn s op x).cond) : Does P c s β w (Op.unary op u) (eUn s op x) := by
  unfold eUn at hc ⊢
  split at hc
  · obtain ⟨rfl, _⟩ := hr.inv_v; exact Does.pure H rfl (.v _ rfl)
  · obtain ⟨rfl, _⟩ := hr.inv_v; exact Does.pure H rfl (.v _ rfl)
  · exact hc.elim

/-- bytes, as numbers -/
def bys : List (List X) → Option (List Int)
  | [] => some []
  | [.v (.int .u8 n)] :: l => (bys l).map (n :: ·)
  | _ => none
def mkS (ns : List Int) : ByteArray := ns.foldl (fun r n => r.push (UInt8.ofNat n.toNat)) ByteArray.empty
def byteSl (P : Program) (T : Nat) : Bool := match P.underlying T with | some (.slice e) => (match P.underlying e with | some (.int .u8) => true | _ => false) | _ => false
theorem byteSl_eq {P : Program} {T : Nat} (h : byteSl P T = true) : ∃ e, P.underlying T = some (.slice e) ∧ P.underlying e = some (.int .u8) := by
  unfold byteSl at h
  split at h
  · rename_i e he
    split at h
    · exact ⟨e, he, by assumption⟩
    · cases h
  · cases h
theorem bys_get : ∀ {rows : List (List X)} {ns : List Int}, bys rows = some ns → ns.length = rows.length ∧ ∀ (i : Nat) (n : Int), ns[i]? = some n → rows[i]? = some [X.v (.int .u8 n)]
  | [], ns, h => by
    simp only [bys, Option.some.injEq] at h
    subst h
    exact ⟨rfl, by simp⟩
  | r :: rows, ns, h => by
    unfold bys at h
    split at h
    · rename_i e; cases e
    · rename_i n l e
      cases e
      cases hq : bys rows with
      | none => rw [hq] at h; cases h
      | some ms =>
        rw [hq] at h
        injection h with h
        subst h
        obtain ⟨h1, h2⟩ := bys_get hq
        refine ⟨by simp [h1], fun i m hm => ?_⟩
        cases i with
        | zero => simp at hm; subst hm; rfl
        | succ i => simpa using h2 i m (by simpa using hm)
    · cases h
theorem run_bytes {P : Program} {src dst : Nat} {w : World} {a : Addr} {cap : Nat} {ns : List Int} (hs : byteSl P src = true) (hd : isStr P dst = true) (h : ∀ (i : Nat) (n : Int), ns[i]? = some n → w.cell? (a.add i) = some (.int .u8 n)) :
    (convert src dst (.slice (some a) ns.length cap)).run P w = .ok (.string (mkS ns)) w := by
  obtain ⟨e, h1, h2⟩ := byteSl_eq hs
  rw [run_convert_bytes_string w src dst e (some a) ns.length cap h1 h2 (isStr_eq hd)]
  refine run_bytesToString w a ns.length cap ns ?_
  have := run_loadCells_list (P := P) w a (ns.map (Value.int .u8)) (fun j v hv => by
    rw [List.getElem?_map] at hv
    cases hq : ns[j]? with
    | none => rw [hq] at hv; cases hv
    | some n => rw [hq] at hv; injection hv with hv; subst hv; exact h j n hq)
  simpa using this

def eConv (P : Program) (s : St) (src dst : Nat) (x : X) : Eff :=
  match x with
  | .v (.int _ n) => match inK P dst with
    | some k => ⟨okT P src = true, .v (.int k (k.wrap n)), s.h⟩
    | none => ⟨False, .top, s.h⟩
  | .v (.string b) => ⟨okT P src = true ∧ isStr P dst = true, .v (.string b), s.h⟩
  | .sl rows => match bys rows with
    | some ns => ⟨byteSl P src = true ∧ isStr P dst = true ∧ 0 < rows.length, .v (.string (mkS ns)), s.h⟩
    | none => ⟨False, .top, s.h⟩
  | .osl k ver => match bys ((s.h[k]?.map (·.rows)).getD []) with
    | some ns => ⟨byteSl P src = true ∧ isStr P dst = true ∧ verOk s.h k ver ∧ ((s.h[k]?.map (·.bx)).getD true) = false ∧ 0 < ((s.h[k]?.map (·.rows)).getD []).length, .v (.string (mkS ns)), s.h⟩
    | none => ⟨False, .top, s.h⟩
  | _ => ⟨False, .top, s.h⟩
theorem inK_eq {P : Program} {T : Nat} {k : IntKind} (h : inK P T = some k) : P.underlying T = some (.int k) := by
  unfold inK at h; split at h
  · injection h with h; subst h; assumption
  · cases h
theorem conv_does {P : Program} {c : Cx} {s : St} {β : Pl} {w : World} {src dst : Nat} {u : Value} {x : X} (H : HRel c s.h β w) (hr : Rep w (Stab c.w0 c.S0 s.h β w) β u x) (hc : (eConv P s src dst x).cond) :
    Does P c s β w (convert src dst u) (eConv P s src dst x) := by
  unfold eConv at hc ⊢
  split at hc
  · obtain ⟨rfl, _⟩ := hr.inv_v
    split at hc
    · rename_i k hk
      obtain ⟨d, hd⟩ := okT_und hc
      refine Does.pure H ?_ (.v _ rfl)
      simp [convert, run_underlying hd, run_underlying (inK_eq hk), Conv.intToInt]
    · exact hc.elim
  · obtain ⟨rfl, _⟩ := hr.inv_v
    obtain ⟨h1, h2⟩ := hc
    obtain ⟨d, hd⟩ := okT_und h1
    refine Does.pure H ?_ (.v _ rfl)
    simp [convert, run_underlying hd, run_underlying (isStr_eq h2)]
  · rename_i rows
    split at hc
    · rename_i ns hns
      obtain ⟨h1, h2, h3⟩ := hc
      obtain ⟨hl, hg⟩ := bys_get hns
      rcases hr.inv_sl with ⟨h0, _⟩ | ⟨ad, cp, sz, cs, rfl, _, _, hz, hcell, _, hrr⟩
      · subst h0; simp at h3
      have hsz : sz = 1 := by
        have h0 : 0 < ns.length := by omega
        have := hg 0 ns[0] (List.getElem?_eq_getElem h0)
        have := hz _ (List.mem_of_getElem? this)
        simpa using this.symm
      subst hsz
      refine Does.pure H ?_ (.v _ rfl)
      rw [← hl]
      refine run_bytes h1 h2 fun i n hn => ?_
      have hri := hg i n hn
      have hi : i < rows.length := (List.getElem?_eq_some_iff.1 hri).1
      have e1 := hcell i 0 hi (by omega)
      simp only [Nat.mul_one, Nat.add_zero] at e1
      rw [e1]
      obtain ⟨e2, _⟩ := (hrr i 0 (.v (.int .u8 n)) (by simp [at2, hri])).inv_v
      rw [e2]
    · exact hc.elim
  · rename_i k ver
    split at hc
    · rename_i ns hns
      obtain ⟨h1, h2, hv, hbx, h3⟩ := hc
      obtain ⟨hl, hg⟩ := bys_get hns
      obtain ⟨hu, _⟩ := hr.inv_osl
      cases hk : s.h[k]? with
      | none => rw [hk] at h3; simp at h3
      | some ob =>
        unfold verOk at hv
        rw [hk] at hv hbx h3 hl hg
        simp only [Option.map_some, Option.some.injEq, Option.getD_some] at hv hbx h3 hl hg
        obtain ⟨hsz, hrow, u', hu', hsh, hcells⟩ := H.objs k ob hk
        rw [hv, hu] at hu'
        injection hu' with hu'
        subst hu'
        have hsz1 : ob.sz = 1 := by
          have h0 : 0 < ns.length := by omega
          have := hg 0 ns[0] (List.getElem?_eq_getElem h0)
          have := hrow _ (List.mem_of_getElem? this)
          simpa using this.symm
        rcases hsh with ⟨_, h0, _⟩ | ⟨_, _, _, _, _, _, _, h0, _⟩ | ⟨g, cap, cur, _, _, _, _, hue⟩
        · rw [h0] at h3; simp at h3
        · rw [hbx] at h0; cases h0
        rw [hbx] at hue
        simp only [Bool.false_eq_true, if_false] at hue
        subst hue
        refine Does.pure H ?_ (.v _ rfl)
        rw [← hl]
        refine run_bytes h1 h2 fun i n hn => ?_
        have hri := hg i n hn
        obtain ⟨g', cc, e1, e2, _, e3⟩ := hcells i 0 (.v (.int .u8 n)) (by simp [at2, hri])
        simp [blk] at e1
        subst e1
        obtain ⟨e4, _⟩ := e3.inv_v
        rw [e4, hsz1] at e2
        have ea : (⟨g, 0, none⟩ : Addr).add i = ⟨g, i, none⟩ := by
          unfold Addr.add
          split <;> simp_all
        rw [ea]
        simpa using e2
    · exact hc.elim
  · exact hc.elim

/-- min and max of integers -/
def eMin (s : St) : List X → Eff
  | [.v (.int k x), .v (.int _ y)] => ⟨True, .v (.int k (if y < x then y else x)), s.h⟩
  | _ => ⟨False, .top, s.h⟩
def eMax (s : St) : List X → Eff
  | [.v (.int k x), .v (.int _ y)] => ⟨True, .v (.int k (if y > x then y else x)), s.h⟩
  | _ => ⟨False, .top, s.h⟩

/-! ### clear -/
def eClear (P : Program) (s : St) (T : Nat) (x : X) : Eff :=
  match slEl P T, x with
  | some e, .osub k ver off len => ⟨okT P e = true ∧ hasZ P e = true ∧ (zeroC P e).all plain = true ∧ (zeroC P e).length = szOf P e ∧ verOk s.h k ver ∧ liveOk s.h k ∧ ((s.h[k]?.map (·.bx)).getD true) = false ∧ ((s.h[k]?.map (·.sz)).getD 0) = szOf P e ∧
      0 < len ∧ off + len ≤ ((s.h[k]?.map (·.rows)).getD []).length, .top,
      match s.h[k]? with | some ob => s.h.set k { ob with rows := ob.rows.take off ++ (List.replicate len ((zeroC P e).map .v) ++ ob.rows.drop (off + len)) } | none => s.h⟩
  | _, _ => ⟨False, .top, s.h⟩

theorem clear_does {P : Program} {c : Cx} {s : St} {β : Pl} {w : World} {T ty : Nat} {u : Value} {x : X} (H : HRel c s.h β w) (hr : Rep w (Stab c.w0 c.S0 s.h β w) β u x) (hc : (eClear P s T x).cond) :
    Does P c s β w (Builtin.clear_ #[T] ty #[u]) (eClear P s T x) := by
  unfold eClear at hc ⊢
  split at hc
  · rename_i e k ver off len he
    obtain ⟨hT, h1, h2, hzl, hv, hlive, hbx, hsz, hpos, hfit⟩ := hc
    obtain ⟨ob, hk, rfl⟩ := verOk_get hv
    simp only [hk, Option.map_some, Option.getD_some] at hbx hsz hfit ⊢
    have hl : ob.live = true := by simpa [liveOk, hk] using hlive
    obtain ⟨i, z, hi, hz, hzc⟩ := hasZ_eq h1
    have hzs : z.cells.size = szOf P e := by rw [← hzl, hzc]; simp
    obtain ⟨hszk, hrows, u', hu', hsh, hcells⟩ := H.objs k ob hk
    cases hr with
    | osub0 => omega
    | osub _ _ _ _ g cc nn cap hcp hoc hu =>
      rw [hu] at hu'; injection hu' with eu; subst eu
      rcases hsh with ⟨h, _⟩ | ⟨_, _, _, _, h, _⟩ | ⟨g', cap', cur, hcur, hcs, hle, hmax, h⟩
      · cases h
      · cases h
      rw [hbx] at h
      simp only [Bool.false_eq_true, if_false] at h
      injection h with h1' h2' h3'
      injection h1' with h1'
      injection h1' with h1'
      subst h1' h2' h3'
      have hnl : (Builtin.zeroCells z.cells len).toList.length = len * ob.sz := by simp [Builtin.zeroCells, hzs, hsz]
      have hat : ∀ m, m < len * ob.sz → (Builtin.zeroCells z.cells len).toList[m]? = some (z.cells[m % z.cells.size]!) := by
        intro m hm
        have hm' : m < len * z.cells.size := by rw [hzs, ← hsz]; exact hm
        simp [Builtin.zeroCells, hm']
      have hzc' : ∀ j, j < ob.sz → (zeroC P e)[j]? = some (z.cells[j]!) := by
        intro j hj
        rw [hzc, Array.getElem?_toList, Array.getElem?_eq_getElem (by omega), getElem!_pos z.cells j (by omega)]
      rw [List.all_eq_true] at h2
      have hone : ∀ v ∈ (Builtin.zeroCells z.cells len).toList, v.oneCell' = true := by
        intro v hv'
        obtain ⟨m, hm⟩ := List.getElem?_of_mem hv'
        have hlt : m < len * ob.sz := by rw [← hnl]; exact (List.getElem?_eq_some_iff.1 hm).1
        rw [hat m hlt] at hm
        injection hm with hm
        have hsp : 0 < ob.sz := by
          rcases Nat.eq_zero_or_pos ob.sz with h | h
          · rw [h] at hlt; simp at hlt
          · exact h
        have hmz := hzc' (m % z.cells.size) (by rw [hsz, hzs]; exact Nat.mod_lt _ (by omega))
        rw [← hm]
        exact plain_one (h2 _ (List.mem_of_getElem? hmz))
      have hW := H.rowsW hk hl hbx hu hcur hcs hle hmax (Builtin.zeroCells z.cells len).toList (List.replicate len ((zeroC P e).map X.v)) off (by simpa using hfit) (by simpa using hnl) hone
        (fun r hr => by rw [List.eq_of_mem_replicate hr]; simp [hzl, hsz]) (fun i' j x hx => by
          simp only [at2, List.getElem?_replicate] at hx
          split at hx
          · rename_i hin
            simp only [Option.bind_some, List.getElem?_map] at hx
            cases hzj : (zeroC P e)[j]? with
            | none => rw [hzj] at hx; cases hx
            | some y =>
              rw [hzj] at hx
              simp only [Option.map_some, Option.some.injEq] at hx
              subst hx
              have hj : j < ob.sz := by
                rw [hsz, ← hzl]
                exact (List.getElem?_eq_some_iff.1 hzj).1
              have hle3 : (i' + 1) * ob.sz ≤ len * ob.sz := Nat.mul_le_mul_right _ (by omega)
              rw [Nat.add_mul] at hle3
              have hmod : (i' * ob.sz + j) % z.cells.size = j := by rw [hzs, ← hsz, Nat.add_comm, Nat.add_mul_mod_self_right]; exact Nat.mod_eq_of_lt hj
              refine ⟨y, ?_, .v _ (h2 y (List.mem_of_getElem? hzj))⟩
              rw [hat _ (by omega), hmod, ← hzc' j hj, hzj]
          · cases hx)
      simp only [List.length_replicate] at hW
      have hle2 : (off + len) * ob.sz ≤ cap * ob.sz := Nat.mul_le_mul_right _ (by omega)
      rw [Nat.add_mul] at hle2
      have hst := run_storeCells_at (P := P) g (off * ob.sz) ob.ty (Builtin.zeroCells z.cells len).toList 0 cur w hcur (by rw [hnl]; omega) hone
      simp only [Nat.add_zero] at hst
      refine ⟨.tuple #[], _, _, ?_, hW.1, hW.2, .top _⟩
      have hl0 : len ≠ 0 := by omega
      obtain ⟨len', rfl⟩ : ∃ m, len = m + 1 := ⟨len - 1, by omega⟩
      simp [Builtin.clear_, run_underlying (slEl_eq he), run_zeroValue hi hz, hszk, hst]
  · exact hc.elim

/-! ### append to an empty literal, read as data -/
def eAppend0 (P : Program) (s : St) (T : Nat) (a b : X) : Eff :=
  match slEl P T, a, b with
  | some e, .e0, .sl news => ⟨okT P e = true ∧ hasZ P e = true ∧ (zeroC P e).length = szOf P e ∧ 0 < szOf P e ∧ (∀ r ∈ news, r.length = szOf P e) ∧ (news.all fun r => r.all (ok0 0)) = true ∧ news.length * byOf P e ≤ 140737488355328 ∧ news.length ≤ 9223372036854775807, .sl news, s.h⟩
  | _, _, _ => ⟨False, .top, s.h⟩

theorem append0_does {P : Program} {c : Cx} {s : St} {β : Pl} {w : World} {T ty : Nat} {ua ub : Value} {a b : X} (H : HRel c s.h β w) (hra : Rep w (Stab c.w0 c.S0 s.h β w) β ua a) (hrb : Rep w (Stab c.w0 c.S0 s.h β w) β ub b)
    (hc : (eAppend0 P s T a b).cond) : Does P c s β w (Builtin.append_ #[T, T] ty #[ua, ub]) (eAppend0 P s T a b) := by
  unfold eAppend0 at hc ⊢
  split at hc
  · rename_i e news he
    obtain ⟨hT, hZ, hzl, hpos, hz, hok, hby, hmx⟩ := hc
    obtain ⟨i, hi, hs', hb'⟩ := okT_info hT
    cases hra with
    | e0 ad =>
    rcases Nat.eq_zero_or_pos news.length with h0 | hpn
    · have hn := List.eq_nil_of_length_eq_zero h0
      subst hn
      have hb0 : ∃ a cp, ub = .slice a 0 cp := by
        rcases hrb.inv_sl with ⟨_, a, cp, h⟩ | ⟨ad, cp, sz, cs, h, _⟩
        · exact ⟨a, cp, h⟩
        · exact ⟨some ad, cp, h⟩
      obtain ⟨a', cp, rfl⟩ := hb0
      refine Does.pure H (v := .slice ad 0 0) ?_ (.nil _ _)
      cases a' with
      | none => cases ad <;> simp [Builtin.append_, run_underlying (slEl_eq he), sizeOf, typeInfo, hi, Builtin.lenOf, Builtin.firstCells, storeCells]
      | some ad' =>
        have hf := run_firstCells_some (P := P) w i.size 0 ad' 0 cp [] (by simp) (by simp)
        cases ad <;> simp [Builtin.append_, run_underlying (slEl_eq he), sizeOf, typeInfo, hi, Builtin.lenOf, hf, storeCells]
    · obtain ⟨v', w', cs, hrun, g1, g2, g3, g4, g5⟩ := append_run (ty := ty) H he hT hZ hzl hpos hrb rfl trivial hz (.slice none 0 0) 0 [] (World.ownsRow_nil w 0 e _) (by simpa using hby) (by simpa using hmx)
      simp only [Nat.zero_add, List.nil_append] at g1
      obtain ⟨sad, scp, rfl⟩ : ∃ (ad : Addr) (c' : Nat), ub = .slice (some ad) news.length c' := by
        rcases hrb.inv_sl with ⟨h, _⟩ | ⟨ad, c', _, _, h, _⟩
        · rw [h] at hpn; simp at hpn
        · exact ⟨ad, c', h⟩
      have hsame : (Builtin.append_ #[T, T] ty #[.slice ad 0 0, .slice (some sad) news.length scp]).run P w = (Builtin.append_ #[T, T] ty #[.slice none 0 0, .slice (some sad) news.length scp]).run P w := by
        have hn0 : ¬ news.length = 0 := by omega
        have hncap : Builtin.nextslicecap news.length 0 = news.length := by simp [Builtin.nextslicecap, hpn]
        have hby' : ¬ (281474976710656 < news.length * i.bytes) := by rw [← hb']; omega
        cases ad with
        | none => rfl
        | some ad' =>
          have hf : ∀ w', (Builtin.firstCells i.size 0 (.slice (some ad') 0 0)).run P w' = .ok #[] w' := fun w' => run_firstCells_some (P := P) w' i.size 0 ad' 0 0 [] (by simp) (by simp)
          have hf' : ∀ w', (Builtin.firstCells i.size 0 (.slice none 0 0)).run P w' = .ok #[] w' := fun w' => rfl
          simp [Builtin.append_, run_underlying (slEl_eq he), sizeOf, typeInfo, hi, Builtin.lenOf, hf, hf', hn0, hncap, hby']
      have hb := grown_below g2 rfl
      obtain ⟨e1, e2⟩ := H.ext hb
      rcases g1.2 with ⟨_, h⟩ | ⟨g, cap, cur, rfl, _, hcur, hnc, hcm, hcs, htk⟩
      · omega
      have hg : g = w.heap.size := by
        rcases g3 with h | h
        · cases h
        · injection h with h
      have hst : Stab c.w0 c.S0 s.h β w' g := ⟨(Array.getElem?_eq_some_iff.1 hcur).1, .inr (by rw [hg]; exact H.frm.size), fun ho => by have := (H.own _ ho).1; omega⟩
      rw [List.all_eq_true] at hok
      refine ⟨_, w', β, hsame.trans hrun, e1, e2, ?_⟩
      refine Rep.sl ⟨g, 0, none⟩ cap (szOf P e) news (fun i j => if (at2 news i j).isSome then (cs[i * szOf P e + j]?).getD (.bool false) else .bool false) hnc hst hz (fun i j hi hj => ?_) (fun i j => ?_) (fun i j x hxx => ?_)
      · have hs : (at2 news i j).isSome = true := by
          unfold at2
          rw [List.getElem?_eq_getElem hi]
          simp only [Option.bind_some]
          rw [List.getElem?_eq_getElem (by rw [hz _ (List.getElem_mem hi)]; exact hj)]
          rfl
        obtain ⟨x, hx'⟩ := Option.isSome_iff_exists.1 hs
        obtain ⟨cc, c1, _⟩ := g5 i j x hx'
        rw [if_pos hs, c1, add_none, Nat.zero_add]
        obtain ⟨g', q1, q2⟩ := owns_cell g1 c1
        injection q1 with q1
        subst q1
        exact q2
      · show Value.oneCell' (if (at2 news i j).isSome = true then (cs[i * szOf P e + j]?).getD (.bool false) else .bool false) = true
        cases hs : at2 news i j with
        | none => rfl
        | some x =>
          obtain ⟨cc, c1, _⟩ := g5 i j x hs
          simp only [Option.isSome_some, if_true, c1, Option.getD_some]
          exact g4 cc (List.mem_of_getElem? c1)
      · obtain ⟨cc, c1, c2⟩ := g5 i j x hxx
        show Rep _ _ _ (if (at2 news i j).isSome = true then (cs[i * szOf P e + j]?).getD (.bool false) else .bool false) x
        rw [hxx, c1]
        simp only [Option.isSome_some, if_true, Option.getD_some]
        have hx0 : ok0 0 x = true := by
          unfold at2 at hxx
          cases hri : news[i]? with
          | none => rw [hri] at hxx; cases hxx
          | some r => rw [hri] at hxx; exact List.all_eq_true.1 (hok r (List.mem_of_getElem? hri)) x (List.mem_of_getElem? hxx)
        exact ((e2 _ _ c2).cut0 (fun _ h => h) hx0).mono (fun _ h => h) (fun _ _ => rfl) (fun _ _ _ h => by simp [Pl.cut] at h)
  · exact hc.elim

end Go.Abs
