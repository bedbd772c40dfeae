/-
  What is proved here: laws of a relation between the model's worlds and a plain abstract state (lists in the place of memory). Condition: none.
-/
import Derived.WalkKit
import Derived.WalkSpells
import Derived.Orders
namespace Go.Abs
open Go.RowKit

inductive X where
  | top
  | v (x : Value)
  | sl (rows : List (List X))
  | pt (cells : List X)
  | agg (cells : List X)
  | tup (xs : List X)
  | fn (f : Nat) (cap : List X)
  | osl (k ver : Nat)
  | osub (k ver off len : Nat)
  | optr (k ver i j : Nat)
  | gd (es : List (Bool × Bool)) (x : X)
  | pin (k ver : Nat) (u : Value)

/-- all these tests came out as wanted -/
def allT : List (Bool × Bool) → Prop
  | [] => True
  | e :: es => e.1 = e.2 ∧ allT es

/-- one cell, no memory behind it -/
def plain : Value → Bool
  | .bool _ | .int _ _ | .float _ _ | .string _ | .pointer none | .slice none 0 0 | .nilFunc | .nilIface | .map none => true
  | _ => false

/-- where the objects' versions lie, and how wide a row is -/
structure Pl where
  val : Nat → Nat → Option Value
  sz : Nat → Nat

def Pl.none : Pl := ⟨fun _ _ => Option.none, fun _ => 0⟩

def Pl.le (β β' : Pl) : Prop := (∀ k ver v, β.val k ver = some v → β'.val k ver = some v ∧ β'.sz k = β.sz k)

theorem Pl.le_refl (β : Pl) : β.le β := fun _ _ _ h => ⟨h, rfl⟩
theorem Pl.le_trans {a b c : Pl} (h : a.le b) (k : b.le c) : a.le c := fun i j v hv => ⟨(k i j v (h i j v hv).1).1, (k i j v (h i j v hv).1).2.trans (h i j v hv).2⟩
theorem Pl.none_le (β : Pl) : Pl.none.le β := fun _ _ _ h => by simp [Pl.none] at h

def blk : Value → Option Nat
  | .slice (some a) _ _ => some a.block
  | .pointer (some a) => some a.block
  | .map (some g) => some g
  | _ => none

def at2 (rows : List (List X)) (i j : Nat) : Option X := (rows[i]?).bind (·[j]?)

inductive Rep (w : World) (S : Nat → Prop) : Pl → Value → X → Prop
  | top {β} (u : Value) : Rep w S β u .top
  | v {β} (x : Value) (h : plain x = true) : Rep w S β x (.v x)
  | nil {β} (a : Option Addr) (c : Nat) : Rep w S β (.slice a 0 c) (.sl [])
  | sl {β} (ad : Addr) (c sz : Nat) (rows : List (List X)) (cs : Nat → Nat → Value) (hcap : rows.length ≤ c) (hs : S ad.block) (hz : ∀ r ∈ rows, r.length = sz)
      (hc : ∀ i j, i < rows.length → j < sz → w.cell? (ad.add (i * sz + j)) = some (cs i j))
      (h1 : ∀ i j, (cs i j).oneCell' = true) (hr : ∀ i j x, at2 rows i j = some x → Rep w S Pl.none (cs i j) x) : Rep w S β (.slice (some ad) rows.length c) (.sl rows)
  | pt {β} (ad : Addr) (cells : List X) (cs : Nat → Value) (hs : S ad.block) (hc : ∀ j, j < cells.length → w.cell? (ad.add j) = some (cs j))
      (h1 : ∀ j, (cs j).oneCell' = true) (hr : ∀ (j : Nat) x, cells[j]? = some x → Rep w S Pl.none (cs j) x) : Rep w S β (.pointer (some ad)) (.pt cells)
  | agg {β} (cs : Array Value) (xs : List X) (hl : cs.size = xs.length) (h1 : ∀ c ∈ cs, c.oneCell' = true) (hr : ∀ (j : Nat) x c, xs[j]? = some x → cs[j]? = some c → Rep w S β c x) : Rep w S β (.agg cs) (.agg xs)
  | tup {β} (cs : Array Value) (xs : List X) (hl : cs.size = xs.length) (hr : ∀ (j : Nat) x c, xs[j]? = some x → cs[j]? = some c → Rep w S β c x) : Rep w S β (.tuple cs) (.tup xs)
  | fn {β} (f : Nat) (cs : Array Value) (xs : List X) (hl : cs.size = xs.length) (hr : ∀ (j : Nat) x c, xs[j]? = some x → cs[j]? = some c → Rep w S β c x) : Rep w S β (.func (.func f) #[] cs) (.fn f xs)
  | osl {β} (k ver : Nat) (u : Value) (h : β.val k ver = some u) (h1 : u.oneCell' = true) : Rep w S β u (.osl k ver)
  | osub {β} (k ver off len g c n cap : Nat) (hcap : len ≤ c) (h : β.val k ver = some (.slice (some ⟨g, 0, none⟩) n cap)) : Rep w S β (.slice (some ⟨g, off * β.sz k, none⟩) len c) (.osub k ver off len)
  | osub0 {β} (k ver off : Nat) (a : Option Addr) (c : Nat) : Rep w S β (.slice a 0 c) (.osub k ver off 0)
  | gd {β} (es : List (Bool × Bool)) (u : Value) (x : X) (h : allT es → Rep w S β u x) (hu : ¬ allT es → u = undef) : Rep w S β u (.gd es x)
  | pin {β} (u' : Value) (k ver : Nat) (u : Value) (h : β.val k ver = some u) : Rep w S β u' (.pin k ver u)
  | optr {β} (k ver i j g : Nat) (u : Value) (h : β.val k ver = some u) (hg : blk u = some g) : Rep w S β (.pointer (some ⟨g, i * β.sz k + j, none⟩)) (.optr k ver i j)

/-- the relation only looks at the blocks of S, and only at the places that β knows -/
theorem Rep.mono {w w' : World} {S S' : Nat → Prop} {β β' : Pl} {u : Value} {x : X} (h : Rep w S β u x) (hS : ∀ b, S b → S' b)
    (hw : ∀ b, S b → w'.heap[b]? = w.heap[b]?) (hβ : β.le β') : Rep w' S' β' u x := by
  induction h generalizing β' with
  | top u => exact .top u
  | v x h => exact .v x h
  | nil a c => exact .nil a c
  | sl ad c sz rows cs hcap hs hz hc h1 hr ih =>
    refine .sl ad c sz rows cs hcap (hS _ hs) hz (fun i j hi hj => ?_) h1 (fun i j x hx => ih i j x hx (Pl.le_refl _))
    rw [← hc i j hi hj]
    refine World.cell?_of_block ?_
    have : (ad.add (i * sz + j)).block = ad.block := by unfold Addr.add; split <;> rfl
    rw [this]; exact hw _ hs
  | pt ad cells cs hs hc h1 hr ih =>
    refine .pt ad cells cs (hS _ hs) (fun j hj => ?_) h1 (fun j x hx => ih j x hx (Pl.le_refl _))
    rw [← hc j hj]
    refine World.cell?_of_block ?_
    have : (ad.add j).block = ad.block := by unfold Addr.add; split <;> rfl
    rw [this]; exact hw _ hs
  | agg cs xs hl h1 hr ih => exact .agg cs xs hl h1 fun j x c hx hc => ih j x c hx hc hβ
  | tup cs xs hl hr ih => exact .tup cs xs hl fun j x c hx hc => ih j x c hx hc hβ
  | fn f cs xs hl hr ih => exact .fn f cs xs hl fun j x c hx hc => ih j x c hx hc hβ
  | osl k ver u h h1 => exact .osl k ver u (hβ _ _ _ h).1 h1
  | osub k ver off len g c n cap hcap h =>
    obtain ⟨h1, h2⟩ := hβ _ _ _ h
    rw [← h2]; exact .osub k ver off len g c n cap hcap h1
  | osub0 k ver off a c => exact .osub0 k ver off a c
  | gd es u x h hu ih => exact .gd es u x (fun e => ih e hβ) hu
  | pin u' k ver u h => exact .pin u' k ver u (hβ _ _ _ h).1
  | optr k ver i j g u h hg =>
    obtain ⟨h1, h2⟩ := hβ _ _ _ h
    rw [← h2]; exact .optr k ver i j g u h1 hg

/-- an object of the call's own -/
structure Ob where
  ty : Nat
  sz : Nat
  ver : Nat
  rows : List (List X)
  bx : Bool
  live : Bool
  mp : Option (List (Int × Value))

/-- the form of an object's canonical value in memory -/
def Shape (w : World) (ob : Ob) (u : Value) : Prop :=
  (u = .slice none 0 0 ∧ ob.rows = [] ∧ ob.bx = false) ∨
  (∃ g es clock l, u = .map (some g) ∧ ob.mp = some l ∧ ob.rows = [] ∧ ob.bx = true ∧ w.heap[g]? = some (.map es clock) ∧ es.toList.map (fun e => (e.key, e.val)) = l.map (fun p => (.int .i64 p.1, p.2))) ∨
  ∃ g cap cur, w.heap[g]? = some (.cells cur ob.ty (0, 0)) ∧ cur.size = cap * ob.sz ∧ ob.rows.length ≤ cap ∧ cap ≤ maxLen ∧
    (if ob.bx then cap = 1 ∧ ob.rows.length = 1 ∧ u = .pointer (some ⟨g, 0, none⟩) else u = .slice (some ⟨g, 0, none⟩) ob.rows.length cap)

def ObRel (w : World) (S : Nat → Prop) (β : Pl) (k : Nat) (ob : Ob) : Prop :=
  β.sz k = ob.sz ∧ (∀ r ∈ ob.rows, r.length = ob.sz) ∧ ∃ u, β.val k ob.ver = some u ∧ Shape w ob u ∧
    ∀ i j x, at2 ob.rows i j = some x → ∃ g c, blk u = some g ∧ w.cell? ⟨g, i * ob.sz + j, none⟩ = some c ∧ c.oneCell' = true ∧ Rep w S β c x

structure St where
  n : Nat
  t : Nat → X
  h : List Ob

/-- which blocks are owned and may still turn -/
def Owned (h : List Ob) (β : Pl) (b : Nat) : Prop := ∃ k ob u, h[k]? = some ob ∧ ob.live = true ∧ β.val k ob.ver = some u ∧ blk u = some b

/-- the blocks on which pure data may lie -/
def Stab (w0 : World) (S0 : Nat → Prop) (h : List Ob) (β : Pl) (w : World) (b : Nat) : Prop :=
  b < w.heap.size ∧ (S0 b ∨ w0.heap.size ≤ b) ∧ ¬ Owned h β b

structure Frm (w0 : World) (M : Nat → Prop) (w : World) : Prop where
  os : w.os = w0.os
  tape : w.tape = w0.tape
  output : w.output = w0.output
  size : w0.heap.size ≤ w.heap.size
  block : ∀ b, b < w0.heap.size → ¬ M b → w.heap[b]? = w0.heap[b]?

theorem Frm.refl (w : World) (M : Nat → Prop) : Frm w M w := ⟨rfl, rfl, rfl, Nat.le_refl _, fun _ _ _ => rfl⟩

/-- the context of a run: the world at its start, the blocks of pure data that came in, the blocks that it may write -/
structure Cx where
  w0 : World
  S0 : Nat → Prop
  M : Nat → Prop
  A : List (Nat × List X)

/-- the package's variables that hold what is listed -/
def Amb (w : World) (S : Nat → Prop) (A : List (Nat × List X)) : Prop := ∀ p ∈ A, Rep w S Pl.none (.pointer (some ⟨p.1, 0, none⟩)) (.pt p.2) ∧ ∃ cs t z, w.heap[p.1]? = some (.cells cs t z) ∧ cs.size = p.2.length

structure HRel (c : Cx) (h : List Ob) (β : Pl) (w : World) : Prop where
  objs : ∀ k ob, h[k]? = some ob → ObRel w (Stab c.w0 c.S0 h β w) β k ob
  inj : ∀ k k' ob ob' u u' b, h[k]? = some ob → h[k']? = some ob' → β.val k ob.ver = some u → β.val k' ob'.ver = some u' → blk u = some b → blk u' = some b → k = k'
  cur : ∀ k ob ver, h[k]? = some ob → ob.ver < ver → β.val k ver = none
  dom : ∀ k ver, h.length ≤ k → β.val k ver = none
  frm : Frm c.w0 c.M w
  own : ∀ b, Owned h β b → b < w.heap.size ∧ (c.w0.heap.size ≤ b ∨ c.M b)
  st0 : ∀ b, c.S0 b → b < c.w0.heap.size ∧ ¬ c.M b
  amb : Amb c.w0 c.S0 c.A

def Rel (c : Cx) (s : St) (β : Pl) (a : Act) (w : World) : Prop :=
  a.defers = [] ∧ a.tmps.size = s.n ∧ HRel c s.h β w ∧ ∀ t, Rep w (Stab c.w0 c.S0 s.h β w) β (a.tmps.getD t undef) (s.t t)

theorem HRel.ambNow {c : Cx} {h : List Ob} {β : Pl} {w : World} (H : HRel c h β w) : Amb w (Stab c.w0 c.S0 h β w) c.A := fun p hp => by
  obtain ⟨h1, cs, t, z, h2, h3⟩ := H.amb p hp
  have hs : c.S0 p.1 := by
    have key : ∀ {u : Value} {x : X}, Rep c.w0 c.S0 Pl.none u x → u = .pointer (some ⟨p.1, 0, none⟩) → x = .pt p.2 → c.S0 p.1 := by
      intro u x hr hu hx
      cases hr with
      | pt ad cells cs hs =>
        injection hu with e
        injection e with e
        rw [e] at hs
        exact hs
      | _ => cases hx
    exact key h1 rfl rfl
  refine ⟨h1.mono (fun b hb => ⟨Nat.lt_of_lt_of_le (H.st0 b hb).1 H.frm.size, .inl hb, fun ho => ?_⟩) (fun b hb => H.frm.block b (H.st0 b hb).1 (H.st0 b hb).2) (Pl.le_refl _), cs, t, z, (H.frm.block _ (H.st0 _ hs).1 (H.st0 _ hs).2).trans h2, h3⟩
  rcases (H.own b ho).2 with h1 | h1
  · have := (H.st0 b hb).1; omega
  · exact (H.st0 b hb).2 h1

end Go.Abs
