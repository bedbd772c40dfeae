/-
  What is proved here: how an argument is opened that is a number, a string, a struct or a slice of such, as data of one type. Condition: a check of the type.
-/
import Derived.Test.YteleljfnjdlnkaaGreatDoorAbs23
import Derived.OpenShut
import Derived.ShutString
import Derived.WalkKit
set_option linter.unusedVariables false
set_option linter.unusedSimpArgs false
set_option linter.unnecessarySimpa false
namespace Go.Abs
open Go.RowKit Go.ChangeShapes Go.WideShapes Go.ChangeAt

theorem flat_plain {v : Value} (h : flatV v = true) : plain v = true := by cases v <;> simp [flatV] at h <;> rfl
theorem rX_enc {α : Type} [Rw α] (a : α) : rX a = (Rw.enc a).map X.v := rfl
theorem open_tR {α : Type} [Rw α] {Q : α → Prop} {H : Type} {enc : TypeId × Value → H} {P : Program} {w : World} {fuel T e sz d : Nat} {a : Option Addr} {len cap : Nat} {x : DataW H × List MemPlace} {l : List (Nat × Nat)} {spare : Nat → Bool} {held : Bool}
    (conv : ∀ r : List Value, r.length = sz → (∀ p ∈ l, ∃ v, r[p.2]? = some v ∧ leafOk p.1 v) → ∃ a : α, r = Rw.enc a ∧ Q a)
    (hT : P.underlying T = some (.slice e)) (hsz : P.cellsOf e = sz) (hpos : 0 < sz) (hl : leafT P d e = some l) (h : DataW.trod enc P w 0 spare held fuel T [.slice a len cap] = some x) :
    ∃ L : List α, L.length ≤ maxLen ∧ (∀ a ∈ L, Q a) ∧ Rep w (fun b => b < w.heap.size) Pl.none (.slice a len cap) (.sl (tR L)) := by
  obtain ⟨hln, rows, hrl, hrows, hrep⟩ := open_rows hT hsz hpos hl h
  have key : ∀ rows : List (List Value), (∀ r ∈ rows, r.length = sz ∧ ∀ p ∈ l, ∃ v, r[p.2]? = some v ∧ leafOk p.1 v) → ∃ L : List α, (rows.map fun r => r.map X.v) = tR L ∧ (∀ a ∈ L, Q a) ∧ L.length = rows.length ∧ ∀ r ∈ rows, ∀ v ∈ r, plain v = true := by
    intro rows
    induction rows with
    | nil => intro _; exact ⟨[], rfl, by simp, rfl, by simp⟩
    | cons r rows ih =>
      intro hr
      obtain ⟨L, h1, h2, h3, h4⟩ := ih fun r hm => hr r (List.mem_cons_of_mem _ hm)
      obtain ⟨hz, hp⟩ := hr r List.mem_cons_self
      obtain ⟨a, rfl, hq⟩ := conv r hz hp
      refine ⟨a :: L, ?_, ?_, by simp [h3], ?_⟩
      · simp only [List.map_cons, h1]; rfl
      · intro b hb
        rcases List.mem_cons.1 hb with rfl | hb
        · exact hq
        · exact h2 b hb
      · intro r' hr' v hv
        rcases List.mem_cons.1 hr' with rfl | hr'
        · exact flat_plain (List.all_eq_true.1 (Rw.flat a) v hv)
        · exact h4 r' hr' v hv
  obtain ⟨L, h1, h2, h3, h4⟩ := key rows hrows
  have hr := hrep h4
  rw [h1] at hr
  exact ⟨L, by omega, h2, hr⟩
theorem open_rX {α : Type} [Rw α] {Q : α → Prop} {H : Type} {enc : TypeId × Value → H} {P : Program} {w : World} {fuel T sz d : Nat} {cs : Array Value} {x : DataW H × List MemPlace} {l : List (Nat × Nat)} {base : Nat} {spare : Nat → Bool} {held : Bool}
    (conv : ∀ r : List Value, r.length = sz → (∀ p ∈ l, ∃ v, r[p.2]? = some v ∧ leafOk p.1 v) → ∃ a : α, r = Rw.enc a ∧ Q a)
    (hz : cs.size = sz) (hl : leafT P d T = some l) (h : DataW.trod enc P w base spare held fuel T cs.toList = some x) :
    ∃ a : α, Q a ∧ Rep w (fun b => b < w.heap.size) Pl.none (.agg cs) (.agg (rX a)) := by
  obtain ⟨a, h1, h2⟩ := conv cs.toList (by simpa using hz) (trod_leaf d T l hl fuel _ _ h)
  refine ⟨a, h2, ?_⟩
  have h3 : cs = (Rw.enc a).toArray := by rw [← h1]
  rw [h3, rX_enc]
  exact rep_plain _ fun c hc => flat_plain (List.all_eq_true.1 (Rw.flat a) c hc)

def IsRow (w : World) (a : Option Addr) (len cap : Nat) (zs : List Int) : Prop :=
  (a = none ∧ len = 0 ∧ cap = 0 ∧ zs = []) ∨
  ∃ x, a = some x ∧ len ≤ cap ∧ cap ≤ maxLen ∧ zs.length = cap ∧ (∀ i, i < zs.length → w.cell? (x.add i) = some (.int .i64 (zs.getD i 0))) ∧ ∀ n ∈ zs, (Lit.int .i64 n).wf = true
theorem IsRow.rep {w : World} {a : Option Addr} {len cap : Nat} {zs : List Int} (h : IsRow w a len cap zs) : ∃ l : List Int, l.length ≤ maxLen ∧ (∀ n ∈ l, inI n) ∧ Rep w (fun b => b < w.heap.size) Pl.none (.slice a len cap) (.sl (iR l)) := by
  rcases h with ⟨rfl, rfl, rfl, rfl⟩ | ⟨x, rfl, hl, hm, hz, hcell, hwz⟩
  · exact ⟨[], by decide, by simp, .nil _ _⟩
  · exact ⟨zs.take len, by simp; omega, fun n hn => wf_rng (hwz n (List.mem_of_mem_take hn)), rep_ints hl hz hcell⟩
theorem open_iR {H : Type} {enc : TypeId × Value → H} {P : Program} {w : World} {fuel T e : Nat} {a : Option Addr} {len cap : Nat} {x : DataW H × List MemPlace} {held : Bool}
    (hT : P.underlying T = some (.slice e)) (he : P.underlying e = some (.int .i64)) (hc : P.cellsOf e = 1) (h : DataW.trod enc P w 0 (fun _ => true) held fuel T [.slice a len cap] = some x) :
    ∃ l : List Int, l.length ≤ maxLen ∧ (∀ n ∈ l, inI n) ∧ Rep w (fun b => b < w.heap.size) Pl.none (.slice a len cap) (.sl (iR l)) := by
  have key : ∃ zs, IsRow w a len cap zs := by
    rcases open_ints hT he hc h with ⟨hcs, _⟩ | ⟨x, l, c, zs, hcs, _, hl, hm, hz, _, hcell, hwz⟩
    · simp at hcs
      obtain ⟨rfl, rfl, rfl⟩ := hcs
      exact ⟨[], .inl ⟨rfl, rfl, rfl, rfl⟩⟩
    · simp at hcs
      obtain ⟨rfl, rfl, rfl⟩ := hcs
      exact ⟨zs, .inr ⟨_, rfl, hl, hm, by simpa using hz, hcell, hwz⟩⟩
  obtain ⟨zs, hz⟩ := key
  exact hz.rep
theorem amb_none {w : World} {S : Nat → Prop} : Amb w S [] := fun p hp => by simp at hp
end Go.Abs
