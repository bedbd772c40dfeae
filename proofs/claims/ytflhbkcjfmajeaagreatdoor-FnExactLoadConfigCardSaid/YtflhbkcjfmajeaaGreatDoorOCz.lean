/-
  What is proved here: how a configuration is opened that is an argument. Condition: checks of the types.
-/
import Derived.Test.YtflhbkcjfmajeaaGreatDoorAbs25
import Derived.Test.YtflhbkcjfmajeaaGreatDoorC0z
namespace Go.Proofs
open Go.Abs Go.RowKit Go.ChangeShapes Go.WideShapes Go.ChangeAt
set_option linter.unusedSimpArgs false
set_option linter.unnecessarySimpa false
set_option linter.unusedVariables false

def inC (Q1 : Cls → Prop) (Q2 : Fil → Prop) (c : Cfg) : Prop := c.name.size ≤ maxLen ∧ c.cls.length ≤ maxLen ∧ c.fil.length ≤ maxLen ∧ inI c.dflt ∧ (∀ a ∈ c.cls, Q1 a) ∧ ∀ a ∈ c.fil, Q2 a
theorem open_cX {H : Type} {enc : TypeId × Value → H} {P : Program} {w : World} {spare : Nat → Bool} {held : Bool} {fuel T ts tc tf ti ec ef d : Nat} {cs : Array Value} {x : DataW H × List MemPlace} {fs : Array Field} {Q1 : Cls → Prop} {Q2 : Fil → Prop} {l1 l2 : List (Nat × Nat)}
    (conv1 : ∀ r : List Value, r.length = 8 → (∀ p ∈ l1, ∃ v, r[p.2]? = some v ∧ leafOk p.1 v) → ∃ a : Cls, r = Rw.enc a ∧ Q1 a)
    (conv2 : ∀ r : List Value, r.length = 5 → (∀ p ∈ l2, ∃ v, r[p.2]? = some v ∧ leafOk p.1 v) → ∃ a : Fil, r = Rw.enc a ∧ Q2 a)
    (hT : P.underlying T = some (.struct fs)) (hF : (fs.toList.map fun f => (f.type, f.offset)) = [(ts, 0), (tc, 1), (tf, 2), (ti, 3)])
    (us : P.underlying ts = some .string) (zs : P.cellsOf ts = 1)
    (uc : P.underlying tc = some (.slice ec)) (zc : P.cellsOf tc = 1) (zec : P.cellsOf ec = 8) (lc : leafT P d ec = some l1)
    (uf : P.underlying tf = some (.slice ef)) (zf : P.cellsOf tf = 1) (zef : P.cellsOf ef = 5) (lf : leafT P d ef = some l2)
    (ui : P.underlying ti = some (.int .i64)) (zi : P.cellsOf ti = 1)
    (hz : cs.size = 4) (h : DataW.trod enc P w 0 spare held fuel T cs.toList = some x) :
    ∃ c : Cfg, inC Q1 Q2 c ∧ Rep w (fun b => b < w.heap.size) Pl.none (.agg cs) (.agg (cX c)) := by
  have k := trod_fields hT hF h
  match cs, hz, k with
  | ⟨[v0, v1, v2, v3]⟩, _, k =>
    obtain ⟨y0, m0, e0⟩ := k 0 ts 0 rfl
    obtain ⟨y1, m1, e1⟩ := k 1 tc 1 rfl
    obtain ⟨y2, m2, e2⟩ := k 2 tf 2 rfl
    obtain ⟨y3, m3, e3⟩ := k 3 ti 3 rfl
    rw [zs] at e0
    rw [zc] at e1
    rw [zf] at e2
    rw [zi] at e3
    obtain ⟨s, rfl, hs⟩ := one_str us (v := v0) e0
    obtain ⟨L1, a1, a2, a3, a4⟩ := one_tR (v := v1) conv1 uc zec (by decide) lc e1
    obtain ⟨L2, b1, b2, b3, b4⟩ := one_tR (v := v2) conv2 uf zef (by decide) lf e2
    obtain ⟨n, rfl, hn⟩ := one_int ui (v := v3) e3
    refine ⟨⟨s, L1, L2, n⟩, ⟨hs, a1, b1, hn, a2, b2⟩, .agg _ _ rfl ?_ ?_⟩
    · intro c hc
      simp at hc
      rcases hc with rfl | rfl | rfl | rfl
      · rfl
      · exact a3
      · exact b3
      · rfl
    · intro j x c hx hc
      match j, hx, hc with
      | 0, hx, hc => simp at hx hc; subst hx hc; exact .v _ rfl
      | 1, hx, hc => simp at hx hc; subst hx hc; exact a4
      | 2, hx, hc => simp at hx hc; subst hx hc; exact b4
      | 3, hx, hc => simp at hx hc; subst hx hc; exact .v _ rfl
      | j + 4, hx, hc => simp at hx
end Go.Proofs
