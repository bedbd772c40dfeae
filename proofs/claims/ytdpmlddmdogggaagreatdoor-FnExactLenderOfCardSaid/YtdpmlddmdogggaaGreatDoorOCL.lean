/-
  What is proved here: how a configuration is opened that is an argument. Condition: checks of the types.
  What is proved here: how loaded configurations and tokens are opened that are arguments. Condition: checks of the types.
-/
import Derived.Test.YtdpmlddmdogggaaGreatDoorAbsF
import Derived.Test.YtdpmlddmdogggaaGreatDoorC0j
import Derived.Test.YtdpmlddmdogggaaGreatDoorIL8j
set_option linter.unusedVariables false
set_option linter.unusedSimpArgs false
set_option linter.unnecessarySimpa false
set_option maxHeartbeats 16000000
set_option maxRecDepth 20000
namespace Go.Proofs
open Go.Abs Go.RowKit Go.ChangeShapes Go.WideShapes Go.ChangeAt
end Go.Proofs
namespace Go.Proofs
open Go.Abs Go.RowKit Go.ChangeShapes Go.WideShapes Go.ChangeAt
theorem one_iR {H : Type} {enc : TypeId × Value → H} {P : Program} {w : World} {held : Bool} {fuel T e : Nat} {v : Value} {x : DataW H × List MemPlace}
    (hT : P.underlying T = some (.slice e)) (he : P.underlying e = some (.int .i64)) (hc : P.cellsOf e = 1) (h : DataW.trod enc P w 0 (fun _ => true) held fuel T [v] = some x) :
    ∃ L : List Int, L.length ≤ maxLen ∧ (∀ a ∈ L, inI a) ∧ v.oneCell' = true ∧ Rep w (fun b => b < w.heap.size) Pl.none v (.sl (iR L)) := by
  have hv : ∃ a len cap, v = .slice a len cap := by
    rcases DataW.trod_slice hT h with ⟨hcs, _⟩ | ⟨ad, len, cap, _, _, _, _, hcs, _⟩
    · simp at hcs; exact ⟨_, _, _, hcs⟩
    · simp at hcs; exact ⟨_, _, _, hcs⟩
  obtain ⟨a, len, cap, rfl⟩ := hv
  obtain ⟨L, h1, h2, h3⟩ := open_iR hT he hc h
  exact ⟨L, h1, h2, rfl, h3⟩
def inL (Q1 : Cls → Prop) (Q2 : Fil → Prop) (c : Ldd) : Prop := bigL c ∧ inI c.dflt ∧ (∀ a ∈ c.cls, Q1 a) ∧ (∀ a ∈ c.fil, Q2 a) ∧ (∀ a ∈ c.par, inI a) ∧ (∀ a ∈ c.fst, inI a) ∧ (∀ a ∈ c.nx, inI a) ∧ (∀ a ∈ c.en, inI a) ∧ (∀ a ∈ c.tgt, inI a)
theorem open_lX {H : Type} {enc : TypeId × Value → H} {P : Program} {w : World} {held : Bool} {fuel T ts tc tf tn ti ec ef d : Nat} {cs : Array Value} {x : DataW H × List MemPlace} {fs : Array Field} {Q1 : Cls → Prop} {Q2 : Fil → Prop} {l1 l2 : List (Nat × Nat)}
    (conv1 : ∀ r : List Value, r.length = 8 → (∀ p ∈ l1, ∃ v, r[p.2]? = some v ∧ leafOk p.1 v) → ∃ a : Cls, r = Rw.enc a ∧ Q1 a)
    (conv2 : ∀ r : List Value, r.length = 5 → (∀ p ∈ l2, ∃ v, r[p.2]? = some v ∧ leafOk p.1 v) → ∃ a : Fil, r = Rw.enc a ∧ Q2 a)
    (hT : P.underlying T = some (.struct fs)) (hF : (fs.toList.map fun f => (f.type, f.offset)) = [(ts, 0), (tc, 1), (tn, 2), (tn, 3), (tn, 4), (tn, 5), (tf, 6), (tn, 7), (ti, 8)])
    (us : P.underlying ts = some .string) (zs : P.cellsOf ts = 1)
    (uc : P.underlying tc = some (.slice ec)) (zc : P.cellsOf tc = 1) (zec : P.cellsOf ec = 8) (lc : leafT P d ec = some l1)
    (uf : P.underlying tf = some (.slice ef)) (zf : P.cellsOf tf = 1) (zef : P.cellsOf ef = 5) (lf : leafT P d ef = some l2)
    (un : P.underlying tn = some (.slice ti)) (zn : P.cellsOf tn = 1)
    (ui : P.underlying ti = some (.int .i64)) (zi : P.cellsOf ti = 1)
    (hz : cs.size = 9) (h : DataW.trod enc P w 0 (fun _ => true) held fuel T cs.toList = some x) :
    ∃ c : Ldd, inL Q1 Q2 c ∧ Rep w (fun b => b < w.heap.size) Pl.none (.agg cs) (.agg (lX c)) := by
  have k := trod_fields hT hF h
  match cs, hz, k with
  | ⟨[v0, v1, v2, v3, v4, v5, v6, v7, v8]⟩, _, k =>
    obtain ⟨y0, m0, e0⟩ := k 0 ts 0 rfl
    obtain ⟨y1, m1, e1⟩ := k 1 tc 1 rfl
    obtain ⟨y2, m2, e2⟩ := k 2 tn 2 rfl
    obtain ⟨y3, m3, e3⟩ := k 3 tn 3 rfl
    obtain ⟨y4, m4, e4⟩ := k 4 tn 4 rfl
    obtain ⟨y5, m5, e5⟩ := k 5 tn 5 rfl
    obtain ⟨y6, m6, e6⟩ := k 6 tf 6 rfl
    obtain ⟨y7, m7, e7⟩ := k 7 tn 7 rfl
    obtain ⟨y8, m8, e8⟩ := k 8 ti 8 rfl
    rw [zs] at e0
    rw [zc] at e1
    rw [zn] at e2 e3 e4 e5 e7
    rw [zf] at e6
    rw [zi] at e8
    obtain ⟨s, rfl, hs⟩ := one_str us (v := v0) e0
    obtain ⟨L1, a1, a2, a3, a4⟩ := one_tR (v := v1) conv1 uc zec (by decide) lc e1
    obtain ⟨L2, b1, b2, b3, b4⟩ := one_iR (v := v2) un ui zi e2
    obtain ⟨L3, c1, c2, c3, c4⟩ := one_iR (v := v3) un ui zi e3
    obtain ⟨L4, d1, d2, d3, d4⟩ := one_iR (v := v4) un ui zi e4
    obtain ⟨L5, f1, f2, f3, f4⟩ := one_iR (v := v5) un ui zi e5
    obtain ⟨L6, g1, g2, g3, g4⟩ := one_tR (v := v6) conv2 uf zef (by decide) lf e6
    obtain ⟨L7, h1, h2, h3, h4⟩ := one_iR (v := v7) un ui zi e7
    obtain ⟨n, rfl, hn⟩ := one_int ui (v := v8) e8
    refine ⟨⟨s, L1, L2, L3, L4, L5, L6, L7, n⟩, ⟨⟨hs, a1, b1, c1, d1, f1, g1, h1⟩, hn, a2, g2, b2, c2, d2, f2, h2⟩, .agg _ _ rfl ?_ ?_⟩
    · intro c hc
      simp at hc
      rcases hc with rfl | rfl | rfl | rfl | rfl | rfl | rfl | rfl | rfl
      · rfl
      · exact a3
      · exact b3
      · exact c3
      · exact d3
      · exact f3
      · exact g3
      · exact h3
      · rfl
    · intro j x c hx hc
      match j, hx, hc with
      | 0, hx, hc => simp at hx hc; subst hx hc; exact .v _ rfl
      | 1, hx, hc => simp at hx hc; subst hx hc; exact a4
      | 2, hx, hc => simp at hx hc; subst hx hc; exact b4
      | 3, hx, hc => simp at hx hc; subst hx hc; exact c4
      | 4, hx, hc => simp at hx hc; subst hx hc; exact d4
      | 5, hx, hc => simp at hx hc; subst hx hc; exact f4
      | 6, hx, hc => simp at hx hc; subst hx hc; exact g4
      | 7, hx, hc => simp at hx hc; subst hx hc; exact h4
      | 8, hx, hc => simp at hx hc; subst hx hc; exact .v _ rfl
      | j + 9, hx, hc => simp at hx
def inT (t : Tok) : Prop := bigT t ∧ (∀ a ∈ t.r, inI a) ∧ (∀ a ∈ t.c, inI a)
theorem open_tkX {H : Type} {enc : TypeId × Value → H} {P : Program} {w : World} {held : Bool} {fuel T tn ti : Nat} {cs : Array Value} {x : DataW H × List MemPlace} {fs : Array Field}
    (hT : P.underlying T = some (.struct fs)) (hF : (fs.toList.map fun f => (f.type, f.offset)) = [(tn, 0), (tn, 1)])
    (un : P.underlying tn = some (.slice ti)) (zn : P.cellsOf tn = 1)
    (ui : P.underlying ti = some (.int .i64)) (zi : P.cellsOf ti = 1)
    (hz : cs.size = 2) (h : DataW.trod enc P w 0 (fun _ => true) held fuel T cs.toList = some x) :
    ∃ c : Tok, inT c ∧ Rep w (fun b => b < w.heap.size) Pl.none (.agg cs) (.agg (tkX c)) := by
  have k := trod_fields hT hF h
  match cs, hz, k with
  | ⟨[v2, v3]⟩, _, k =>
    obtain ⟨y2, m2, e2⟩ := k 0 tn 0 rfl
    obtain ⟨y3, m3, e3⟩ := k 1 tn 1 rfl
    rw [zn] at e2 e3
    obtain ⟨L2, b1, b2, b3, b4⟩ := one_iR (v := v2) un ui zi e2
    obtain ⟨L3, c1, c2, c3, c4⟩ := one_iR (v := v3) un ui zi e3
    refine ⟨⟨L2, L3⟩, ⟨⟨b1, c1⟩, b2, c2⟩, .agg _ _ rfl ?_ ?_⟩
    · intro c hc
      simp at hc
      rcases hc with rfl | rfl
      · exact b3
      · exact c3
    · intro j x c hx hc
      match j, hx, hc with
      | 0, hx, hc => simp at hx hc; subst hx hc; exact b4
      | 1, hx, hc => simp at hx hc; subst hx hc; exact c4
      | j + 2, hx, hc => simp at hx
end Go.Proofs
