/-
  What is proved here: results of which less is said. Condition: none.
-/
import Derived.Test.YtecpfgnkiifnpaaGreatDoorAbsE
namespace Go.Abs
open Go.RowKit
/-- z says less than y: the same, or some cells of a struct left open -/
def wkC (y z : X) : Prop := z = y ∨ ∃ cs ds, y = .agg cs ∧ z = .agg ds ∧ ds.length = cs.length ∧ ∀ (i : Nat) d c, ds[i]? = some d → cs[i]? = some c → d = c ∨ d = .top
theorem wkC.refl (x : X) : wkC x x := .inl rfl
theorem wkC.agg {cs ds : List X} (hl : ds.length = cs.length) (h : ∀ (i : Nat) d c, ds[i]? = some d → cs[i]? = some c → d = c ∨ d = .top) : wkC (.agg cs) (.agg ds) := .inr ⟨cs, ds, rfl, rfl, hl, h⟩
theorem wkC.tops (cs : List X) : wkC (.agg cs) (.agg (List.replicate cs.length .top)) := .agg (by simp) fun i d c hd _ => by
  right
  rw [List.getElem?_replicate] at hd
  split at hd
  · injection hd with hd; exact hd.symm
  · cases hd
theorem wkC.rep {w : World} {S : Nat → Prop} {β : Pl} {v : Value} {y z : X} (h : wkC y z) (hr : Rep w S β v y) : Rep w S β v z := by
  rcases h with rfl | ⟨cs, ds, rfl, rfl, hl, h⟩
  · exact hr
  · obtain ⟨vs, rfl, h1, h2, h3⟩ := hr.inv_agg
    refine .agg _ _ (h1.trans hl.symm) h2 fun j x c hx hc => ?_
    have hjc : j < cs.length := by rw [← hl]; exact (List.getElem?_eq_some_iff.1 hx).1
    rcases h j x cs[j] hx (List.getElem?_eq_getElem hjc) with rfl | rfl
    · exact h3 j _ c (List.getElem?_eq_getElem hjc) hc
    · exact .top _
theorem Fin.less {h : List Ob} {x : X} {ys zs : List X} {obs : List Ob} (h1 : Fin h x (.tup ys, obs)) (hl : zs.length = ys.length) (hz : ∀ (j : Nat) z y, zs[j]? = some z → ys[j]? = some y → wkC y z) : Fin h x (.tup zs, obs) := by
  intro c β w v hM H hr
  obtain ⟨β', a1, a2, a3⟩ := h1 c β w v hM H hr
  refine ⟨β', a1, a2, ?_⟩
  obtain ⟨cs, rfl, hlen, hrep⟩ := a3.inv_tup
  refine .tup _ _ (hlen.trans hl.symm) fun j z cc hz' hc => ?_
  have hj : j < ys.length := by rw [← hl]; exact (List.getElem?_eq_some_iff.1 hz').1
  exact (hz j z ys[j] hz' (List.getElem?_eq_getElem hj)).rep (hrep j _ cc (List.getElem?_eq_getElem hj) hc)
theorem fin_less3 {h : List Ob} {x : X} {y1 y2 y3 z1 z2 z3 : X} {obs : List Ob} (ks : List Nat) (hp : pickOk h ks) (e : (rn2 h ks x, pickObs h ks) = (.tup [y1, y2, y3], obs)) (h1 : wkC y1 z1) (h2 : wkC y2 z2) (h3 : wkC y3 z3) : Fin h x (.tup [z1, z2, z3], obs) := by
  refine Fin.less (ys := [y1, y2, y3]) (e ▸ Fin.own ks hp) rfl fun j z y hz hy => ?_
  match j, hz, hy with
  | 0, hz, hy => simp at hz hy; subst hz hy; exact h1
  | 1, hz, hy => simp at hz hy; subst hz hy; exact h2
  | 2, hz, hy => simp at hz hy; subst hz hy; exact h3
  | j + 3, hz, hy => simp at hz
end Go.Abs
