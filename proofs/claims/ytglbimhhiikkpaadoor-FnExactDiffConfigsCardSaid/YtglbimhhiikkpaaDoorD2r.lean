/-
  What is proved here: the differences of two configurations; plain laws. Condition: none.
-/
import Derived.Test.YtglbimhhiikkpaaDoorD1r
import Derived.Test.YtglbimhhiikkpaaDoorD0r
namespace Go.Proofs
open Go.Abs
set_option linter.unusedSimpArgs false
set_option linter.unnecessarySimpa false
set_option linter.unusedVariables false
set_option maxHeartbeats 8000000
set_option maxRecDepth 20000

def chOb (l : List Chg) : Ob := tOb 67 16 l
def chDropF (p : Int) : Chg := ⟨3, ⟨#[]⟩, p, 0, 0, 0, 0, 0, 0, 0, 0, 0, 0, 0, 0, 0⟩
def chDropC (p : Int) : Chg := ⟨4, ⟨#[]⟩, p, 0, 0, 0, 0, 0, 0, 0, 0, 0, 0, 0, 0, 0⟩
def chName (s : ByteArray) : Chg := ⟨1, s, 0, 0, 0, 0, 0, 0, 0, 0, 0, 0, 0, 0, 0, 0⟩
def chDef (p : Int) : Chg := ⟨2, ⟨#[]⟩, p, 0, 0, 0, 0, 0, 0, 0, 0, 0, 0, 0, 0, 0⟩
def chPutC (x : Cls) : Chg := ⟨5, ⟨#[]⟩, 0, x.id, x.par, x.rate, x.ceil, x.burst, x.cburst, x.prio, x.lim, 0, 0, 0, 0, 0⟩
def chPutF (x : Fil) : Chg := ⟨6, ⟨#[]⟩, 0, 0, 0, 0, 0, 0, 0, 0, 0, x.prio, x.field, x.mask, x.value, x.target⟩
def fmL {α : Type} (p : α → Bool) (g : α → Chg) (l : List α) (k : Nat) : List Chg := ((l.take k).filter p).map g
theorem fmL_succ {α : Type} (p : α → Bool) (g : α → Chg) (l : List α) (k : Nat) (h : k < l.length) : fmL p g l (k + 1) = fmL p g l k ++ (if p l[k] = true then [g l[k]] else []) := by
  unfold fmL
  rw [takeS l k h, List.filter_append, List.map_append]
  cases hq : p l[k] <;> simp [hq, List.filter_cons]
@[simp] theorem fmL_zero {α : Type} (p : α → Bool) (g : α → Chg) (l : List α) : fmL p g l 0 = [] := rfl
theorem fmL_len {α : Type} (p : α → Bool) (g : α → Chg) (l : List α) (k : Nat) : (fmL p g l k).length ≤ k := by
  unfold fmL
  rw [List.length_map]
  exact Nat.le_trans (List.length_filter_le _ _) (by simp; omega)
def dA (c d : Cfg) (k : Nat) : List Chg := fmL (fun x : Fil => decide (pidx d.fil x.prio < 0)) (fun x => chDropF x.prio) c.fil k
def dB (c d : Cfg) (k : Nat) : List Chg := fmL (fun x : Cls => decide (fidx d.cls x.id < 0)) (fun x => chDropC x.id) c.cls k
def dC (c d : Cfg) : List Chg := if (c.name.toList == d.name.toList) = true then [] else [chName d.name]
def dD (c d : Cfg) (k : Nat) : List Chg := fmL (fun x : Cls => !c.cls.any (Cls.eqB x)) chPutC d.cls k
def dE (c d : Cfg) (k : Nat) : List Chg := fmL (fun x : Fil => !c.fil.any (Fil.eqB x)) chPutF d.fil k
def dF (c d : Cfg) : List Chg := if c.dflt = d.dflt then [] else [chDef d.dflt]
def p1 (c d : Cfg) : List Chg := dA c d c.fil.length
def p2 (c d : Cfg) : List Chg := p1 c d ++ dB c d c.cls.length
def p3 (c d : Cfg) : List Chg := p2 c d ++ dC c d
def p4 (c d : Cfg) : List Chg := p3 c d ++ dD c d d.cls.length
def p5 (c d : Cfg) : List Chg := p4 c d ++ dE c d d.fil.length
def diffL (c d : Cfg) : List Chg := p5 c d ++ dF c d
theorem dC_len (c d : Cfg) : (dC c d).length ≤ 1 := by unfold dC; split <;> simp
theorem dF_len (c d : Cfg) : (dF c d).length ≤ 1 := by unfold dF; split <;> simp
theorem p1_len (c d : Cfg) : (p1 c d).length ≤ c.fil.length := fmL_len _ _ _ _
theorem p2_len (c d : Cfg) : (p2 c d).length ≤ c.fil.length + c.cls.length := by
  have := p1_len c d
  have := fmL_len (fun x : Cls => decide (fidx d.cls x.id < 0)) (fun x => chDropC x.id) c.cls c.cls.length
  simp only [p2, dB, List.length_append]; omega
theorem p3_len (c d : Cfg) : (p3 c d).length ≤ c.fil.length + c.cls.length + 1 := by
  have := p2_len c d
  have := dC_len c d
  simp only [p3, List.length_append]; omega
theorem p4_len (c d : Cfg) : (p4 c d).length ≤ c.fil.length + c.cls.length + 1 + d.cls.length := by
  have := p3_len c d
  have := fmL_len (fun x : Cls => !c.cls.any (Cls.eqB x)) chPutC d.cls d.cls.length
  simp only [p4, dD, List.length_append]; omega
theorem p5_len (c d : Cfg) : (p5 c d).length ≤ c.fil.length + c.cls.length + 1 + d.cls.length + d.fil.length := by
  have := p4_len c d
  have := fmL_len (fun x : Fil => !c.fil.any (Fil.eqB x)) chPutF d.fil d.fil.length
  simp only [p5, dE, List.length_append]; omega
theorem diffL_len (c d : Cfg) : (diffL c d).length ≤ c.fil.length + c.cls.length + d.cls.length + d.fil.length + 2 := by
  have := p5_len c d
  have := dF_len c d
  simp only [diffL, List.length_append]; omega
/-- one of the rows goes on, or not -/
theorem fm_yes {α : Type} (P : List Chg) (p : α → Bool) (g : α → Chg) (l : List α) (k : Nat) (h : k < l.length) (hq : p l[k] = true) : tR (P ++ fmL p g l k) ++ [rX (g l[k])] = tR (P ++ fmL p g l (k + 1)) := by
  rw [fmL_succ p g l k h, if_pos hq, tR_one, tR_append, List.append_assoc]
theorem fm_yes0 {α : Type} (p : α → Bool) (g : α → Chg) (l : List α) (k : Nat) (h : k < l.length) (hq : p l[k] = true) : tR (fmL p g l k) ++ [rX (g l[k])] = tR (fmL p g l (k + 1)) := by
  rw [fmL_succ p g l k h, if_pos hq, tR_one, tR_append]
theorem fm_no {α : Type} (p : α → Bool) (g : α → Chg) (l : List α) (k : Nat) (h : k < l.length) (hq : p l[k] = false) : fmL p g l (k + 1) = fmL p g l k := by
  rw [fmL_succ p g l k h, hq, if_neg (by simp), List.append_nil]
end Go.Proofs
