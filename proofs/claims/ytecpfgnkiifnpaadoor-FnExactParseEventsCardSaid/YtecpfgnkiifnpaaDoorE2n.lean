/-
  What is proved here: plain laws of lists of events. Condition: none.
-/
import Derived.Test.YtecpfgnkiifnpaaDoorE1n
namespace Go.Proofs
open Go.Abs
set_option linter.unusedSimpArgs false
set_option linter.unnecessarySimpa false
set_option linter.unusedVariables false
def arrv (q : Int) (e : Evt) : Bool := decide (e.kind ≠ 4) && decide (e.pkt = q)
def sntq (q : Int) (e : Evt) : Bool := decide (e.kind = 4) && decide (e.pkt = q)
def fstIn (l : List Evt) (q : Int) : Option Evt := l.find? (arrv q)
def outIn (l : List Evt) (q : Int) : Bool := l.any (sntq q)
def stepOk (p : List Evt) (e : Evt) : Bool :=
  e.ok && (match p.getLast? with | some x => decide (x.tick ≤ e.tick) | none => true) &&
  (if e.kind = 4 then (match fstIn p e.pkt with | some x => decide (x.kind = 1) && decide (x.cls = e.cls) && decide (x.size = e.size) && !outIn p e.pkt | none => false) else (fstIn p e.pkt).isNone)
def okUp (l : List Evt) (k : Nat) : Bool := (List.range k).all fun j => match l[j]? with | some e => stepOk (l.take j) e | none => false
def evsOk (l : List Evt) : Bool := decide (l.length ≤ 80) && okUp l l.length
theorem okUp_zero (l : List Evt) : okUp l 0 = true := rfl
theorem okUp_succ (l : List Evt) (k : Nat) (h : k < l.length) : okUp l (k + 1) = (okUp l k && stepOk (l.take k) l[k]) := by
  unfold okUp
  rw [List.range_succ, List.all_append]
  simp [h]
theorem okUp_le (l : List Evt) {j k : Nat} (h : j ≤ k) (hk : okUp l k = true) : okUp l j = true := by
  unfold okUp at *
  rw [List.all_eq_true] at *
  intro x hx
  exact hk x (by simp at hx ⊢; omega)
theorem evsOk_bad (l : List Evt) (k : Nat) (h : k < l.length) (hs : stepOk (l.take k) l[k] = false) : evsOk l = false := by
  unfold evsOk
  rw [Bool.and_eq_false_iff]
  right
  refine not_true fun hk => ?_
  have := okUp_le l (show k + 1 ≤ l.length by omega) hk
  rw [okUp_succ l k h, hs] at this
  simp at this
theorem okUp_at {l : List Evt} {k j : Nat} (hk : okUp l k = true) (hj : j < k) (hl : j < l.length) : stepOk (l.take j) l[j] = true := by
  have := okUp_le l (show j + 1 ≤ k by omega) hk
  rw [okUp_succ l j hl] at this
  simp at this
  exact this.2
theorem stepOk_ok {p : List Evt} {e : Evt} (h : stepOk p e = true) : e.ok = true := by
  simp [stepOk] at h; exact h.1.1
/-! ### the tables -/
def cameL (p : List Evt) : List (Int × Value) := (p.filter fun e => decide (e.kind ≠ 4)).map fun e => (e.pkt, e.V)
def sentL (p : List Evt) : List (Int × Value) := (p.filter fun e => decide (e.kind = 4)).map fun e => (e.pkt, .bool true)
theorem cameL_lookup : ∀ (p : List Evt) (q : Int), (cameL p).lookup q = (fstIn p q).map Evt.V
  | [], q => rfl
  | e :: p, q => by
    have ih := cameL_lookup p q
    unfold cameL fstIn at *
    by_cases h : e.kind = 4
    · simp [h, arrv, List.filter_cons, List.find?_cons] at ih ⊢
      exact ih
    · by_cases hq : e.pkt = q
      · simp [h, hq, arrv, List.filter_cons, List.find?_cons, List.lookup_cons]
      · have hq' : (q == e.pkt) = false := by simp; exact fun h => hq h.symm
        simp [h, hq, hq', arrv, List.filter_cons, List.find?_cons, List.lookup_cons] at ih ⊢
        exact ih
theorem sentL_lookup : ∀ (p : List Evt) (q : Int), (sentL p).lookup q = if outIn p q then some (.bool true) else none
  | [], q => rfl
  | e :: p, q => by
    have ih := sentL_lookup p q
    unfold sentL outIn at *
    by_cases h : e.kind = 4
    · by_cases hq : e.pkt = q
      · simp [h, hq, sntq, List.filter_cons, List.lookup_cons]
      · have hq' : (q == e.pkt) = false := by simp; exact fun h => hq h.symm
        simp [h, hq, hq', sntq, List.filter_cons, List.lookup_cons] at ih ⊢
        exact ih
    · simp [h, sntq, List.filter_cons] at ih ⊢
      exact ih
theorem mset_new : ∀ (l : List (Int × Value)) (n : Int) (v : Value), l.lookup n = none → mset l n v = l ++ [(n, v)]
  | [], n, v, _ => rfl
  | (a, b) :: l, n, v, h => by
    rw [List.lookup_cons] at h
    by_cases e : n = a
    · subst e; simp at h
    · have e' : (n == a) = false := by simpa using e
      rw [e'] at h
      simp only [mset]
      rw [if_neg (fun x => e x.symm), mset_new l n v h]
      rfl
theorem cameL_in (p : List Evt) (e : Evt) (h : ¬ e.kind = 4) (hn : fstIn p e.pkt = none) : mset (cameL p) e.pkt e.V = cameL (p ++ [e]) := by
  rw [mset_new _ _ _ (by rw [cameL_lookup, hn]; rfl)]
  simp [cameL, h]
theorem cameL_out (p : List Evt) (e : Evt) (h : e.kind = 4) : cameL (p ++ [e]) = cameL p := by simp [cameL, h]
theorem sentL_in (p : List Evt) (e : Evt) (h : ¬ e.kind = 4) : sentL (p ++ [e]) = sentL p := by simp [sentL, h]
theorem sentL_out (p : List Evt) (e : Evt) (h : e.kind = 4) (hn : outIn p e.pkt = false) : mset (sentL p) e.pkt (.bool true) = sentL (p ++ [e]) := by
  rw [mset_new _ _ _ (by rw [sentL_lookup, hn]; rfl)]
  simp [sentL, h]
abbrev ev0 : Evt := Evt.z
theorem cst_ev0 : cst (.agg #[.int .i64 0, .int .i64 0, .int .i64 0, .int .i64 0, .int .i64 0]) = .agg (rX ev0) := Evt.cstV ev0
theorem cst_look (o : Option Evt) : cst ((o.map Evt.V).getD (.agg #[.int .i64 0, .int .i64 0, .int .i64 0, .int .i64 0, .int .i64 0])) = .agg (rX (o.getD ev0)) := by
  cases o with
  | none => exact cst_ev0
  | some e => exact Evt.cstV e
theorem fstIn_nil (q : Int) : fstIn [] q = none := rfl
theorem outIn_nil (q : Int) : outIn [] q = false := rfl
/-! ### the first arrival in the whole list -/
def arrAt (l : List Evt) (q : Int) : Int := match l.findIdx? (arrv q) with | some i => (i : Int) | none => -1
end Go.Proofs
