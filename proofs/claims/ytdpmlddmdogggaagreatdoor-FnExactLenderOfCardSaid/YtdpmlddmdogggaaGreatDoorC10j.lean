/-
  What is proved here: contracts of slices.Index and Contains on classes, and of both KeptClasses. Condition: none.
-/
import Derived.Test.YtdpmlddmdogggaaGreatDoorCfC
import Derived.Test.YtdpmlddmdogggaaGreatDoorI1j
namespace Go.Proofs
open Go.Abs
set_option linter.unusedSimpArgs false
set_option linter.unnecessarySimpa false
set_option linter.unusedVariables false
set_option maxHeartbeats 4000000
set_option maxRecDepth 20000
theorem ids_lt {l : List Cls} (h : (List.range l.length).all (upP l) = true) : ∀ d i, i + d + 1 < l.length → (atC l i).id < (atC l (i + d + 1)).id := by
  have h1 : ∀ i, i + 1 < l.length → (atC l i).id < (atC l (i + 1)).id := fun i hi => by
    have := all_range.1 h (i + 1) hi
    simpa [upP] using this
  intro d
  induction d with
  | zero => exact fun i hi => h1 i hi
  | succ d ih => exact fun i hi => Int.lt_trans (ih i (by omega)) (h1 (i + d + 1) hi)
theorem ids_inj {l : List Cls} (h : (List.range l.length).all (upP l) = true) {i j : Nat} (hi : i < l.length) (hj : j < l.length) (e : (atC l i).id = (atC l j).id) : i = j := by
  rcases Nat.lt_trichotomy i j with h1 | h1 | h1
  · have := ids_lt h (j - i - 1) i (by omega)
    rw [show i + (j - i - 1) + 1 = j by omega] at this
    omega
  · exact h1
  · have := ids_lt h (i - j - 1) j (by omega)
    rw [show j + (i - j - 1) + 1 = i by omega] at this
    omega
theorem fidx_at {l : List Cls} (h : (List.range l.length).all (upP l) = true) (i : Nat) (hi : i < l.length) : fidx l l[i].id = (i : Int) := by
  have : l.findIdx? (fun x => decide (x.id = l[i].id)) = some i := by
    rw [List.findIdx?_eq_some_iff_getElem]
    refine ⟨hi, by simp, fun j hj => ?_⟩
    have hj' : j < l.length := by omega
    simp only [decide_eq_true_eq]
    intro e
    have := ids_inj h hj' hi (by rw [atC_eq hj', atC_eq hi]; exact e)
    omega
  simp [fidx, this]
theorem fidx_id {l : List Cls} {id : Int} {j : Nat} (h : fidx l id = j) : ∃ hj : j < l.length, l[j].id = id := by
  unfold fidx at h
  cases hf : l.findIdx? (fun x => decide (x.id = id)) with
  | none => rw [hf] at h; simp at h
  | some i =>
    rw [hf] at h
    obtain ⟨hi, hp, _⟩ := List.findIdx?_eq_some_iff_getElem.1 hf
    simp at h hp
    have e : i = j := by omega
    subst e
    exact ⟨hi, hp⟩
theorem cfg_up {c : Cfg} (h : cfgOk c = true) : (List.range c.cls.length).all (upP c.cls) = true := by
  simp only [cfgOk, treeOk_def, Bool.and_eq_true] at h
  exact h.1.1.2.1.1.2
end Go.Proofs
