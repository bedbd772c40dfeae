/-
  What is proved here: what a valid change is, as the contracts of one step want it. Condition: none.
-/
import Derived.Test.YteleljfnjdlnkaaGreatDoorAP5x
import Derived.Test.YteleljfnjdlnkaaGreatDoorAP6x
namespace Go.Proofs
open Go.Abs Go.Srt
set_option linter.unusedSimpArgs false
set_option linter.unnecessarySimpa false
set_option linter.unusedVariables false
set_option maxHeartbeats 8000000
set_option maxRecDepth 20000

theorem clsC_id {x : Cls} (h : clsC x = true) : 1 ≤ x.id ∧ x.id ≤ 999 := by
  simp only [clsC, Cls.ok, rng, Bool.and_eq_true, decide_eq_true_eq] at h
  exact h.1.1.1.1
theorem filC_pr {x : Fil} (h : filC x = true) : 1 ≤ x.prio ∧ x.prio ≤ 99 := by
  simp only [filC, Fil.ok, rng, Bool.and_eq_true, decide_eq_true_eq] at h
  exact h.1.1.1.1.1
theorem isCh_ok {x : Chg} (h : isCh x = true) (hn : x.nm.size ≤ 1048576) : chOk2 x := by
  unfold isCh at h
  split at h
  · rename_i k
    simp only [zc, zf, Bool.and_eq_true, decide_eq_true_eq] at h
    refine ⟨⟨by omega, by omega, hn⟩, by omega, by omega, by omega, by omega, by omega, by omega, by omega, by omega, by omega, by omega⟩
  split at h
  · rename_i k
    simp only [zc, zf, rng, Bool.and_eq_true, decide_eq_true_eq] at h
    refine ⟨⟨by omega, by omega, hn⟩, by omega, by omega, by omega, by omega, by omega, by omega, by omega, by omega, by omega, by omega⟩
  split at h
  · rename_i k
    simp only [zc, zf, rng, Bool.and_eq_true, decide_eq_true_eq] at h
    refine ⟨⟨by omega, by omega, hn⟩, by omega, by omega, by omega, by omega, by omega, by omega, by omega, by omega, by omega, by omega⟩
  split at h
  · rename_i k
    simp only [zc, zf, rng, Bool.and_eq_true, decide_eq_true_eq] at h
    refine ⟨⟨by omega, by omega, hn⟩, by omega, by omega, by omega, by omega, by omega, by omega, by omega, by omega, by omega, by omega⟩
  split at h
  · rename_i k
    simp only [zf, Bool.and_eq_true, decide_eq_true_eq] at h
    have q : 1 ≤ x.a0 ∧ x.a0 ≤ 999 := clsC_id h.2
    refine ⟨⟨by omega, by omega, hn⟩, by omega, by omega, by omega, by omega, by omega, by omega, by omega, by omega, by omega, by omega⟩
  split at h
  · rename_i k
    simp only [zc, Bool.and_eq_true, decide_eq_true_eq] at h
    have q : 1 ≤ x.b0 ∧ x.b0 ≤ 99 := filC_pr h.2
    refine ⟨⟨by omega, by omega, hn⟩, by omega, by omega, by omega, by omega, by omega, by omega, by omega, by omega, by omega, by omega⟩
  · cases h
theorem apX_none : apX none = (.tup [.agg [.v (.string ⟨#[]⟩), .sl [], .sl [], I 0], B false], []) := rfl
theorem apX_some (d : Cfg) : apX (some d) = (.tup [.agg [.v (.string d.name), .osl 0 0, .osl 1 0, I d.dflt], B true], [obCls d.cls, obFil d.fil]) := rfl
theorem rpX_none : rpX none = (.tup [.agg [.v (.string ⟨#[]⟩), .sl [], .sl [], I 0], B false], []) := rfl
theorem rpX_some (d : Cfg) : rpX (some d) = (.tup [.agg (cX d), B true], []) := rfl
end Go.Proofs
