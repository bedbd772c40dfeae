/-
  What is proved here: contracts of the small checks, and of the checks of one event. Condition: none.
-/
import Derived.Test.YtecpfgnkiifnpaaDoorLBN
namespace Go.Proofs
open Go.Abs
set_option linter.unusedSimpArgs false
set_option linter.unnecessarySimpa false
set_option linter.unusedVariables false
set_option maxHeartbeats 4000000
set_option maxRecDepth 20000
structure Evt where
  tick : Int
  kind : Int
  cls : Int
  pkt : Int
  size : Int
instance : Rw Evt where
  n := 5
  enc e := [.int .i64 e.tick, .int .i64 e.kind, .int .i64 e.cls, .int .i64 e.pkt, .int .i64 e.size]
  dec l := ⟨deI (l.getD 0 .top), deI (l.getD 1 .top), deI (l.getD 2 .top), deI (l.getD 3 .top), deI (l.getD 4 .top)⟩
  len _ := rfl
  flat _ := rfl
  de _ := rfl
@[simp] theorem Evt.rXe (e : Evt) : rX e = [I e.tick, I e.kind, I e.cls, I e.pkt, I e.size] := rfl
@[simp] theorem Evt.dece (x0 x1 x2 x3 x4 : X) : (Rw.dec [x0, x1, x2, x3, x4] : Evt) = ⟨deI x0, deI x1, deI x2, deI x3, deI x4⟩ := rfl
@[simp] theorem Evt.eta (e : Evt) : (⟨e.tick, e.kind, e.cls, e.pkt, e.size⟩ : Evt) = e := rfl
def Evt.z : Evt := ⟨0, 0, 0, 0, 0⟩
def Evt.V (e : Evt) : Value := .agg #[.int .i64 e.tick, .int .i64 e.kind, .int .i64 e.cls, .int .i64 e.pkt, .int .i64 e.size]
theorem Evt.cstV (e : Evt) : cst e.V = .agg (rX e) := by simp [cst, Evt.V, plain]
/-! ### one event -/
def Evt.ok (e : Evt) : Bool := rng 0 1000000 e.tick && rng 1 4 e.kind && rng 1 100000 e.pkt && rng 1 1500 e.size && (if e.kind = 3 then decide (e.cls = 0) else rng 1 999 e.cls)
def F84 : Fun := ⟨fun xs => xs = [.agg (rX (deA (xs.getD 0 .top) : Evt))] ∧ (fun (e : Evt) => (True)) (deA (xs.getD 0 .top) : Evt), fun xs => (fun (e : Evt) => ((B e.ok, []) : X × List Ob)) (deA (xs.getD 0 .top) : Evt)⟩
theorem F84_in {xs : List X} (h : F84.pre xs) : ∃ (e : Evt), xs = [.agg (rX e)] ∧ (True) := ⟨_, h.1, h.2⟩
theorem F84_res (e : Evt) : F84.res [.agg (rX e)] = (B e.ok, []) := by simp [F84]
theorem F84_mk (e : Evt) (h : True) : F84.pre [.agg (rX e)] := by simpa [F84] using h
theorem Evt.ok_iff (e : Evt) : e.ok = true ↔ 0 ≤ e.tick ∧ e.tick ≤ 1000000 ∧ 1 ≤ e.kind ∧ e.kind ≤ 4 ∧ 1 ≤ e.pkt ∧ e.pkt ≤ 100000 ∧ 1 ≤ e.size ∧ e.size ≤ 1500 ∧ (if e.kind = 3 then e.cls = 0 else 1 ≤ e.cls ∧ e.cls ≤ 999) := by
  unfold Evt.ok rng
  by_cases h : e.kind = 3 <;> simp [h, and_assoc]
theorem c84 : GenCA K Tryd.prog 84 F84 := by
  refine contractA Tryd.mix K [(102, F102), (103, F103), (104, F104)] [] (by simp [c102, c103, c104]) (by simp) Tryd.func84 rfl (by decide) ?_
  intro xs hxs
  obtain ⟨e, rfl, hp⟩ := F84_in hxs
  rw [F84_res]
  refine ⟨by rw [Tryd.ntmps84]; simp, ?_⟩
  simp -implicitDefEqProofs [Tryd.f84, F102, F103, F104, List.lookup_cons, eS]
  refine ⟨fun h => fin_pure (by simp) ?_, fun h1 h2 h3 h4 h5 h6 => ⟨fun h7 => fin_pure (by simp) ?_, fun h7 => fin_pure (by simp) ?_⟩⟩
  · have : e.ok = false := not_true fun hk => by
      rw [Evt.ok_iff] at hk
      simp [rng] at h
      omega
    simp -implicitDefEqProofs [fS, rn0, pickObs, deI, this]
  · simp -implicitDefEqProofs [fS, rn0, pickObs, deI, Evt.ok, rng, h2, h3, h4, h5, h7]
    simp [rng] at h1 h6
    simp [h1, h6]
    rfl
  · simp -implicitDefEqProofs [fS, rn0, pickObs, deI, Evt.ok, rng, h2, h3, h4, h5, h7]
    simp [rng] at h1 h6
    simp [h1, h6]
def F55 : Fun := ⟨fun xs => xs = [.agg (rX (deA (xs.getD 0 .top) : Evt)), I (deI (xs.getD 1 .top) : Int)] ∧ (fun (e : Evt) (m : Int) => (0 ≤ m)) (deA (xs.getD 0 .top) : Evt) (deI (xs.getD 1 .top) : Int), fun xs => (fun (e : Evt) (m : Int) => ((B (e.ok && decide (m ≤ e.tick)), []) : X × List Ob)) (deA (xs.getD 0 .top) : Evt) (deI (xs.getD 1 .top) : Int)⟩
theorem F55_in {xs : List X} (h : F55.pre xs) : ∃ (e : Evt) (m : Int), xs = [.agg (rX e), I m] ∧ (0 ≤ m) := ⟨_, _, h.1, h.2⟩
theorem F55_res (e : Evt) (m : Int) : F55.res [.agg (rX e), I m] = (B (e.ok && decide (m ≤ e.tick)), []) := by simp [F55]
theorem F55_mk (e : Evt) (m : Int) (h : 0 ≤ m) : F55.pre [.agg (rX e), I m] := by simpa [F55] using h
theorem c55 : GenCA K Tryd.prog 55 F55 := by
  refine contractA Tryd.mix K [(78, F78)] [] (by simp [c78]) (by simp) Tryd.func55 rfl (by decide) ?_
  intro xs hxs
  obtain ⟨e, m, rfl, hp⟩ := F55_in hxs
  rw [F55_res]
  refine ⟨by rw [Tryd.ntmps55]; simp, ?_⟩
  simp -implicitDefEqProofs [Tryd.f55, F78, List.lookup_cons, eS]
  refine ⟨fun h => fin_pure (by simp) ?_, fun h1 h2 h3 h4 => ⟨fun h7 => fin_pure (by simp) ?_, fun h7 => fin_pure (by simp) ?_⟩⟩
  · have : (e.ok && decide (m ≤ e.tick)) = false := not_true fun hk => by
      rw [Bool.and_eq_true, Evt.ok_iff, decide_eq_true_eq] at hk
      simp [rng] at h
      omega
    simp -implicitDefEqProofs [fS, rn0, pickObs, deI, this]
  · simp [rng] at h1 h2 h3 h4
    have h0 : 0 ≤ e.tick := by omega
    simp -implicitDefEqProofs [fS, rn0, pickObs, deI, Evt.ok, rng, h1, h2, h3, h4, h7, h0]
    rfl
  · simp [rng] at h1 h2 h3 h4
    have h0 : 0 ≤ e.tick := by omega
    simp -implicitDefEqProofs [fS, rn0, pickObs, deI, Evt.ok, rng, h1, h2, h3, h4, h7, h0]
end Go.Proofs
