/-
  What is proved here: the given statement FnExactMostInWindowSaid, by the contract of the law's function. Condition: none.
-/
import Derived.Test.YtoefkakkcoinkaaRows
import Derived.Test.YtoefkakkcoinkaaM3p
import Derived.Test.YtoefkakkcoinkaaAbs24
import Derived.WalkKit
import Derived.ProofKit
import Derived.OpenShut
import Derived.ShutString
import Derived.ChangeOld
import Derived.Below
namespace Go.Proofs.Ytoefkakkcoinkaa.lawMostInWindow
open Go.ChangeShapes Go.WideShapes Go.ChangeAt Go.RowKit Go.Abs
set_option linter.unusedVariables false
set_option linter.unusedSimpArgs false
set_option linter.unnecessarySimpa false

theorem own : ownKnob Try.prog.godebug = none := by kernel_rfl
theorem laidOut : laidOutB Try.prog = true := by kernel_rfl

theorem u31 : Try.prog.underlying 31 = some (.slice 73) := by kernel_rfl
theorem cc73 : Try.prog.cellsOf 73 = 5 := by kernel_rfl
def qEvt (a : Evt) : Prop := inI a.tick ∧ inI a.kind ∧ inI a.cls ∧ inI a.pkt ∧ inI a.size
theorem convEvt : ∀ r : List Value, r.length = 5 → (∀ p ∈ [(0, 0), (0, 1), (0, 2), (0, 3), (0, 4)], ∃ v, r[p.2]? = some v ∧ leafOk p.1 v) → ∃ a : Evt, r = Rw.enc a ∧ qEvt a := by
  intro r hz h
  obtain ⟨v0, e0, x0, rfl, w0⟩ := h (0, 0) (by simp)
  obtain ⟨v1, e1, x1, rfl, w1⟩ := h (0, 1) (by simp)
  obtain ⟨v2, e2, x2, rfl, w2⟩ := h (0, 2) (by simp)
  obtain ⟨v3, e3, x3, rfl, w3⟩ := h (0, 3) (by simp)
  obtain ⟨v4, e4, x4, rfl, w4⟩ := h (0, 4) (by simp)
  refine ⟨⟨x0, x1, x2, x3, x4⟩, ?_, ⟨wf_rng w0, wf_rng w1, wf_rng w2, wf_rng w3, wf_rng w4⟩⟩
  match r, hz with
  | [y0, y1, y2, y3, y4], _ => simp_all [Rw.enc]
theorem lf73 : leafT Try.prog 4 73 = some [(0, 0), (0, 1), (0, 2), (0, 3), (0, 4)] := by kernel_rfl
theorem u3 : Try.prog.underlying 3 = some (.int .i64) := by kernel_rfl
theorem u33 : Try.prog.underlying 33 = some (.slice 3) := by kernel_rfl
theorem cc3 : Try.prog.cellsOf 3 = 1 := by kernel_rfl
theorem u4 : Try.prog.underlying 4 = some (.bool) := by kernel_rfl

theorem walk (v0 : Value) (v1 : Value) (v2 : Value) (x0 : List Evt) (x1 : List Int) (x2 : Int) (w : World) (h0 : x0.length ≤ maxLen) (q0 : ∀ a ∈ x0, qEvt a) (h1 : x1.length ≤ maxLen) (q1 : ∀ n ∈ x1, inI n) (q2 : inI x2) (r0 : Rep w (fun b => b < w.heap.size) Pl.none v0 (.sl (tR x0))) (r1 : Rep w (fun b => b < w.heap.size) Pl.none v1 (.sl (iR x1))) (r2 : Rep w (fun b => b < w.heap.size) Pl.none v2 (I x2)) :
    Calls Try.prog 5 #[v0, v1, v2] w fun e w' => e = .returned (.bool true) ∧ Below w.heap.size w w' := by
  refine law_walkA c5 w _ [.sl (tR x0), .sl (iR x1), I x2] (amb_none) (F5_mk x0 x1 x2 (⟨h0, h1⟩)) (F5_res x0 x1 x2) rfl ?_
  intro j x v hx hv
  match j, hx, hv with
  | 0, hx, hv =>
    simp at hx hv
    subst hx hv
    exact r0
  | 1, hx, hv =>
    simp at hx hv
    subst hx hv
    exact r1
  | 2, hx, hv =>
    simp at hx hv
    subst hx hv
    exact r2
  | j + 3, hx, hv => simp at hx

set_option maxRecDepth 100000 in
theorem lifted (os : Os) (started : os.Started) (H : Type) (enc : TypeId × Value → H) :
    ReturnsInHanded {} Try.checked os 5 .any (Rows.fnExactMostInWindowSpec.pre6 enc Try.prog Try.f5 Rows.fnExactMostInWindowRow.domain false) (Rows.fnExactMostInWindowSpec.post enc Try.prog Try.f5 false true false false) := by
  refine returnsInHanded_of_change (C := Try.checked) own started (by kernel_rfl) Try.func5
    (ChangeSpec.witness6 (enc := enc) (C := Try.checked) false ⟨#[], #[.slice none 0 0, .slice none 0 0, .int .i64 0], []⟩ 8 (by kernel_rfl) (by kernel_rfl) (by kernel_rfl) (by kernel_rfl)) ?_
  intro W base args ds gs before hval0 hW hcnd _
  have hval : ∀ (j : Nat) t v, Try.f5.params[j]? = some t → args[j]? = some v → Value.okWide Try.prog W .any base t v := hval0
  have hW' := hW
  obtain ⟨p, q, hA0, hV, rfl, hfz, hnd⟩ := hW
  have hA : DataW.TrodAll enc Try.prog W 0 (fun _ => true) true Try.f5.params.toList args.toList ds p := hA0
  rw [Try.params5] at hA hval
  obtain ⟨v0, vs0, d0, ds0, p0, q0, hargs, rfl, rfl, g0, t0⟩ := trodAll_cons hA
  obtain ⟨v1, vs1, d1, ds1, p1, q1, rfl, rfl, rfl, g1, t1⟩ := trodAll_cons t0
  obtain ⟨v2, vs2, d2, ds2, p2, q2, rfl, rfl, rfl, g2, t2⟩ := trodAll_cons t1
  obtain ⟨rfl, rfl, rfl⟩ := trodAll_nil t2
  obtain rfl : args = #[v0, v1, v2] := by cases args; simp_all
  obtain ⟨rfl, rfl⟩ := trodVars_none hV
  have k0 := g0
  have lt0 : ∀ x ∈ p0, x.block < W.heap.size := by obtain ⟨m, hm⟩ := k0; exact DataW.trod_lt m _ _ _ hm
  obtain ⟨x0, h0, q0, r0⟩ : ∃ x : List Evt, x.length ≤ maxLen ∧ (∀ a ∈ x, qEvt a) ∧ Rep W (fun b => b < W.heap.size) Pl.none v0 (.sl (tR x)) := by
    obtain ⟨a, len, cap, rfl⟩ := okWide_slice u31 (hval 0 31 v0 rfl rfl)
    obtain ⟨fuel, hf⟩ := g0
    exact open_tR convEvt u31 cc73 (by decide) lf73 hf
  have k1 := g1
  have lt1 : ∀ x ∈ p1, x.block < W.heap.size := by obtain ⟨m, hm⟩ := k1; exact DataW.trod_lt m _ _ _ hm
  obtain ⟨x1, h1, q1, r1⟩ : ∃ x : List Int, x.length ≤ maxLen ∧ (∀ n ∈ x, inI n) ∧ Rep W (fun b => b < W.heap.size) Pl.none v1 (.sl (iR x)) := by
    obtain ⟨a, len, cap, rfl⟩ := okWide_slice u33 (hval 1 33 v1 rfl rfl)
    obtain ⟨fuel, hf⟩ := g1
    exact open_iR u33 u3 cc3 hf
  have k2 := g2
  have lt2 : ∀ x ∈ p2, x.block < W.heap.size := by obtain ⟨m, hm⟩ := k2; exact DataW.trod_lt m _ _ _ hm
  obtain ⟨x2, q2, r2⟩ : ∃ x : Int, inI x ∧ Rep W (fun b => b < W.heap.size) Pl.none v2 (I x) := by
    obtain ⟨x, rfl, _, _, hw⟩ := open_int u3 (hval 2 3 v2 rfl rfl) g2
    exact ⟨x, wf_rng hw, .v _ rfl⟩
  clear hA0 hval0
  refine (walk v0 v1 v2 x0 x1 x2 W h0 q0 h1 q1 q2 r0 r1 r2).mono fun e W' ⟨he, bel⟩ => ?_
  subst he
  exact ⟨_, rfl, _, _, _, [], _, [], hW', trodAll_mk1 (shut_bool u4 _), (trodAll_cons_mk (Below.trod laidOut (by kernel_rfl) (of_decide_eq_true (by kernel_rfl)) k0 bel lt0) (trodAll_cons_mk (Below.trod laidOut (by kernel_rfl) (of_decide_eq_true (by kernel_rfl)) k1 bel lt1) (trodAll_cons_mk (Below.trod laidOut (by kernel_rfl) (of_decide_eq_true (by kernel_rfl)) k2 bel lt2) trodAll_mk0))), rfl, bel.frame _, fun h => by cases h⟩

theorem over : Rows.fnExactMostInWindowRow.holds Try.pinned (OpenSpec.ofChange Rows.fnExactMostInWindowSpec) :=
  OpenClaim.holds_of_wide 5 Try.f5 rfl rfl rfl rfl rfl rfl rfl ⟨rfl, rfl, rfl, rfl, rfl⟩ rfl rfl rfl rfl rfl (by kernel_rfl) Try.func5 (by kernel_rfl)
    (of_decide_eq_true (by kernel_rfl)) (by unfold Func.isWrapper; first | (rw [if_pos (by decide +kernel)]; kernel_rfl) | (rw [if_neg (by decide +kernel)]; exact ⟨rfl, rfl⟩))
    (fun os started H enc _ => lifted os started H enc)

theorem proved : Rows.FnExactMostInWindowSaid := over
#print axioms proved
end Go.Proofs.Ytoefkakkcoinkaa.lawMostInWindow
