/-
  What is proved here: the given statement FnExactDecodeAttrsSaid, by the contract of the law's function. Condition: none.
-/
import Derived.Test.YtecpfgnkiifnpaaRows
import Derived.Test.YtecpfgnkiifnpaaDA7k
import Derived.Test.YtecpfgnkiifnpaaAbsF
import Derived.WalkKit
import Derived.ProofKit
import Derived.OpenShut
import Derived.ShutString
import Derived.ChangeOld
import Derived.Below
import Derived.Lib.LaidTab

namespace Go.Proofs.Ytecpfgnkiifnpaa.lawDecodeAttrs
open Go.ChangeShapes Go.WideShapes Go.ChangeAt Go.RowKit Go.Abs
set_option linter.unusedVariables false
set_option linter.unusedSimpArgs false
set_option linter.unnecessarySimpa false
theorem own : ownKnob Try.prog.godebug = none := by kernel_rfl
theorem laidOut : laidOutB Try.prog = true := by kernel_rfl
theorem u9 : Try.prog.underlying 9 = some (.string) := by kernel_rfl
theorem u4 : Try.prog.underlying 4 = some (.bool) := by kernel_rfl
theorem walk (v0 : Value) (x0 : ByteArray) (w : World) (h0 : x0.size ≤ maxLen) (r0 : Rep w (fun b => b < w.heap.size) Pl.none v0 (Sx x0)) :
    Calls Try.prog 3 #[v0] w fun e w' => e = .returned (.bool true) ∧ Below w.heap.size w w' := by
  refine law_walkA c3 w _ [Sx x0] (amb_none) (F3_mk x0 (trivial)) (F3_res x0) rfl ?_
  intro j x v hx hv
  match j, hx, hv with
  | 0, hx, hv =>
    simp at hx hv
    subst hx hv
    exact r0
  | j + 1, hx, hv => simp at hx
set_option maxRecDepth 100000 in
theorem lifted (os : Os) (started : os.Started) (H : Type) (enc : TypeId × Value → H) :
    ReturnsInHanded {} Try.checked os 3 .any (Rows.fnExactDecodeAttrsSpec.pre6 enc Try.prog Try.f3 Rows.fnExactDecodeAttrsRow.domain false) (Rows.fnExactDecodeAttrsSpec.post enc Try.prog Try.f3 false true false false) := by
  refine returnsInHanded_of_change (C := Try.checked) own started (by kernel_rfl) Try.func3
    (ChangeSpec.witness6 (enc := enc) (C := Try.checked) false ⟨#[], #[.string ⟨#[]⟩], []⟩ 8 (by kernel_rfl) (by kernel_rfl) (by kernel_rfl) (by kernel_rfl)) ?_
  intro W base args ds gs before hval0 hW hcnd _
  have hval : ∀ (j : Nat) t v, Try.f3.params[j]? = some t → args[j]? = some v → Value.okWide Try.prog W .any base t v := hval0
  have hW' := hW
  obtain ⟨p, q, hA0, hV, rfl, hfz, hnd⟩ := hW
  have hA : DataW.TrodAll enc Try.prog W 0 (fun _ => true) true Try.f3.params.toList args.toList ds p := hA0
  rw [Try.params3] at hA hval
  obtain ⟨v0, vs0, d0, ds0, p0, q0, hargs, rfl, rfl, g0, t0⟩ := trodAll_cons hA
  obtain ⟨rfl, rfl, rfl⟩ := trodAll_nil t0
  obtain rfl : args = #[v0] := by cases args; simp_all
  obtain ⟨rfl, rfl⟩ := trodVars_none hV
  have k0 := g0
  have lt0 : ∀ x ∈ p0, x.block < W.heap.size := by obtain ⟨m, hm⟩ := k0; exact DataW.trod_lt m _ _ _ hm
  obtain ⟨x0, h0, r0⟩ : ∃ x : ByteArray, x.size ≤ maxLen ∧ Rep W (fun b => b < W.heap.size) Pl.none v0 (Sx x) := by
    obtain ⟨x, rfl, _, _, hw⟩ := Go.ChangeMaps.open_string u9 (hval 0 9 v0 rfl rfl) g0
    exact ⟨x, hw, .v _ rfl⟩
  clear hA0 hval0
  refine (walk v0 x0 W h0 r0).mono fun e W' ⟨he, bel⟩ => ?_
  subst he
  exact ⟨_, rfl, _, _, _, [], _, [], hW', trodAll_mk1 (shut_bool u4 _), (trodAll_cons_mk (Below.trod laidOut (by kernel_rfl) (of_decide_eq_true (by kernel_rfl)) k0 bel lt0) trodAll_mk0), rfl, bel.frame _, fun h => by cases h⟩
theorem over : Rows.fnExactDecodeAttrsRow.holds Try.pinned (OpenSpec.ofChange Rows.fnExactDecodeAttrsSpec) :=
  OpenClaim.holds_of_wide 3 Try.f3 rfl rfl rfl rfl rfl rfl rfl ⟨rfl, rfl, rfl, rfl, rfl⟩ rfl rfl rfl rfl rfl (by kernel_rfl) Try.func3 (by kernel_rfl)
    (of_decide_eq_true (by kernel_rfl)) (by unfold Func.isWrapper; first | (rw [if_pos (by decide +kernel)]; kernel_rfl) | (rw [if_neg (by decide +kernel)]; exact ⟨rfl, rfl⟩))
    (fun os started H enc _ => lifted os started H enc)
theorem proved : Rows.FnExactDecodeAttrsSaid := over
#print axioms proved
end Go.Proofs.Ytecpfgnkiifnpaa.lawDecodeAttrs
