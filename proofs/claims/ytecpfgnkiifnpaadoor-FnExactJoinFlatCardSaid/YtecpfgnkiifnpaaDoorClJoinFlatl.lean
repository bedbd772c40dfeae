/-
  What is proved here: the given statement FnExactJoinFlatCardSaid, by the contract of the law's function. Condition: none beyond the card's own (the listed variable holds what the program's text lays).
-/
import Derived.Test.YtecpfgnkiifnpaaDoorRows
import Derived.Test.YtecpfgnkiifnpaaDoorTie
import Derived.Test.YtecpfgnkiifnpaaDoorCards
import Derived.Test.YtecpfgnkiifnpaaDoorFR25l
import Derived.Test.YtecpfgnkiifnpaaDoorAbsF
import Derived.WalkKit
import Derived.ProofKit
import Derived.OpenShut
import Derived.ShutString
import Derived.ChangeOld
import Derived.Below
import Derived.Lib.LaidTab
import Derived.LaidMore
import Derived.OpenVars
import Derived.SevenTiedAt
import Derived.Stop.Joined

namespace Go.Proofs.YtecpfgnkiifnpaaDoor.lawJoinFlat
open Go.ChangeShapes Go.WideShapes Go.ChangeAt Go.RowKit Go.Abs
set_option linter.unusedVariables false
set_option linter.unusedSimpArgs false
set_option linter.unnecessarySimpa false
theorem own : ownKnob Tryd.prog.godebug = none := by kernel_rfl
theorem laidOut : laidOutB Tryd.prog = true := by kernel_rfl
theorem u9 : Tryd.prog.underlying 9 = some (.string) := by kernel_rfl
theorem u4 : Tryd.prog.underlying 4 = some (.bool) := by kernel_rfl
theorem gKw : Tryd.prog.globalNamed "loop.example/g00838/impl.keyWords" = some 2 := by kernel_rfl
theorem tKw : (Tryd.prog.globals[2]?).map (·.type) = some 138 := by kernel_rfl
theorem uKw : Tryd.prog.underlying 138 = some (.array 14 9) := by kernel_rfl
theorem eKw : Tryd.prog.underlying 9 = some .string := by kernel_rfl
theorem cKw : Tryd.prog.cellsOf 9 = 1 := by kernel_rfl
theorem dKw : Tryd.prog.cellsOf 138 = 14 := by kernel_rfl
def laidL : List (String × DataW Unit) := [("loop.example/g00838/impl.keyWords", Rows.laid_loop_example_g00838_impl_keyWords)]
set_option maxRecDepth 100000 in
theorem door_met (os : Os) (args : Array Value) : laidMetH Tryd.prog laidL ((World.doorLaid Tryd.prog 400 os).forCall (fun _ _ => 0) ⟨#[], args, []⟩).memory :=
  laidMetH_of_parts3 (fuel := 8) (laidMet_of_run' 8 (by kernel_rfl) (by kernel_rfl)) (by kernel_rfl) (by kernel_rfl)
theorem of_laid {W : World} (h : laidMetH Tryd.prog laidL W) : Amb W (fun b => b < W.heap.size) K := by
  rw [MakeChecks.laidMetH_plain _ _ _ (by kernel_rfl)] at h
  obtain ⟨ps, ⟨g1, t1, cs1, f1, p1, q1, hg1, ht1, hv1, hd1, _, _⟩, _, _⟩ := h
  obtain rfl := Option.some.inj (gKw.symm.trans hg1)
  obtain rfl := Option.some.inj (tKw.symm.trans ht1)
  exact (amb_var hg1 hv1 (laid_strs_all (bs := kws) uKw eKw cKw dKw hd1 rfl rfl) (by decide) (by decide) amb_none)
theorem walk (v0 : Value) (v1 : Value) (x0 : ByteArray) (x1 : ByteArray) (w : World) (h0 : x0.size ≤ maxLen) (h1 : x1.size ≤ maxLen) (r0 : Rep w (fun b => b < w.heap.size) Pl.none v0 (Sx x0)) (r1 : Rep w (fun b => b < w.heap.size) Pl.none v1 (Sx x1)) (hL : laidMetH Tryd.prog laidL w) :
    Calls Tryd.prog 3 #[v0, v1] w fun e w' => e = .returned (.bool true) ∧ Below w.heap.size w w' := by
  refine law_walkA c3 w _ [Sx x0, Sx x1] (of_laid hL) (F3_mk x0 x1 (trivial)) (F3_res x0 x1) rfl ?_
  intro j x v hx hv
  match j, hx, hv with
  | 0, hx, hv =>
    simp at hx hv
    subst hx hv
    exact r0
  | 1, hx, hv =>
    simp at hx hv
    subst hx hv
    exact r1
  | j + 2, hx, hv => simp at hx
set_option maxRecDepth 100000 in
theorem lifted (os : Os) (started : os.Started) (H : Type) (enc : TypeId × Value → H) :
    ReturnsInHanded {} Tryd.checked os 3 .any (fun w args => (Rows.fnExactJoinFlatSpec.pre enc Tryd.prog Tryd.f3 [] false w args ∧ laidMetH Tryd.prog laidL w) ∧ sizedMet enc Tryd.prog Tryd.f3 (OpenSpec.ofChange Rows.fnExactJoinFlatSpec) false w args)
      (Rows.fnExactJoinFlatSpec.post enc Tryd.prog Tryd.f3 false true false false) := by
  refine returnsInHanded_of_change_and (C := Tryd.checked) (X := fun w _ => laidMetH Tryd.prog laidL w) (fun _ _ _ hh h => h.of_heap hh) own started (by kernel_rfl) Tryd.func3
    (ChangeSpec.witness_shaped (enc := enc) (C := Tryd.checked) (os := os) (X := fun w _ => laidMetH Tryd.prog laidL w) false (World.doorLaid Tryd.prog 400 os) #[.string ⟨#[]⟩, .string ⟨#[]⟩] 8 rfl (World.shaped_of_RefB (by kernel_rfl) (by kernel_rfl)) (by kernel_rfl) (by kernel_rfl) (by kernel_rfl) (door_met os _)) ?_
  intro W base args ds gs before hval0 hW _ _ hL _
  have hval : ∀ (j : Nat) t v, Tryd.f3.params[j]? = some t → args[j]? = some v → Value.okWide Tryd.prog W .any base t v := hval0
  have hW' := hW
  obtain ⟨p, q, hA0, hV, rfl, hfz, hnd⟩ := hW
  have hA : DataW.TrodAll enc Tryd.prog W 0 (fun _ => true) true Tryd.f3.params.toList args.toList ds p := hA0
  rw [Tryd.params3] at hA hval
  obtain ⟨v0, vs0, d0, ds0, p0, q0, hargs, rfl, rfl, g0, t0⟩ := trodAll_cons hA
  obtain ⟨v1, vs1, d1, ds1, p1, q1, rfl, rfl, rfl, g1, t1⟩ := trodAll_cons t0
  obtain ⟨rfl, rfl, rfl⟩ := trodAll_nil t1
  obtain rfl : args = #[v0, v1] := by cases args; simp_all
  have k0 := g0
  have lt0 : ∀ x ∈ p0, x.block < W.heap.size := by obtain ⟨m, hm⟩ := k0; exact DataW.trod_lt m _ _ _ hm
  obtain ⟨x0, h0, r0⟩ : ∃ x : ByteArray, x.size ≤ maxLen ∧ Rep W (fun b => b < W.heap.size) Pl.none v0 (Sx x) := by
    obtain ⟨x, rfl, _, _, hw⟩ := Go.ChangeMaps.open_string u9 (hval 0 9 v0 rfl rfl) g0
    exact ⟨x, hw, .v _ rfl⟩
  have k1 := g1
  have lt1 : ∀ x ∈ p1, x.block < W.heap.size := by obtain ⟨m, hm⟩ := k1; exact DataW.trod_lt m _ _ _ hm
  obtain ⟨x1, h1, r1⟩ : ∃ x : ByteArray, x.size ≤ maxLen ∧ Rep W (fun b => b < W.heap.size) Pl.none v1 (Sx x) := by
    obtain ⟨x, rfl, _, _, hw⟩ := Go.ChangeMaps.open_string u9 (hval 1 9 v1 rfl rfl) g1
    exact ⟨x, hw, .v _ rfl⟩
  clear hA0 hval0
  match gs, hV with
  | [], hV => exact absurd hV (by intro h; cases h)
  | g1 :: g2 :: gs, hV => exact absurd hV (by rintro ⟨_, _, _, _, _, _, _, _, _, _, h, _⟩; cases h)
  | [g1], hV =>
    refine (walk v0 v1 x0 x1 W h0 h1 r0 r1 hL).mono fun e W' ⟨he, bel⟩ => ?_
    subst he
    exact ⟨_, rfl, _, _, _, [], _, _, hW', trodAll_mk1 (shut_bool u4 _), (trodAll_cons_mk (Below.trod laidOut (by kernel_rfl) (of_decide_eq_true (by kernel_rfl)) k0 bel lt0) (trodAll_cons_mk (Below.trod laidOut (by kernel_rfl) (of_decide_eq_true (by kernel_rfl)) k1 bel lt1) trodAll_mk0)), Below.trodVars laidOut bel (by kernel_rfl) hV, bel.frame _, fun h => by cases h⟩
theorem over : Rows.fnExactJoinFlatRow.holds Tryd.pinned (OpenSpec.ofChange Rows.fnExactJoinFlatSpec) :=
  OpenClaim.holds_of_wide 3 Tryd.f3 rfl rfl rfl rfl rfl rfl rfl ⟨rfl, rfl, rfl, rfl, rfl⟩ rfl rfl rfl rfl rfl (by kernel_rfl) Tryd.func3 (by kernel_rfl)
    (of_decide_eq_true (by kernel_rfl)) (by unfold Func.isWrapper; first | (rw [if_pos (by decide +kernel)]; kernel_rfl) | (rw [if_neg (by decide +kernel)]; exact ⟨rfl, rfl⟩))
    (fun os started H enc _ => lifted os started H enc)
theorem proved : Rows.FnExactJoinFlatCardSaid :=
  Claim7.holds_tied_plain_at .later [] [.data] true (true, "14ab636a0c061b0acaa288f53437b899bdee3e80a2584d0b6dffdf82a581d770") true
    over (fun _ h => by cases h) (by kernel_rfl) (fun _ h => by cases h) fnExactJoinFlat_row_tie rfl ⟨rfl, rfl⟩ (by kernel_rfl) rfl
    (fun f fn hf hfn => by
      obtain rfl : f = 3 := Option.some.inj ((show Tryd.prog.funcNamed "loop.example/g00838/laws.FnExactJoinFlat" = some 3 by kernel_rfl).symm.trans hf) |>.symm
      obtain rfl : fn = Tryd.f3 := (Option.some.inj (Tryd.func3.symm.trans hfn)).symm
      exact ⟨by kernel_rfl, fun j t ht => by
        rw [Tryd.params3] at ht
        have hm : t ∈ [9, 9] := by simpa using Array.mem_of_getElem? ht
        have hall : ([9, 9].all fun u => !Tryd.prog.wantsStandIn u) = true := by kernel_rfl
        exact (show Tryd.prog.wantsStandIn t = false by simpa using List.all_eq_true.1 hall t hm)⟩)
    (by kernel_rfl)
#print axioms proved
end Go.Proofs.YtecpfgnkiifnpaaDoor.lawJoinFlat
