/-
  What is proved here: the given statement FnExactTidyFlatCardSaid, by the contract of the law's function. Condition: none beyond the card's own (the listed variable holds what the program's text lays).
-/
import Derived.Test.YtecpfgnkiifnpaaGreatDoorRows
import Derived.Test.YtecpfgnkiifnpaaGreatDoorTie
import Derived.Test.YtecpfgnkiifnpaaGreatDoorCards
import Derived.Test.YtecpfgnkiifnpaaGreatDoorRTa
import Derived.Test.YtecpfgnkiifnpaaGreatDoorAbsF
import Derived.WalkKit
import Derived.ProofKit
import Derived.OpenShut
import Derived.ShutString
import Derived.ChangeOld
import Derived.Below
import Derived.Lib.LaidTab
import Derived.LaidMore
import Derived.OpenVars
import Derived.SevenTiedAt
import Derived.Stop.Joined

namespace Go.Proofs.YtecpfgnkiifnpaaGreatDoor.lawTidyFlat
open Go.ChangeShapes Go.WideShapes Go.ChangeAt Go.RowKit Go.Abs
set_option linter.unusedVariables false
set_option linter.unusedSimpArgs false
set_option linter.unnecessarySimpa false
theorem own : ownKnob Tryz.prog.godebug = none := by kernel_rfl
theorem laidOut : laidOutB Tryz.prog = true := by kernel_rfl
theorem u9 : Tryz.prog.underlying 9 = some (.string) := by kernel_rfl
theorem u4 : Tryz.prog.underlying 4 = some (.bool) := by kernel_rfl
theorem gPw : Tryz.prog.globalNamed "internal/strconv.uint64pow10" = some 2 := by kernel_rfl
theorem tPw : (Tryz.prog.globals[2]?).map (·.type) = some 139 := by kernel_rfl
theorem uPw : Tryz.prog.underlying 139 = some (.array 20 131) := by kernel_rfl
theorem ePw : Tryz.prog.underlying 131 = some (.int .u64) := by kernel_rfl
theorem cPw : Tryz.prog.cellsOf 131 = 1 := by kernel_rfl
theorem dPw : Tryz.prog.cellsOf 139 = 20 := by kernel_rfl
theorem gKw : Tryz.prog.globalNamed "loop.example/g00838/impl.keyWords" = some 0 := by kernel_rfl
theorem tKw : (Tryz.prog.globals[0]?).map (·.type) = some 114 := by kernel_rfl
theorem uKw : Tryz.prog.underlying 114 = some (.array 14 9) := by kernel_rfl
theorem eKw : Tryz.prog.underlying 9 = some .string := by kernel_rfl
theorem cKw : Tryz.prog.cellsOf 9 = 1 := by kernel_rfl
theorem dKw : Tryz.prog.cellsOf 114 = 14 := by kernel_rfl
def laidL : List (String × DataW Unit) := [("math/bits.deBruijn32tab", Rows.laid_math_bits_deBruijn32tab), ("math/bits.deBruijn64tab", Rows.laid_math_bits_deBruijn64tab), ("internal/strconv.uint64pow10", Rows.laid_internal_strconv_uint64pow10), ("loop.example/g00838/impl.keyWords", Rows.laid_loop_example_g00838_impl_keyWords)]
set_option maxRecDepth 100000 in
theorem door_met (os : Os) (args : Array Value) : laidMetH Tryz.prog laidL ((World.doorLaid Tryz.prog 400 os).forCall (fun _ _ => 0) ⟨#[], args, []⟩).memory :=
  laidMetH_of_parts3 (fuel := 8) (laidMet_of_run' 8 (by kernel_rfl) (by kernel_rfl)) (by kernel_rfl) (by kernel_rfl)
theorem of_laid {W : World} (h : laidMetH Tryz.prog laidL W) : Amb W (fun b => b < W.heap.size) K := by
  rw [MakeChecks.laidMetH_plain _ _ _ (by kernel_rfl)] at h
  obtain ⟨ps, ⟨g1, t1, cs1, f1, p1, q1, hg1, ht1, hv1, hd1, ⟨g2, t2, cs2, f2, p2, q2, hg2, ht2, hv2, hd2, ⟨g3, t3, cs3, f3, p3, q3, hg3, ht3, hv3, hd3, ⟨g4, t4, cs4, f4, p4, q4, hg4, ht4, hv4, hd4, _, _⟩, _⟩, _⟩, _⟩, _, _⟩ := h
  obtain rfl := Option.some.inj (gKw.symm.trans hg4)
  obtain rfl := Option.some.inj (tKw.symm.trans ht4)
  obtain rfl := Option.some.inj (gPw.symm.trans hg3)
  obtain rfl := Option.some.inj (tPw.symm.trans ht3)
  exact (amb_var hg4 hv4 (laid_strs_all (bs := kws) uKw eKw cKw dKw hd4 rfl rfl) (by decide) (by decide) (amb_var hg3 hv3 (Lib.cells_of_tab (zs := Lib.pow10Tab) uPw ePw cPw dPw hd3) (by decide) (by decide) amb_none))
theorem walk (v0 : Value) (x0 : ByteArray) (w : World) (h0 : x0.size ≤ maxLen) (r0 : Rep w (fun b => b < w.heap.size) Pl.none v0 (Sx x0)) (hL : laidMetH Tryz.prog laidL w) :
    Calls Tryz.prog 4 #[v0] w fun e w' => e = .returned (.bool true) ∧ Below w.heap.size w w' := by
  refine law_walkA c4 w _ [Sx x0] (of_laid hL) (F4_mk x0 (trivial)) (F4_res x0) rfl ?_
  intro j x v hx hv
  match j, hx, hv with
  | 0, hx, hv =>
    simp at hx hv
    subst hx hv
    exact r0
  | j + 1, hx, hv => simp at hx
set_option maxRecDepth 100000 in
theorem lifted (os : Os) (started : os.Started) (H : Type) (enc : TypeId × Value → H) :
    ReturnsInHanded {} Tryz.checked os 4 .any (fun w args => (Rows.fnExactTidyFlatSpec.pre enc Tryz.prog Tryz.f4 [] false w args ∧ laidMetH Tryz.prog laidL w) ∧ sizedMet enc Tryz.prog Tryz.f4 (OpenSpec.ofChange Rows.fnExactTidyFlatSpec) false w args)
      (Rows.fnExactTidyFlatSpec.post enc Tryz.prog Tryz.f4 false true false false) := by
  refine returnsInHanded_of_change_and (C := Tryz.checked) (X := fun w _ => laidMetH Tryz.prog laidL w) (fun _ _ _ hh h => h.of_heap hh) own started (by kernel_rfl) Tryz.func4
    (ChangeSpec.witness_shaped (enc := enc) (C := Tryz.checked) (os := os) (X := fun w _ => laidMetH Tryz.prog laidL w) false (World.doorLaid Tryz.prog 400 os) #[.string ⟨#[]⟩] 8 rfl (World.shaped_of_RefB (by kernel_rfl) (by kernel_rfl)) (by kernel_rfl) (by kernel_rfl) (by kernel_rfl) (door_met os _)) ?_
  intro W base args ds gs before hval0 hW _ _ hL _
  have hval : ∀ (j : Nat) t v, Tryz.f4.params[j]? = some t → args[j]? = some v → Value.okWide Tryz.prog W .any base t v := hval0
  have hW' := hW
  obtain ⟨p, q, hA0, hV, rfl, hfz, hnd⟩ := hW
  have hA : DataW.TrodAll enc Tryz.prog W 0 (fun _ => true) true Tryz.f4.params.toList args.toList ds p := hA0
  rw [Tryz.params4] at hA hval
  obtain ⟨v0, vs0, d0, ds0, p0, q0, hargs, rfl, rfl, g0, t0⟩ := trodAll_cons hA
  obtain ⟨rfl, rfl, rfl⟩ := trodAll_nil t0
  obtain rfl : args = #[v0] := by cases args; simp_all
  have k0 := g0
  have lt0 : ∀ x ∈ p0, x.block < W.heap.size := by obtain ⟨m, hm⟩ := k0; exact DataW.trod_lt m _ _ _ hm
  obtain ⟨x0, h0, r0⟩ : ∃ x : ByteArray, x.size ≤ maxLen ∧ Rep W (fun b => b < W.heap.size) Pl.none v0 (Sx x) := by
    obtain ⟨x, rfl, _, _, hw⟩ := Go.ChangeMaps.open_string u9 (hval 0 9 v0 rfl rfl) g0
    exact ⟨x, hw, .v _ rfl⟩
  clear hA0 hval0
  match gs, hV with
  | [], hV => exact absurd hV (by intro h; cases h)
  | g1 :: g2 :: gs, hV => exact absurd hV (by rintro ⟨_, _, _, _, _, _, _, _, _, _, h, _⟩; cases h)
  | [g1], hV =>
    refine (walk v0 x0 W h0 r0 hL).mono fun e W' ⟨he, bel⟩ => ?_
    subst he
    exact ⟨_, rfl, _, _, _, [], _, _, hW', trodAll_mk1 (shut_bool u4 _), (trodAll_cons_mk (Below.trod laidOut (by kernel_rfl) (of_decide_eq_true (by kernel_rfl)) k0 bel lt0) trodAll_mk0), Below.trodVars laidOut bel (by kernel_rfl) hV, bel.frame _, fun h => by cases h⟩
theorem over : Rows.fnExactTidyFlatRow.holds Tryz.pinned (OpenSpec.ofChange Rows.fnExactTidyFlatSpec) :=
  OpenClaim.holds_of_wide 4 Tryz.f4 rfl rfl rfl rfl rfl rfl rfl ⟨rfl, rfl, rfl, rfl, rfl⟩ rfl rfl rfl rfl rfl (by kernel_rfl) Tryz.func4 (by kernel_rfl)
    (of_decide_eq_true (by kernel_rfl)) (by unfold Func.isWrapper; first | (rw [if_pos (by decide +kernel)]; kernel_rfl) | (rw [if_neg (by decide +kernel)]; exact ⟨rfl, rfl⟩))
    (fun os started H enc _ => lifted os started H enc)
theorem proved : Rows.FnExactTidyFlatCardSaid :=
  Claim7.holds_tied_plain_at .later [] [.data, .data, .data, .data] true (true, "e60ca34d2616cf770609942b31397a7971b9739ffb14f7b328e5ef9ed952bfb9") false
    over (fun _ h => by cases h) (by kernel_rfl) (fun _ h => by cases h) fnExactTidyFlat_row_tie rfl ⟨rfl, rfl⟩ (by kernel_rfl) rfl
    (fun f fn hf hfn => by
      obtain rfl : f = 4 := Option.some.inj ((show Tryz.prog.funcNamed "loop.example/g00838/laws.FnExactTidyFlat" = some 4 by kernel_rfl).symm.trans hf) |>.symm
      obtain rfl : fn = Tryz.f4 := (Option.some.inj (Tryz.func4.symm.trans hfn)).symm
      exact ⟨by kernel_rfl, fun j t ht => by
        rw [Tryz.params4] at ht
        have hm : t ∈ [9] := by simpa using Array.mem_of_getElem? ht
        have hall : ([9].all fun u => !Tryz.prog.wantsStandIn u) = true := by kernel_rfl
        exact (show Tryz.prog.wantsStandIn t = false by simpa using List.all_eq_true.1 hall t hm)⟩)
    (by kernel_rfl)
#print axioms proved
end Go.Proofs.YtecpfgnkiifnpaaGreatDoor.lawTidyFlat
