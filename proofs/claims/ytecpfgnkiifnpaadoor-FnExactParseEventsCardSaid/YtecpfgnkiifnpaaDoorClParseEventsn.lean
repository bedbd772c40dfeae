/-
  What is proved here: the given statement FnExactParseEventsCardSaid, by the contract of the law's function. Condition: none beyond the card's own (the listed variable holds what the program's text lays).
-/
import Derived.Test.YtecpfgnkiifnpaaDoorRows
import Derived.Test.YtecpfgnkiifnpaaDoorTie
import Derived.Test.YtecpfgnkiifnpaaDoorCards
import Derived.Test.YtecpfgnkiifnpaaDoorPE6n
import Derived.Test.YtecpfgnkiifnpaaDoorAbsF
import Derived.WalkKit
import Derived.ProofKit
import Derived.OpenShut
import Derived.ShutString
import Derived.ChangeOld
import Derived.Below
import Derived.Lib.LaidTab
import Derived.LaidLaws
import Derived.Lay
import Derived.LaidMore
import Derived.OpenVars
import Derived.SevenTiedAt
import Derived.Stop.Joined

namespace Go.Proofs.YtecpfgnkiifnpaaDoor.lawParseEvents
open Go.ChangeShapes Go.WideShapes Go.ChangeAt Go.RowKit Go.Abs
set_option linter.unusedVariables false
set_option linter.unusedSimpArgs false
set_option linter.unnecessarySimpa false
theorem own : ownKnob Tryd.prog.godebug = none := by kernel_rfl
theorem laidOut : laidOutB Tryd.prog = true := by kernel_rfl
theorem u9 : Tryd.prog.underlying 9 = some (.string) := by kernel_rfl
theorem u4 : Tryd.prog.underlying 4 = some (.bool) := by kernel_rfl
theorem gPw : Tryd.prog.globalNamed "internal/strconv.uint64pow10" = some 7 := by kernel_rfl
theorem tPw : (Tryd.prog.globals[7]?).map (·.type) = some 168 := by kernel_rfl
theorem uPw : Tryd.prog.underlying 168 = some (.array 20 142) := by kernel_rfl
theorem ePw : Tryd.prog.underlying 142 = some (.int .u64) := by kernel_rfl
theorem cPw : Tryd.prog.cellsOf 142 = 1 := by kernel_rfl
theorem dPw : Tryd.prog.cellsOf 168 = 20 := by kernel_rfl
theorem gRa : Tryd.prog.globalNamed "strconv.ErrRange" = some 4 := by kernel_rfl
theorem tRa : (Tryd.prog.globals[4]?).map (·.type) = some 99 := by kernel_rfl
theorem uRa : Tryd.prog.underlying 99 = some (.interface (Tryd.prog.methodsAt 99)) := by kernel_rfl
theorem gSy : Tryd.prog.globalNamed "strconv.ErrSyntax" = some 3 := by kernel_rfl
theorem tSy : (Tryd.prog.globals[3]?).map (·.type) = some 99 := by kernel_rfl
theorem uSy : Tryd.prog.underlying 99 = some (.interface (Tryd.prog.methodsAt 99)) := by kernel_rfl
theorem gEn : Tryd.prog.globalNamed "loop.example/g00838/impl.eventNames" = some 0 := by kernel_rfl
theorem tEn : (Tryd.prog.globals[0]?).map (·.type) = some 97 := by kernel_rfl
theorem uEn : Tryd.prog.underlying 97 = some (.array 5 9) := by kernel_rfl
theorem eEn : Tryd.prog.underlying 9 = some .string := by kernel_rfl
theorem cEn : Tryd.prog.cellsOf 9 = 1 := by kernel_rfl
theorem dEn : Tryd.prog.cellsOf 97 = 5 := by kernel_rfl
def laidL : List (String × DataW Unit) := [("math/bits.deBruijn32tab", Rows.laid_math_bits_deBruijn32tab), ("math/bits.deBruijn64tab", Rows.laid_math_bits_deBruijn64tab), ("internal/strconv.uint64pow10", Rows.laid_internal_strconv_uint64pow10), ("unicode/utf8.acceptRanges", Rows.laid_unicode_utf8_acceptRanges), ("strconv.ErrRange", Rows.laid_strconv_ErrRange), ("strconv.ErrSyntax", Rows.laid_strconv_ErrSyntax), ("loop.example/g00838/impl.eventNames", Rows.laid_loop_example_g00838_impl_eventNames), ("unicode/utf8.first", Rows.laid_unicode_utf8_first)]
set_option maxRecDepth 100000 in
theorem door_met (os : Os) (args : Array Value) : laidMetH Tryd.prog laidL ((World.laidAll Tryd.prog os laidL).forCall (fun _ _ => 0) ⟨#[], args, []⟩).memory :=
  by
  rw [MakeChecks.laidMetH_plain _ _ _ (by kernel_rfl)]
  exact laidMet_laidAll _ (by kernel_rfl) (by kernel_rfl)
theorem of_laid {W : World} (h : laidMetH Tryd.prog laidL W) : Amb W (fun b => b < W.heap.size) K3 := by
  rw [MakeChecks.laidMetH_plain _ _ _ (by kernel_rfl)] at h
  obtain ⟨ps, ⟨g1, t1, cs1, f1, p1, q1, hg1, ht1, hv1, hd1, ⟨g2, t2, cs2, f2, p2, q2, hg2, ht2, hv2, hd2, ⟨g3, t3, cs3, f3, p3, q3, hg3, ht3, hv3, hd3, ⟨g4, t4, cs4, f4, p4, q4, hg4, ht4, hv4, hd4, ⟨g5, t5, cs5, f5, p5, q5, hg5, ht5, hv5, hd5, ⟨g6, t6, cs6, f6, p6, q6, hg6, ht6, hv6, hd6, ⟨g7, t7, cs7, f7, p7, q7, hg7, ht7, hv7, hd7, ⟨g8, t8, cs8, f8, p8, q8, hg8, ht8, hv8, hd8, _, _⟩, _⟩, _⟩, _⟩, _⟩, _⟩, _⟩, _⟩, _, _⟩ := h
  obtain rfl := Option.some.inj (gEn.symm.trans hg7)
  obtain rfl := Option.some.inj (tEn.symm.trans ht7)
  obtain rfl := Option.some.inj (gPw.symm.trans hg3)
  obtain rfl := Option.some.inj (tPw.symm.trans ht3)
  obtain rfl := Option.some.inj (gSy.symm.trans hg6)
  obtain rfl := Option.some.inj (tSy.symm.trans ht6)
  obtain rfl := Option.some.inj (gRa.symm.trans hg5)
  obtain rfl := Option.some.inj (tRa.symm.trans ht5)
  obtain ⟨_, _, _, i5, _, _⟩ := iface_of_trod uRa hd5
  obtain ⟨_, _, _, i6, _, _⟩ := iface_of_trod uSy hd6
  exact (amb_var hg7 hv7 (laid_strs_all (bs := ens) uEn eEn cEn dEn hd7 rfl rfl) (by decide) (by decide) (amb_var hg3 hv3 (Lib.cells_of_tab (zs := Lib.pow10Tab) uPw ePw cPw dPw hd3) (by decide) (by decide) (amb_ni hg6 hv6 i6 (amb_ni hg5 hv5 i5 amb_none))))
theorem walk (v0 : Value) (x0 : ByteArray) (w : World) (h0 : x0.size ≤ maxLen) (r0 : Rep w (fun b => b < w.heap.size) Pl.none v0 (Sx x0)) (hL : laidMetH Tryd.prog laidL w) :
    Calls Tryd.prog 6 #[v0] w fun e w' => e = .returned (.bool true) ∧ Below w.heap.size w w' := by
  refine law_walkA c6 w _ [Sx x0] (of_laid hL) (F6_mk x0 (trivial)) (F6_res x0) rfl ?_
  intro j x v hx hv
  match j, hx, hv with
  | 0, hx, hv =>
    simp at hx hv
    subst hx hv
    exact r0
  | j + 1, hx, hv => simp at hx
set_option maxRecDepth 100000 in
theorem lifted (os : Os) (started : os.Started) (H : Type) (enc : TypeId × Value → H) :
    ReturnsInHanded {} Tryd.checked os 6 .any (fun w args => (Rows.fnExactParseEventsSpec.pre enc Tryd.prog Tryd.f6 [] false w args ∧ laidMetH Tryd.prog laidL w) ∧ sizedMet enc Tryd.prog Tryd.f6 (OpenSpec.ofChange Rows.fnExactParseEventsSpec) false w args)
      (Rows.fnExactParseEventsSpec.post enc Tryd.prog Tryd.f6 false true false false) := by
  refine returnsInHanded_of_change_and (C := Tryd.checked) (X := fun w _ => laidMetH Tryd.prog laidL w) (fun _ _ _ hh h => h.of_heap hh) own started (by kernel_rfl) Tryd.func6
    (ChangeSpec.witness_shaped (enc := enc) (C := Tryd.checked) (os := os) (X := fun w _ => laidMetH Tryd.prog laidL w) false (World.laidAll Tryd.prog os laidL) #[.string ⟨#[]⟩] 8 (World.laidAll_os _ _ _) (World.shaped_of_ZipB (by kernel_rfl) (by kernel_rfl)) (by kernel_rfl) (by kernel_rfl) (by kernel_rfl) (door_met os _)) ?_
  intro W base args ds gs before hval0 hW _ _ hL _
  have hval : ∀ (j : Nat) t v, Tryd.f6.params[j]? = some t → args[j]? = some v → Value.okWide Tryd.prog W .any base t v := hval0
  have hW' := hW
  obtain ⟨p, q, hA0, hV, rfl, hfz, hnd⟩ := hW
  have hA : DataW.TrodAll enc Tryd.prog W 0 (fun _ => true) true Tryd.f6.params.toList args.toList ds p := hA0
  rw [Tryd.params6] at hA hval
  obtain ⟨v0, vs0, d0, ds0, p0, q0, hargs, rfl, rfl, g0, t0⟩ := trodAll_cons hA
  obtain ⟨rfl, rfl, rfl⟩ := trodAll_nil t0
  obtain rfl : args = #[v0] := by cases args; simp_all
  have k0 := g0
  have lt0 : ∀ x ∈ p0, x.block < W.heap.size := by obtain ⟨m, hm⟩ := k0; exact DataW.trod_lt m _ _ _ hm
  obtain ⟨x0, h0, r0⟩ : ∃ x : ByteArray, x.size ≤ maxLen ∧ Rep W (fun b => b < W.heap.size) Pl.none v0 (Sx x) := by
    obtain ⟨x, rfl, _, _, hw⟩ := Go.ChangeMaps.open_string u9 (hval 0 9 v0 rfl rfl) g0
    exact ⟨x, hw, .v _ rfl⟩
  clear hA0 hval0
  match gs, hV with
  | [], hV => exact absurd hV (by intro h; cases h)
  | g1 :: g2 :: gs, hV => exact absurd hV (by rintro ⟨_, _, _, _, _, _, _, _, _, _, h, _⟩; cases h)
  | [g1], hV =>
    refine (walk v0 x0 W h0 r0 hL).mono fun e W' ⟨he, bel⟩ => ?_
    subst he
    exact ⟨_, rfl, _, _, _, [], _, _, hW', trodAll_mk1 (shut_bool u4 _), (trodAll_cons_mk (Below.trod laidOut (by kernel_rfl) (of_decide_eq_true (by kernel_rfl)) k0 bel lt0) trodAll_mk0), Below.trodVars laidOut bel (by kernel_rfl) hV, bel.frame _, fun h => by cases h⟩
theorem over : Rows.fnExactParseEventsRow.holds Tryd.pinned (OpenSpec.ofChange Rows.fnExactParseEventsSpec) :=
  OpenClaim.holds_of_wide 6 Tryd.f6 rfl rfl rfl rfl rfl rfl rfl ⟨rfl, rfl, rfl, rfl, rfl⟩ rfl rfl rfl rfl rfl (by kernel_rfl) Tryd.func6 (by kernel_rfl)
    (of_decide_eq_true (by kernel_rfl)) (by unfold Func.isWrapper; first | (rw [if_pos (by decide +kernel)]; kernel_rfl) | (rw [if_neg (by decide +kernel)]; exact ⟨rfl, rfl⟩))
    (fun os started H enc _ => lifted os started H enc)
theorem proved : Rows.FnExactParseEventsCardSaid :=
  Claim7.holds_tied_plain_at .later [] [.data, .data, .data, .data, .sentinel, .sentinel, .data, .pinned] true (true, "14ab636a0c061b0acaa288f53437b899bdee3e80a2584d0b6dffdf82a581d770") true
    over (fun _ h => by cases h) (by kernel_rfl) (fun _ h => by cases h) fnExactParseEvents_row_tie rfl ⟨rfl, rfl⟩ (by kernel_rfl) rfl
    (fun f fn hf hfn => by
      obtain rfl : f = 6 := Option.some.inj ((show Tryd.prog.funcNamed "loop.example/g00838/laws.FnExactParseEvents" = some 6 by kernel_rfl).symm.trans hf) |>.symm
      obtain rfl : fn = Tryd.f6 := (Option.some.inj (Tryd.func6.symm.trans hfn)).symm
      exact ⟨by kernel_rfl, fun j t ht => by
        rw [Tryd.params6] at ht
        have hm : t ∈ [9] := by simpa using Array.mem_of_getElem? ht
        have hall : ([9].all fun u => !Tryd.prog.wantsStandIn u) = true := by kernel_rfl
        exact (show Tryd.prog.wantsStandIn t = false by simpa using List.all_eq_true.1 hall t hm)⟩)
    (by kernel_rfl)
#print axioms proved
end Go.Proofs.YtecpfgnkiifnpaaDoor.lawParseEvents
