/-
  What is proved here: the given statement FnExactLenderOfCardSaid, by the contract of the law's function. Condition: none beyond the card's own (the listed variable holds what the program's text lays).
-/
import Derived.Test.YtdpmlddmdogggaaGreatDoorRows
import Derived.Test.YtdpmlddmdogggaaGreatDoorTie
import Derived.Test.YtdpmlddmdogggaaGreatDoorCards
import Derived.Test.YtdpmlddmdogggaaGreatDoorLwLenderOfj
import Derived.Test.YtdpmlddmdogggaaGreatDoorPFj
import Derived.Test.YtdpmlddmdogggaaGreatDoorAbsF
import Derived.Test.YtdpmlddmdogggaaGreatDoorOCL
import Derived.WalkKit
import Derived.ProofKit
import Derived.OpenShut
import Derived.ShutString
import Derived.ChangeOld
import Derived.Below
import Derived.Lib.LaidTab
import Derived.LaidMore
import Derived.OpenVars
import Derived.SevenTiedAt
import Derived.Stop.Joined
namespace Go.Proofs.YtdpmlddmdogggaaGreatDoor.lawLenderOf
open Go.ChangeShapes Go.WideShapes Go.ChangeAt Go.RowKit Go.Abs
set_option linter.unusedVariables false
set_option linter.unusedSimpArgs false
set_option linter.unnecessarySimpa false
theorem own : ownKnob Tryz.prog.godebug = none := by kernel_rfl
theorem laidOut : laidOutB Tryz.prog = true := by kernel_rfl
theorem u9 : Tryz.prog.underlying 9 = some (.string) := by kernel_rfl
theorem u3 : Tryz.prog.underlying 3 = some (.int .i64) := by kernel_rfl
theorem u22 : Tryz.prog.underlying 22 = some (.slice 101) := by kernel_rfl
theorem cc101 : Tryz.prog.cellsOf 101 = 8 := by kernel_rfl
def qCls (a : Cls) : Prop := inI a.id ∧ inI a.par ∧ inI a.rate ∧ inI a.ceil ∧ inI a.burst ∧ inI a.cburst ∧ inI a.prio ∧ inI a.lim
theorem convCls : ∀ r : List Value, r.length = 8 → (∀ p ∈ [(0, 0), (0, 1), (0, 2), (0, 3), (0, 4), (0, 5), (0, 6), (0, 7)], ∃ v, r[p.2]? = some v ∧ leafOk p.1 v) → ∃ a : Cls, r = Rw.enc a ∧ qCls a := by
  intro r hz h
  obtain ⟨v0, e0, x0, rfl, w0⟩ := h (0, 0) (by simp)
  obtain ⟨v1, e1, x1, rfl, w1⟩ := h (0, 1) (by simp)
  obtain ⟨v2, e2, x2, rfl, w2⟩ := h (0, 2) (by simp)
  obtain ⟨v3, e3, x3, rfl, w3⟩ := h (0, 3) (by simp)
  obtain ⟨v4, e4, x4, rfl, w4⟩ := h (0, 4) (by simp)
  obtain ⟨v5, e5, x5, rfl, w5⟩ := h (0, 5) (by simp)
  obtain ⟨v6, e6, x6, rfl, w6⟩ := h (0, 6) (by simp)
  obtain ⟨v7, e7, x7, rfl, w7⟩ := h (0, 7) (by simp)
  refine ⟨⟨x0, x1, x2, x3, x4, x5, x6, x7⟩, ?_, ⟨wf_rng w0, wf_rng w1, wf_rng w2, wf_rng w3, wf_rng w4, wf_rng w5, wf_rng w6, wf_rng w7⟩⟩
  match r, hz with
  | [y0, y1, y2, y3, y4, y5, y6, y7], _ => simp_all [Rw.enc]
theorem lf101 : leafT Tryz.prog 4 101 = some [(0, 0), (0, 1), (0, 2), (0, 3), (0, 4), (0, 5), (0, 6), (0, 7)] := by kernel_rfl
theorem cc22 : Tryz.prog.cellsOf 22 = 1 := by kernel_rfl
theorem u24 : Tryz.prog.underlying 24 = some (.slice 105) := by kernel_rfl
theorem cc105 : Tryz.prog.cellsOf 105 = 5 := by kernel_rfl
def qFil (a : Fil) : Prop := inI a.prio ∧ inI a.field ∧ inI a.mask ∧ inI a.value ∧ inI a.target
theorem convFil : ∀ r : List Value, r.length = 5 → (∀ p ∈ [(0, 0), (0, 1), (0, 2), (0, 3), (0, 4)], ∃ v, r[p.2]? = some v ∧ leafOk p.1 v) → ∃ a : Fil, r = Rw.enc a ∧ qFil a := by
  intro r hz h
  obtain ⟨v0, e0, x0, rfl, w0⟩ := h (0, 0) (by simp)
  obtain ⟨v1, e1, x1, rfl, w1⟩ := h (0, 1) (by simp)
  obtain ⟨v2, e2, x2, rfl, w2⟩ := h (0, 2) (by simp)
  obtain ⟨v3, e3, x3, rfl, w3⟩ := h (0, 3) (by simp)
  obtain ⟨v4, e4, x4, rfl, w4⟩ := h (0, 4) (by simp)
  refine ⟨⟨x0, x1, x2, x3, x4⟩, ?_, ⟨wf_rng w0, wf_rng w1, wf_rng w2, wf_rng w3, wf_rng w4⟩⟩
  match r, hz with
  | [y0, y1, y2, y3, y4], _ => simp_all [Rw.enc]
theorem lf105 : leafT Tryz.prog 4 105 = some [(0, 0), (0, 1), (0, 2), (0, 3), (0, 4)] := by kernel_rfl
theorem cc24 : Tryz.prog.cellsOf 24 = 1 := by kernel_rfl
theorem u23 : Tryz.prog.underlying 23 = some (.slice 3) := by kernel_rfl
theorem cc23 : Tryz.prog.cellsOf 23 = 1 := by kernel_rfl
theorem cc9 : Tryz.prog.cellsOf 9 = 1 := by kernel_rfl
theorem cc3 : Tryz.prog.cellsOf 3 = 1 := by kernel_rfl
theorem cc26 : Tryz.prog.cellsOf 26 = 9 := by kernel_rfl
theorem s26 : Tryz.prog.underlying 26 = some (.struct (Tryz.prog.fieldsOf 26)) := by kernel_rfl
theorem fF26 : ((Tryz.prog.fieldsOf 26).toList.map fun f => (f.type, f.offset)) = [(9, 0), (22, 1), (23, 2), (23, 3), (23, 4), (23, 5), (24, 6), (23, 7), (3, 8)] := by kernel_rfl
theorem cc42 : Tryz.prog.cellsOf 42 = 2 := by kernel_rfl
theorem s42 : Tryz.prog.underlying 42 = some (.struct (Tryz.prog.fieldsOf 42)) := by kernel_rfl
theorem fF42 : ((Tryz.prog.fieldsOf 42).toList.map fun f => (f.type, f.offset)) = [(23, 0), (23, 1)] := by kernel_rfl
theorem u4 : Tryz.prog.underlying 4 = some (.bool) := by kernel_rfl
theorem gPw : Tryz.prog.globalNamed "internal/strconv.uint64pow10" = some 1 := by kernel_rfl
theorem tPw : (Tryz.prog.globals[1]?).map (·.type) = some 183 := by kernel_rfl
theorem uPw : Tryz.prog.underlying 183 = some (.array 20 155) := by kernel_rfl
theorem ePw : Tryz.prog.underlying 155 = some (.int .u64) := by kernel_rfl
theorem cPw : Tryz.prog.cellsOf 155 = 1 := by kernel_rfl
theorem dPw : Tryz.prog.cellsOf 183 = 20 := by kernel_rfl
theorem gKw : Tryz.prog.globalNamed "loop.example/g00838/impl.keyWords" = some 0 := by kernel_rfl
theorem tKw : (Tryz.prog.globals[0]?).map (·.type) = some 160 := by kernel_rfl
theorem uKw : Tryz.prog.underlying 160 = some (.array 14 9) := by kernel_rfl
theorem eKw : Tryz.prog.underlying 9 = some .string := by kernel_rfl
theorem cKw : Tryz.prog.cellsOf 9 = 1 := by kernel_rfl
theorem dKw : Tryz.prog.cellsOf 160 = 14 := by kernel_rfl
def laidL : List (String × DataW Unit) := [("math/bits.deBruijn32tab", Rows.laid_math_bits_deBruijn32tab), ("math/bits.deBruijn64tab", Rows.laid_math_bits_deBruijn64tab), ("internal/strconv.uint64pow10", Rows.laid_internal_strconv_uint64pow10), ("loop.example/g00838/impl.keyWords", Rows.laid_loop_example_g00838_impl_keyWords)]
set_option maxRecDepth 100000 in
theorem door_met (os : Os) (args : Array Value) : laidMetH Tryz.prog laidL ((World.doorLaid Tryz.prog 400 os).forCall (fun _ _ => 0) ⟨#[], args, []⟩).memory :=
  laidMetH_of_parts3 (fuel := 8) (laidMet_of_run' 8 (by kernel_rfl) (by kernel_rfl)) (by kernel_rfl) (by kernel_rfl)
theorem of_laid {W : World} (h : laidMetH Tryz.prog laidL W) : Amb W (fun b => b < W.heap.size) K := by
  rw [MakeChecks.laidMetH_plain _ _ _ (by kernel_rfl)] at h
  obtain ⟨ps, ⟨g1, t1, cs1, f1, p1, q1, hg1, ht1, hv1, hd1, ⟨g2, t2, cs2, f2, p2, q2, hg2, ht2, hv2, hd2, ⟨g3, t3, cs3, f3, p3, q3, hg3, ht3, hv3, hd3, ⟨g4, t4, cs4, f4, p4, q4, hg4, ht4, hv4, hd4, _, _⟩, _⟩, _⟩, _⟩, _, _⟩ := h
  obtain rfl := Option.some.inj (gKw.symm.trans hg4)
  obtain rfl := Option.some.inj (tKw.symm.trans ht4)
  obtain rfl := Option.some.inj (gPw.symm.trans hg3)
  obtain rfl := Option.some.inj (tPw.symm.trans ht3)
  exact (amb_var hg4 hv4 (laid_strs_all (bs := kws) uKw eKw cKw dKw hd4 rfl rfl) (by decide) (by decide) (amb_var hg3 hv3 (Lib.cells_of_tab (zs := Lib.pow10Tab) uPw ePw cPw dPw hd3) (by decide) (by decide) amb_none))
theorem walk (v0 : Value) (v1 : Value) (v2 : Value) (v3 : Value) (x0 : Ldd) (x1 : Tok) (x2 : Int) (x3 : Int) (w : World) (q0 : inL qCls qFil x0) (q1 : inT x1) (q2 : inI x2) (q3 : inI x3) (r0 : Rep w (fun b => b < w.heap.size) Pl.none v0 (.agg (lX x0))) (r1 : Rep w (fun b => b < w.heap.size) Pl.none v1 (.agg (tkX x1))) (r2 : Rep w (fun b => b < w.heap.size) Pl.none v2 (I x2)) (r3 : Rep w (fun b => b < w.heap.size) Pl.none v3 (I x3)) (hL : laidMetH Tryz.prog laidL w) :
    Calls Tryz.prog 16 #[v0, v1, v2, v3] w fun e w' => e = .returned (.bool true) ∧ Below w.heap.size w w' := by
  refine law_walkA c16 w _ [.agg (lX x0), .agg (tkX x1), I x2, I x3] (of_laid hL) (F16_mk x0 x1 x2 x3 (⟨q0.1, q1.1⟩)) (F16_res x0 x1 x2 x3) rfl ?_
  intro j x v hx hv
  match j, hx, hv with
  | 0, hx, hv =>
    simp at hx hv
    subst hx hv
    exact r0
  | 1, hx, hv =>
    simp at hx hv
    subst hx hv
    exact r1
  | 2, hx, hv =>
    simp at hx hv
    subst hx hv
    exact r2
  | 3, hx, hv =>
    simp at hx hv
    subst hx hv
    exact r3
  | j + 4, hx, hv => simp at hx
set_option maxRecDepth 100000 in
theorem lifted (os : Os) (started : os.Started) (H : Type) (enc : TypeId × Value → H) :
    ReturnsInHanded {} Tryz.checked os 16 .any (fun w args => (Rows.fnExactLenderOfSpec.pre enc Tryz.prog Tryz.f16 [] false w args ∧ laidMetH Tryz.prog laidL w) ∧ sizedMet enc Tryz.prog Tryz.f16 (OpenSpec.ofChange Rows.fnExactLenderOfSpec) false w args)
      (Rows.fnExactLenderOfSpec.post enc Tryz.prog Tryz.f16 false true false false) := by
  refine returnsInHanded_of_change_and (C := Tryz.checked) (X := fun w _ => laidMetH Tryz.prog laidL w) (fun _ _ _ hh h => h.of_heap hh) own started (by kernel_rfl) Tryz.func16
    (ChangeSpec.witness_shaped (enc := enc) (C := Tryz.checked) (os := os) (X := fun w _ => laidMetH Tryz.prog laidL w) false (World.doorLaid Tryz.prog 400 os) #[.agg #[.string ⟨#[]⟩, .slice none 0 0, .slice none 0 0, .slice none 0 0, .slice none 0 0, .slice none 0 0, .slice none 0 0, .slice none 0 0, .int .i64 0], .agg #[.slice none 0 0, .slice none 0 0], .int .i64 0, .int .i64 0] 8 rfl (World.shaped_of_RefB (by kernel_rfl) (by kernel_rfl)) (by kernel_rfl) (by kernel_rfl) (by kernel_rfl) (door_met os _)) ?_
  intro W base args ds gs before hval0 hW _ _ hL _
  have hval : ∀ (j : Nat) t v, Tryz.f16.params[j]? = some t → args[j]? = some v → Value.okWide Tryz.prog W .any base t v := hval0
  have hW' := hW
  obtain ⟨p, q, hA0, hV, rfl, hfz, hnd⟩ := hW
  have hA : DataW.TrodAll enc Tryz.prog W 0 (fun _ => true) true Tryz.f16.params.toList args.toList ds p := hA0
  rw [Tryz.params16] at hA hval
  obtain ⟨v0, vs0, d0, ds0, p0, q0, hargs, rfl, rfl, g0, t0⟩ := trodAll_cons hA
  obtain ⟨v1, vs1, d1, ds1, p1, q1, rfl, rfl, rfl, g1, t1⟩ := trodAll_cons t0
  obtain ⟨v2, vs2, d2, ds2, p2, q2, rfl, rfl, rfl, g2, t2⟩ := trodAll_cons t1
  obtain ⟨v3, vs3, d3, ds3, p3, q3, rfl, rfl, rfl, g3, t3⟩ := trodAll_cons t2
  obtain ⟨rfl, rfl, rfl⟩ := trodAll_nil t3
  obtain rfl : args = #[v0, v1, v2, v3] := by cases args; simp_all
  have k0 := g0
  have lt0 : ∀ x ∈ p0, x.block < W.heap.size := by obtain ⟨m, hm⟩ := k0; exact DataW.trod_lt m _ _ _ hm
  obtain ⟨x0, q0, r0⟩ : ∃ x : Ldd, inL qCls qFil x ∧ Rep W (fun b => b < W.heap.size) Pl.none v0 (.agg (lX x)) := by
    obtain ⟨cs, rfl, hz⟩ := okWide_struct s26 (hval 0 26 v0 rfl rfl)
    rw [cc26] at hz
    obtain ⟨fuel, hf⟩ := g0
    exact open_lX convCls convFil s26 fF26 u9 cc9 u22 cc22 cc101 lf101 u24 cc24 cc105 lf105 u23 cc23 u3 cc3 hz hf
  have k1 := g1
  have lt1 : ∀ x ∈ p1, x.block < W.heap.size := by obtain ⟨m, hm⟩ := k1; exact DataW.trod_lt m _ _ _ hm
  obtain ⟨x1, q1, r1⟩ : ∃ x : Tok, inT x ∧ Rep W (fun b => b < W.heap.size) Pl.none v1 (.agg (tkX x)) := by
    obtain ⟨cs, rfl, hz⟩ := okWide_struct s42 (hval 1 42 v1 rfl rfl)
    rw [cc42] at hz
    obtain ⟨fuel, hf⟩ := g1
    exact open_tkX s42 fF42 u23 cc23 u3 cc3 hz hf
  have k2 := g2
  have lt2 : ∀ x ∈ p2, x.block < W.heap.size := by obtain ⟨m, hm⟩ := k2; exact DataW.trod_lt m _ _ _ hm
  obtain ⟨x2, q2, r2⟩ : ∃ x : Int, inI x ∧ Rep W (fun b => b < W.heap.size) Pl.none v2 (I x) := by
    obtain ⟨x, rfl, _, _, hw⟩ := open_int u3 (hval 2 3 v2 rfl rfl) g2
    exact ⟨x, wf_rng hw, .v _ rfl⟩
  have k3 := g3
  have lt3 : ∀ x ∈ p3, x.block < W.heap.size := by obtain ⟨m, hm⟩ := k3; exact DataW.trod_lt m _ _ _ hm
  obtain ⟨x3, q3, r3⟩ : ∃ x : Int, inI x ∧ Rep W (fun b => b < W.heap.size) Pl.none v3 (I x) := by
    obtain ⟨x, rfl, _, _, hw⟩ := open_int u3 (hval 3 3 v3 rfl rfl) g3
    exact ⟨x, wf_rng hw, .v _ rfl⟩
  clear hA0 hval0
  match gs, hV with
  | [], hV => exact absurd hV (by intro h; cases h)
  | g1 :: g2 :: gs, hV => exact absurd hV (by rintro ⟨_, _, _, _, _, _, _, _, _, _, h, _⟩; cases h)
  | [g1], hV =>
    refine (walk v0 v1 v2 v3 x0 x1 x2 x3 W q0 q1 q2 q3 r0 r1 r2 r3 hL).mono fun e W' ⟨he, bel⟩ => ?_
    subst he
    exact ⟨_, rfl, _, _, _, [], _, _, hW', trodAll_mk1 (shut_bool u4 _), (trodAll_cons_mk (Below.trod laidOut (by kernel_rfl) (of_decide_eq_true (by kernel_rfl)) k0 bel lt0) (trodAll_cons_mk (Below.trod laidOut (by kernel_rfl) (of_decide_eq_true (by kernel_rfl)) k1 bel lt1) (trodAll_cons_mk (Below.trod laidOut (by kernel_rfl) (of_decide_eq_true (by kernel_rfl)) k2 bel lt2) (trodAll_cons_mk (Below.trod laidOut (by kernel_rfl) (of_decide_eq_true (by kernel_rfl)) k3 bel lt3) trodAll_mk0)))), Below.trodVars laidOut bel (by kernel_rfl) hV, bel.frame _, fun h => by cases h⟩
theorem j1 : (Rows.fnExactLenderOfRow.inPlace == Tryz.pinned.checked.prog.inPlace 16) = true := by kernel_rfl
theorem j2 : (Rows.fnExactLenderOfRow.unfollowed == Tryz.pinned.checked.prog.unfollowed 16) = true := by kernel_rfl
theorem j3 : (Rows.fnExactLenderOfRow.recurses == Tryz.pinned.checked.prog.recurses 16) = true := by kernel_rfl
theorem j4 : (Rows.fnExactLenderOfRow.named == Tryz.pinned.checked.prog.varsNamed 16) = true := by kernel_rfl
theorem goes : false = Rows.fnExactLenderOfRow.goesBy Tryz.pinned.checked.prog := by kernel_rfl
theorem jf : joinedFacts Tryz.pinned.checked.prog 16 Tryz.f16 Rows.fnExactLenderOfSpec Rows.fnExactLenderOfRow = true := by
  unfold joinedFacts
  rw [j1, j2, j3, j4, pf.laid, pf.maps, pf.keys, pf.heard, pf.enter, pf.lifts]
  kernel_rfl
theorem over : Rows.fnExactLenderOfRow.holds Tryz.pinned (OpenSpec.ofChange Rows.fnExactLenderOfSpec) :=
  OpenClaim.holds_of_wide 16 Tryz.f16 rfl rfl rfl rfl rfl rfl rfl ⟨rfl, rfl, rfl, rfl, rfl⟩ rfl rfl rfl rfl rfl (by kernel_rfl) Tryz.func16 jf
    (of_decide_eq_true (by kernel_rfl)) (by unfold Func.isWrapper; first | (rw [if_pos (by decide +kernel)]; kernel_rfl) | (rw [if_neg (by decide +kernel)]; exact ⟨rfl, rfl⟩))
    (fun os started H enc _ => lifted os started H enc)
theorem proved : Rows.FnExactLenderOfCardSaid :=
  Claim7.holds_tied_plain_at .later [] [.data, .data, .data, .data] true (true, "9b28aaf4dfae8bfaf25b79cfbef94c6771199226a3a878099a6defaa4eda291f") false
    over (fun _ h => by cases h) (by kernel_rfl) (fun _ h => by cases h) fnExactLenderOf_row_tie rfl ⟨rfl, rfl⟩ pf.main rfl
    (fun f fn hf hfn => by
      obtain rfl : f = 16 := Option.some.inj ((show Tryz.prog.funcNamed "loop.example/g00838/laws.FnExactLenderOf" = some 16 by kernel_rfl).symm.trans hf) |>.symm
      obtain rfl : fn = Tryz.f16 := (Option.some.inj (Tryz.func16.symm.trans hfn)).symm
      exact ⟨pf.looks, fun j t ht => by
        rw [Tryz.params16] at ht
        have hm : t ∈ [26, 42, 3, 3] := by simpa using Array.mem_of_getElem? ht
        have hall : ([26, 42, 3, 3].all fun u => !Tryz.prog.wantsStandIn u) = true := by kernel_rfl
        exact (show Tryz.prog.wantsStandIn t = false by simpa using List.all_eq_true.1 hall t hm)⟩)
    goes
#print axioms proved
end Go.Proofs.YtdpmlddmdogggaaGreatDoor.lawLenderOf
