/-
  What is proved here: the given card FnExactCountChangesCardSaid, by the contract of the law's function. Condition: none beyond the card's own (the listed variable holds what the program's text lays).
-/
import Derived.Test.YtoefkakkcoinkaaDoorRows
import Derived.Test.YtoefkakkcoinkaaDoorTie
import Derived.Test.YtoefkakkcoinkaaDoorCards
import Derived.Test.YtoefkakkcoinkaaDoorSD11
import Derived.Test.YtoefkakkcoinkaaDoorAbs21
import Derived.WalkKit
import Derived.ProofKit
import Derived.OpenShut
import Derived.ShutString
import Derived.ChangeOld
import Derived.Below
import Derived.LaidMore
import Derived.OpenVars
import Derived.SevenTiedAt
import Derived.Stop.Joined
namespace Go.Proofs.YtoefkakkcoinkaaDoor.lawCountChanges
open Go.ChangeShapes Go.WideShapes Go.ChangeAt Go.RowKit Go.Abs
set_option linter.unusedVariables false
set_option linter.unusedSimpArgs false

theorem own : ownKnob Tryd.prog.godebug = none := by kernel_rfl
theorem laidOut : laidOutB Tryd.prog = true := by kernel_rfl
theorem gKw : Tryd.prog.globalNamed "loop.example/g00838/impl.keyWords" = some 1 := by kernel_rfl
theorem tKw : (Tryd.prog.globals[1]?).map (·.type) = some 135 := by kernel_rfl
theorem leaves : leafT Tryd.prog 4 27 = some [(0, 0), (1, 1), (0, 2), (0, 3), (0, 4), (0, 5), (0, 6), (0, 7), (0, 8), (0, 9), (0, 10), (0, 11), (0, 12), (0, 13), (0, 14), (0, 15)] := by kernel_rfl
theorem c27 : Tryd.prog.cellsOf 27 = 16 := by kernel_rfl
theorem u27 : ∃ fs, Tryd.prog.underlying 27 = some (.struct fs) := ⟨Tryd.prog.fieldsOf 27, by kernel_rfl⟩
theorem u36 : Tryd.prog.underlying 36 = some (.slice 27) := by kernel_rfl
theorem u135 : Tryd.prog.underlying 135 = some (.array 14 9) := by kernel_rfl
theorem u9 : Tryd.prog.underlying 9 = some .string := by kernel_rfl
theorem u4 : Tryd.prog.underlying 4 = some .bool := by kernel_rfl
theorem c9 : Tryd.prog.cellsOf 9 = 1 := by kernel_rfl

def laidL : List (String × DataW Unit) := [("loop.example/g00838/impl.keyWords", Rows.laid_loop_example_g00838_impl_keyWords)]
theorem door_met (os : Os) (args : Array Value) : laidMetH Tryd.prog laidL ((World.doorLaid Tryd.prog 400 os).forCall (fun _ _ => 0) ⟨#[], args, []⟩).memory :=
  laidMetH_of_parts3 (fuel := 8) (laidMet_of_run' 8 (by kernel_rfl) (by kernel_rfl)) (by kernel_rfl) (by kernel_rfl)

theorem of_laid {W : World} (h : laidMetH Tryd.prog laidL W) : ∀ j, j < 14 → W.cell? ⟨1, j, none⟩ = some (.string (kws.getD j ⟨#[]⟩)) := by
  rw [MakeChecks.laidMetH_plain _ _ _ (by kernel_rfl)] at h
  obtain ⟨ps, ⟨g1, t1, cs1, f1, p1, q1, hg1, ht1, hv1, hd1, _, _⟩, _, _⟩ := h
  obtain rfl := Option.some.inj (gKw.symm.trans hg1)
  obtain rfl := Option.some.inj (tKw.symm.trans ht1)
  intro j hj
  have := laid_strs (bs := kws) u135 u9 c9 hd1 rfl j hj
  rw [World.var?_cell hg1 hv1 j, ← Array.getElem?_toList]
  exact this

theorem walk (a : Option Addr) (len cap : Nat) (l : List Ch) (w : World) (hr : Rep w (fun b => b < w.heap.size) Pl.none (.slice a len cap) (.sl (cR l))) (hl : l.length ≤ maxLen) (hs : ∀ c ∈ l, c.s.size ≤ maxLen) (hL : laidMetH Tryd.prog laidL w) :
    Calls Tryd.prog 4 #[.slice a len cap] w fun e w' => e = .returned (.bool true) ∧ Below w.heap.size w w' := by
  refine law_walkA c4 w _ [.sl (cR l)] (amb_strs (bs := kws) (by decide) (of_laid hL)) ⟨l, rfl, hl, hs⟩ rfl rfl ?_
  intro j x v hx hv
  match j, hx, hv with
  | 0, hx, hv =>
    simp at hx hv
    subst hx hv
    exact hr
  | j + 1, hx, hv => simp at hx

theorem opened {cs : Array Value} (hz : cs.size = 16) (h : ∀ p ∈ [(0, 0), (1, 1), (0, 2), (0, 3), (0, 4), (0, 5), (0, 6), (0, 7), (0, 8), (0, 9), (0, 10), (0, 11), (0, 12), (0, 13), (0, 14), (0, 15)], ∃ v, cs.toList[p.2]? = some v ∧ leafOk p.1 v) :
    ∃ k s n a0 a1 a2 a3 a4 a5 a6 a7 b0 b1 b2 b3 b4, cs = #[.int .i64 k, .string s, .int .i64 n, .int .i64 a0, .int .i64 a1, .int .i64 a2, .int .i64 a3, .int .i64 a4, .int .i64 a5, .int .i64 a6, .int .i64 a7, .int .i64 b0, .int .i64 b1, .int .i64 b2, .int .i64 b3, .int .i64 b4] ∧ s.size ≤ maxLen := by
  obtain ⟨v0, e0, k, rfl, _⟩ := h (0, 0) (by simp)
  obtain ⟨v1, e1, s, rfl, hs⟩ := h (1, 1) (by simp)
  obtain ⟨v2, e2, n, rfl, _⟩ := h (0, 2) (by simp)
  obtain ⟨v3, e3, a0, rfl, _⟩ := h (0, 3) (by simp)
  obtain ⟨v4, e4, a1, rfl, _⟩ := h (0, 4) (by simp)
  obtain ⟨v5, e5, a2, rfl, _⟩ := h (0, 5) (by simp)
  obtain ⟨v6, e6, a3, rfl, _⟩ := h (0, 6) (by simp)
  obtain ⟨v7, e7, a4, rfl, _⟩ := h (0, 7) (by simp)
  obtain ⟨v8, e8, a5, rfl, _⟩ := h (0, 8) (by simp)
  obtain ⟨v9, e9, a6, rfl, _⟩ := h (0, 9) (by simp)
  obtain ⟨v10, e10, a7, rfl, _⟩ := h (0, 10) (by simp)
  obtain ⟨v11, e11, b0, rfl, _⟩ := h (0, 11) (by simp)
  obtain ⟨v12, e12, b1, rfl, _⟩ := h (0, 12) (by simp)
  obtain ⟨v13, e13, b2, rfl, _⟩ := h (0, 13) (by simp)
  obtain ⟨v14, e14, b3, rfl, _⟩ := h (0, 14) (by simp)
  obtain ⟨v15, e15, b4, rfl, _⟩ := h (0, 15) (by simp)
  refine ⟨k, s, n, a0, a1, a2, a3, a4, a5, a6, a7, b0, b1, b2, b3, b4, ?_, hs⟩
  obtain ⟨l⟩ := cs
  match l, hz with
  | [x0, x1, x2, x3, x4, x5, x6, x7, x8, x9, x10, x11, x12, x13, x14, x15], _ => simp_all

theorem row_of {r : List Value} (hz : r.length = 16) (h : ∀ p ∈ [(0, 0), (1, 1), (0, 2), (0, 3), (0, 4), (0, 5), (0, 6), (0, 7), (0, 8), (0, 9), (0, 10), (0, 11), (0, 12), (0, 13), (0, 14), (0, 15)], ∃ v, r[p.2]? = some v ∧ leafOk p.1 v) : (∃ c : Ch, r.map X.v = c.row ∧ c.s.size ≤ maxLen) ∧ ∀ v ∈ r, plain v = true := by
  obtain ⟨k, s, n, a0, a1, a2, a3, a4, a5, a6, a7, b0, b1, b2, b3, b4, e, hs⟩ := opened (cs := r.toArray) (by simpa using hz) (by simpa using h)
  have e' : r = [.int .i64 k, .string s, .int .i64 n, .int .i64 a0, .int .i64 a1, .int .i64 a2, .int .i64 a3, .int .i64 a4, .int .i64 a5, .int .i64 a6, .int .i64 a7, .int .i64 b0, .int .i64 b1, .int .i64 b2, .int .i64 b3, .int .i64 b4] := by simpa using congrArg Array.toList e
  subst e'
  exact ⟨⟨⟨k, s, n, a0, a1, a2, a3, a4, a5, a6, a7, b0, b1, b2, b3, b4⟩, rfl, hs⟩, by simp [plain]⟩
theorem rows_of : ∀ (rows : List (List Value)), (∀ r ∈ rows, r.length = 16 ∧ ∀ p ∈ [(0, 0), (1, 1), (0, 2), (0, 3), (0, 4), (0, 5), (0, 6), (0, 7), (0, 8), (0, 9), (0, 10), (0, 11), (0, 12), (0, 13), (0, 14), (0, 15)], ∃ v, r[p.2]? = some v ∧ leafOk p.1 v) →
    ∃ l : List Ch, (rows.map fun r => r.map X.v) = cR l ∧ ∀ c ∈ l, c.s.size ≤ maxLen
  | [], _ => ⟨[], rfl, by simp⟩
  | r :: rows, h => by
    obtain ⟨l, h1, h2⟩ := rows_of rows fun r hr => h r (List.mem_cons_of_mem _ hr)
    obtain ⟨⟨c, h3, h4⟩, _⟩ := row_of (h r List.mem_cons_self).1 (h r List.mem_cons_self).2
    refine ⟨c :: l, by simp only [List.map_cons, h1, h3]; rfl, fun d hd => ?_⟩
    rcases List.mem_cons.1 hd with rfl | hd
    · exact h4
    · exact h2 d hd

set_option maxRecDepth 100000 in
theorem lifted (os : Os) (started : os.Started) (H : Type) (enc : TypeId × Value → H) :
    ReturnsInHanded {} Tryd.checked os 4 .any (fun w args => (Rows.fnExactCountChangesSpec.pre enc Tryd.prog Tryd.f4 [] false w args ∧ laidMetH Tryd.prog laidL w) ∧ sizedMet enc Tryd.prog Tryd.f4 (OpenSpec.ofChange Rows.fnExactCountChangesSpec) false w args)
      (Rows.fnExactCountChangesSpec.post enc Tryd.prog Tryd.f4 false true false false) := by
  refine returnsInHanded_of_change_and (C := Tryd.checked) (X := fun w _ => laidMetH Tryd.prog laidL w) (fun _ _ _ hh h => h.of_heap hh) own started (by kernel_rfl) Tryd.func4
    (ChangeSpec.witness_shaped (enc := enc) (C := Tryd.checked) (os := os) (X := fun w _ => laidMetH Tryd.prog laidL w) false (World.doorLaid Tryd.prog 400 os) #[.slice none 0 0] 8 rfl (World.shaped_of_RefB (by kernel_rfl) (by kernel_rfl)) (by kernel_rfl) (by kernel_rfl) (by kernel_rfl) (door_met os _)) ?_
  intro W base args ds gs before hval0 hW _ _ hL _
  have hval : ∀ (j : Nat) t v, Tryd.f4.params[j]? = some t → args[j]? = some v → Value.okWide Tryd.prog W .any base t v := hval0
  have hW' := hW
  obtain ⟨p, q, hA0, hV, rfl, hfz, hnd⟩ := hW
  have hA : DataW.TrodAll enc Tryd.prog W 0 (fun _ => true) true Tryd.f4.params.toList args.toList ds p := hA0
  rw [Tryd.params4] at hA hval
  obtain ⟨v0, d0, rfl, rfl, h0⟩ := trodAll_one hA
  have k0 := h0
  have lt0 : ∀ x ∈ p, x.block < W.heap.size := by obtain ⟨m, hm⟩ := k0; exact DataW.trod_lt m _ _ _ hm
  obtain ⟨a0, len0, cap0, rfl⟩ := okWide_slice u36 (hval 0 36 v0 rfl rfl)
  obtain ⟨fuel, hf⟩ := h0
  obtain ⟨hln, rows, hrl, hrows, hrep⟩ := open_rows u36 c27 (by decide) leaves hf
  obtain ⟨l, hl1, hl2⟩ := rows_of rows hrows
  have hr := hrep fun r hr v hv => (row_of (hrows r hr).1 (hrows r hr).2).2 v hv
  rw [hl1] at hr
  have hll : l.length ≤ maxLen := by
    have := congrArg List.length hl1
    simp [cR] at this
    omega
  clear hA0 hval0
  match gs, hV with
  | [], hV => exact absurd hV (by intro h; cases h)
  | g1 :: g2 :: gs, hV => exact absurd hV (by rintro ⟨_, _, _, _, _, _, _, _, _, _, h, _⟩; cases h)
  | [g1], hV =>
    refine (walk a0 len0 cap0 l W hr hll hl2 hL).mono fun e W' ⟨he, bel⟩ => ?_
    subst he
    exact ⟨_, rfl, _, _, _, [], _, _, hW', trodAll_mk1 (shut_bool u4 _), trodAll_mk1 (Below.trod laidOut (by kernel_rfl) (of_decide_eq_true (by kernel_rfl)) k0 bel lt0), Below.trodVars laidOut bel (by kernel_rfl) hV, bel.frame _, fun h => by cases h⟩

theorem over : Rows.fnExactCountChangesRow.holds Tryd.pinned (OpenSpec.ofChange Rows.fnExactCountChangesSpec) :=
  OpenClaim.holds_of_wide 4 Tryd.f4 rfl rfl rfl rfl rfl rfl rfl ⟨rfl, rfl, rfl, rfl, rfl⟩ rfl rfl rfl rfl rfl (by kernel_rfl) Tryd.func4 (by kernel_rfl)
    (of_decide_eq_true (by kernel_rfl)) (by unfold Func.isWrapper; first | (rw [if_pos (by decide +kernel)]; kernel_rfl) | (rw [if_neg (by decide +kernel)]; exact ⟨rfl, rfl⟩))
    (fun os started H enc _ => lifted os started H enc)

theorem proved : Rows.FnExactCountChangesCardSaid :=
  Claim7.holds_tied_plain_at .later [] [.data] true (true, "f309048ae0707541efef2c2a477ac738632d6465618817115123a4ca6d291631") false
    over (fun _ h => by cases h) (by kernel_rfl) (fun _ h => by cases h) fnExactCountChanges_row_tie rfl ⟨rfl, rfl⟩ (by kernel_rfl) rfl
    (fun f fn hf hfn => by
      obtain rfl : f = 4 := Option.some.inj ((show Tryd.prog.funcNamed "loop.example/g00838/laws.FnExactCountChanges" = some 4 by kernel_rfl).symm.trans hf) |>.symm
      obtain rfl : fn = Tryd.f4 := (Option.some.inj (Tryd.func4.symm.trans hfn)).symm
      exact ⟨by kernel_rfl, fun j t ht => by
        rw [Tryd.params4] at ht
        have hm : t ∈ [36] := by simpa using Array.mem_of_getElem? ht
        have hall : ([36].all fun u => !Tryd.prog.wantsStandIn u) = true := by kernel_rfl
        exact (show Tryd.prog.wantsStandIn t = false by simpa using List.all_eq_true.1 hall t hm)⟩)
    (by kernel_rfl)
#print axioms proved
end Go.Proofs.YtoefkakkcoinkaaDoor.lawCountChanges
