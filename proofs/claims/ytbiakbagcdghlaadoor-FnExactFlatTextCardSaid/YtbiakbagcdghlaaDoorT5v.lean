/-
  What is proved here: lines of words, on both sides. Condition: none.
-/
import Derived.Test.YtbiakbagcdghlaaDoorT4v
import Derived.Test.YtbiakbagcdghlaaDoorA1v
import Derived.Test.YtbiakbagcdghlaaDoorS0v
namespace Go.Proofs
open Go.Abs
set_option linter.unusedSimpArgs false
set_option linter.unnecessarySimpa false
set_option linter.unusedVariables false
set_option maxHeartbeats 8000000
set_option maxRecDepth 20000

theorem tl_eq (a b : ByteArray) : (a.toList == b.toList) = decide (a = b) := by
  rw [ByteArray.toList_eq, ByteArray.toList_eq]
  by_cases h : a = b
  · subst h; simp
  · have : ¬ a.data = b.data := fun e => h (ba_ext e)
    simp [h, this]
/-! ### the numbers of a line -/
def nums (x : Cls) : List Int := [x.id, x.par, x.rate, x.ceil, x.burst, x.cburst, x.prio, x.lim]
def F30 : Fun := ⟨fun xs => xs = [I (deI (xs.getD 0 .top) : Int)] ∧ (fun (n : Int) => (True)) (deI (xs.getD 0 .top) : Int), fun xs => (fun (n : Int) => ((B (rng 0 1000000000 n), []) : X × List Ob)) (deI (xs.getD 0 .top) : Int)⟩
theorem F30_in {xs : List X} (h : F30.pre xs) : ∃ (n : Int), xs = [I n] ∧ (True) := ⟨_, h.1, h.2⟩
theorem F30_res (n : Int) : F30.res [I n] = (B (rng 0 1000000000 n), []) := by simp [F30]
theorem F30_mk (n : Int) (h : True) : F30.pre [I n] := by simpa [F30] using h
theorem c30 : GenCA K Tryd.prog 30 F30 := by
  refine contractA Tryd.mix K [] [] (by simp) (by simp) Tryd.func30 rfl (by decide) ?_
  intro xs hxs
  obtain ⟨n, rfl, hp⟩ := F30_in hxs
  rw [F30_res]
  refine ⟨by rw [Tryd.ntmps30]; simp, ?_⟩
  simp -implicitDefEqProofs [Tryd.f30, List.lookup_cons, and_assoc, pick_and, pick_or, if_and, if_or]
  refine fin_pure (by simp) ?_
  simp -implicitDefEqProofs [pur2_i, pur2_b, pur2_s, pur2_nil, pur2_sl, pur2_tup, rn2_tup, rn2_agg, rn2_osl, rn1_v, rn1_osl, rn1_agg, rn0_v, rn0_sl, rn0, pickObs, pur_v, pur_b, pur_s, pur_nil, pur_sl, deI, deIs_sl, rng]
def F31 : Fun := ⟨fun xs => xs = [.sl (iR (deIs (xs.getD 0 .top) : List Int))] ∧ (fun (l : List Int) => (l.length ≤ 1048576)) (deIs (xs.getD 0 .top) : List Int), fun xs => (fun (l : List Int) => ((B (l.all (rng 0 1000000000)), []) : X × List Ob)) (deIs (xs.getD 0 .top) : List Int)⟩
theorem F31_in {xs : List X} (h : F31.pre xs) : ∃ (l : List Int), xs = [.sl (iR l)] ∧ (l.length ≤ 1048576) := ⟨_, h.1, h.2⟩
theorem F31_res (l : List Int) : F31.res [.sl (iR l)] = (B (l.all (rng 0 1000000000)), []) := by simp [F31]
theorem F31_mk (l : List Int) (h : l.length ≤ 1048576) : F31.pre [.sl (iR l)] := by simpa [F31] using h
theorem c31 : GenCA K Tryd.prog 31 F31 := by
  refine contractA Tryd.mix K [(30, F30)] [] (by simp [c30]) (by simp) Tryd.func31 rfl (by decide) ?_
  intro xs hxs
  obtain ⟨l, rfl, hp⟩ := F31_in hxs
  rw [F31_res]
  refine ⟨by rw [Tryd.ntmps31]; simp, ?_⟩
  simp -implicitDefEqProofs [Tryd.f31, List.lookup_cons, and_assoc, pick_and, pick_or, if_and, if_or]
  refine loopP_inv (fun k : Nat => ⟨15, tl [(5, .sl (iR l)), (6, I l.length), (7, I k)], []⟩) (fun k => k ≤ l.length ∧ (l.take k).all (rng 0 1000000000) = true) (fun k => l.length - k) 0 (by simp) (Wk.tl (by simp [hold, upd, tl_cons])) ?_
  rintro k ⟨hk, ha⟩
  by_cases h : k < l.length
  · have hw1 := w64n (show k < 4611686018427387904 by omega)
    cases hr : rng 0 1000000000 l[k] with
    | true =>
      simp -implicitDefEqProofs [List.lookup_cons, and_assoc, pick_and, pick_or, if_and, if_or, h, F30, hr]
      exact ⟨k + 1, by omega, by simpa using all_stepI l _ k h ha hr, by omega, Wk.tl (by simp [hold, upd, tl_cons, hw1])⟩
    | false =>
      have hb := all_badI l _ k h hr
      simp -implicitDefEqProofs [List.lookup_cons, and_assoc, pick_and, pick_or, if_and, if_or, h, F30, hr]
      refine fin_pure (by simp) ?_
      simp -implicitDefEqProofs [pur2_i, pur2_b, pur2_s, pur2_nil, pur2_sl, pur2_tup, rn2_tup, rn2_agg, rn2_osl, rn1_v, rn1_osl, rn1_agg, rn0_v, rn0_sl, rn0, pickObs, pur_v, pur_b, pur_s, pur_nil, pur_sl, deI, deIs_sl, hb]
  · have e : k = l.length := by omega
    subst e
    rw [List.take_length] at ha
    simp -implicitDefEqProofs [List.lookup_cons, and_assoc, pick_and, pick_or, if_and, if_or]
    refine fin_pure (by simp) ?_
    simp -implicitDefEqProofs [pur2_i, pur2_b, pur2_s, pur2_nil, pur2_sl, pur2_tup, rn2_tup, rn2_agg, rn2_osl, rn1_v, rn1_osl, rn1_agg, rn0_v, rn0_sl, rn0, pickObs, pur_v, pur_b, pur_s, pur_nil, pur_sl, deI, deIs_sl, ha]
def F42 : Fun := ⟨fun xs => xs = [.sl (iR (deIs (xs.getD 0 .top) : List Int))] ∧ (fun (l : List Int) => (l.length ≤ 1048576)) (deIs (xs.getD 0 .top) : List Int), fun xs => (fun (l : List Int) => ((B (l.all (rng 0 1000000000)), []) : X × List Ob)) (deIs (xs.getD 0 .top) : List Int)⟩
theorem F42_in {xs : List X} (h : F42.pre xs) : ∃ (l : List Int), xs = [.sl (iR l)] ∧ (l.length ≤ 1048576) := ⟨_, h.1, h.2⟩
theorem F42_res (l : List Int) : F42.res [.sl (iR l)] = (B (l.all (rng 0 1000000000)), []) := by simp [F42]
theorem F42_mk (l : List Int) (h : l.length ≤ 1048576) : F42.pre [.sl (iR l)] := by simpa [F42] using h
theorem c42 : GenCA K Tryd.prog 42 F42 := by
  refine contractA Tryd.mix K [(55, F55)] [] (by simp [c55]) (by simp) Tryd.func42 rfl (by decide) ?_
  intro xs hxs
  obtain ⟨l, rfl, hp⟩ := F42_in hxs
  rw [F42_res]
  refine ⟨by rw [Tryd.ntmps42]; simp, ?_⟩
  simp -implicitDefEqProofs [Tryd.f42, F55, List.lookup_cons, and_assoc, pick_and, pick_or, if_and, if_or, hp]
  refine fin_pure (by simp) ?_
  simp -implicitDefEqProofs [pur2_i, pur2_b, pur2_s, pur2_nil, pur2_sl, pur2_tup, rn2_tup, rn2_agg, rn2_osl, rn1_v, rn1_osl, rn1_agg, rn0_v, rn0_sl, rn0, pickObs, pur_v, pur_b, pur_s, pur_nil, pur_sl, deI, deIs_sl]
def F32 : Fun := ⟨fun xs => xs = [.agg (rX (deA (xs.getD 0 .top) : Cls))] ∧ (fun (x : Cls) => (True)) (deA (xs.getD 0 .top) : Cls), fun xs => (fun (x : Cls) => ((.osl 0 0, [iOb (nums x)]) : X × List Ob)) (deA (xs.getD 0 .top) : Cls)⟩
theorem F32_in {xs : List X} (h : F32.pre xs) : ∃ (x : Cls), xs = [.agg (rX x)] ∧ (True) := ⟨_, h.1, h.2⟩
theorem F32_res (x : Cls) : F32.res [.agg (rX x)] = (.osl 0 0, [iOb (nums x)]) := by simp [F32]
theorem F32_mk (x : Cls) (h : True) : F32.pre [.agg (rX x)] := by simpa [F32] using h
theorem c32 : GenCA K Tryd.prog 32 F32 := by
  refine contractA Tryd.mix K [] [] (by simp) (by simp) Tryd.func32 rfl (by decide) ?_
  intro xs hxs
  obtain ⟨x, rfl, hp⟩ := F32_in hxs
  rw [F32_res]
  refine ⟨by rw [Tryd.ntmps32]; simp, ?_⟩
  simp -implicitDefEqProofs [Tryd.f32, List.lookup_cons, and_assoc, pick_and, pick_or, if_and, if_or, eBuildSlice, srcRows, srcOk, chunk, show List.range 8 = [0, 1, 2, 3, 4, 5, 6, 7] from rfl]
  refine fin_own [1] (by simp [pickOk, ok0]) ?_
  simp -implicitDefEqProofs [pur2_i, pur2_b, pur2_s, pur2_nil, pur2_sl, pur2_tup, rn2_tup, rn2_agg, rn2_osl, rn1_v, rn1_osl, rn1_agg, rn0_v, rn0_sl, rn0, pickObs, pur_v, pur_b, pur_s, pur_nil, pur_sl, deI, deIs_sl, iOb, nums, iR_cons, iR_nil]
theorem c44 : GenCA K Tryd.prog 44 F32 := by
  refine contractA Tryd.mix K [] [] (by simp) (by simp) Tryd.func44 rfl (by decide) ?_
  intro xs hxs
  obtain ⟨x, rfl, hp⟩ := F32_in hxs
  rw [F32_res]
  refine ⟨by rw [Tryd.ntmps44]; simp, ?_⟩
  simp -implicitDefEqProofs [Tryd.f44, List.lookup_cons, and_assoc, pick_and, pick_or, if_and, if_or, eBuildSlice, srcRows, srcOk, chunk, show List.range 8 = [0, 1, 2, 3, 4, 5, 6, 7] from rfl]
  refine fin_own [1] (by simp [pickOk, ok0]) ?_
  simp -implicitDefEqProofs [pur2_i, pur2_b, pur2_s, pur2_nil, pur2_sl, pur2_tup, rn2_tup, rn2_agg, rn2_osl, rn1_v, rn1_osl, rn1_agg, rn0_v, rn0_sl, rn0, pickObs, pur_v, pur_b, pur_s, pur_nil, pur_sl, deI, deIs_sl, iOb, nums, iR_cons, iR_nil]
def cWords : List ByteArray := [⟨#[]⟩, ⟨#[]⟩, ⟨#[114, 97, 116, 101]⟩, ⟨#[99, 101, 105, 108]⟩, ⟨#[98, 117, 114, 115, 116]⟩, ⟨#[99, 98, 117, 114, 115, 116]⟩, ⟨#[112, 114, 105, 111]⟩, ⟨#[108, 105, 109, 105, 116]⟩]
def F36 : Fun := ⟨fun xs => xs = [] ∧ ((True)), fun xs => (((.osl 0 0, [strOb cWords]) : X × List Ob))⟩
theorem F36_in {xs : List X} (h : F36.pre xs) : xs = [] ∧ (True) := h
theorem F36_res  : F36.res [] = (.osl 0 0, [strOb cWords]) := by simp [F36]
theorem F36_mk  (h : True) : F36.pre [] := by simpa [F36] using h
theorem c36 : GenCA K Tryd.prog 36 F36 := by
  refine contractA Tryd.mix K [] [] (by simp) (by simp) Tryd.func36 rfl (by decide) ?_
  intro xs hxs
  obtain ⟨rfl, hp⟩ := F36_in hxs
  rw [F36_res]
  refine ⟨by rw [Tryd.ntmps36]; simp, ?_⟩
  simp -implicitDefEqProofs [Tryd.f36, List.lookup_cons, and_assoc, pick_and, pick_or, if_and, if_or, eBuildSlice, srcRows, srcOk, chunk, show List.range 8 = [0, 1, 2, 3, 4, 5, 6, 7] from rfl]
  refine fin_own [0] (by simp [pickOk, ok0]) ?_
  simp -implicitDefEqProofs [pur2_i, pur2_b, pur2_s, pur2_nil, pur2_sl, pur2_tup, rn2_tup, rn2_agg, rn2_osl, rn1_v, rn1_osl, rn1_agg, rn0_v, rn0_sl, rn0, pickObs, pur_v, pur_b, pur_s, pur_nil, pur_sl, deI, deIs_sl, strOb, sR, cWords]
end Go.Proofs
