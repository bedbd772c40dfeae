/-
  What is proved here: lines of words, on both sides. Condition: none.
-/
import Derived.Test.YtlkohlnkhpknhaaDoorT4t
import Derived.Test.YtlkohlnkhpknhaaDoorA1t
import Derived.Test.YtlkohlnkhpknhaaDoorS0t
namespace Go.Proofs
open Go.Abs
set_option linter.unusedSimpArgs false
set_option linter.unnecessarySimpa false
set_option linter.unusedVariables false
set_option maxHeartbeats 8000000
set_option maxRecDepth 20000

theorem tl_eq (a b : ByteArray) : (a.toList == b.toList) = decide (a = b) := by
  rw [ByteArray.toList_eq, ByteArray.toList_eq]
  by_cases h : a = b
  · subst h; simp
  · have : ¬ a.data = b.data := fun e => h (ba_ext e)
    simp [h, this]
/-! ### the numbers of a line -/
def nums (x : Cls) : List Int := [x.id, x.par, x.rate, x.ceil, x.burst, x.cburst, x.prio, x.lim]
def F46 : Fun := ⟨fun xs => xs = [I (deI (xs.getD 0 .top) : Int)] ∧ (fun (n : Int) => (True)) (deI (xs.getD 0 .top) : Int), fun xs => (fun (n : Int) => ((B (rng 0 1000000000 n), []) : X × List Ob)) (deI (xs.getD 0 .top) : Int)⟩
theorem F46_in {xs : List X} (h : F46.pre xs) : ∃ (n : Int), xs = [I n] ∧ (True) := ⟨_, h.1, h.2⟩
theorem F46_res (n : Int) : F46.res [I n] = (B (rng 0 1000000000 n), []) := by simp [F46]
theorem F46_mk (n : Int) (h : True) : F46.pre [I n] := by simpa [F46] using h
theorem c46 : GenCA K Tryd.prog 46 F46 := by
  refine contractA Tryd.mix K [] [] (by simp) (by simp) Tryd.func46 rfl (by decide) ?_
  intro xs hxs
  obtain ⟨n, rfl, hp⟩ := F46_in hxs
  rw [F46_res]
  refine ⟨by rw [Tryd.ntmps46]; simp, ?_⟩
  simp -implicitDefEqProofs [Tryd.f46, List.lookup_cons, and_assoc, pick_and, pick_or, if_and, if_or]
  refine fin_pure (by simp) ?_
  simp -implicitDefEqProofs [pur2_i, pur2_b, pur2_s, pur2_nil, pur2_sl, pur2_tup, rn2_tup, rn2_agg, rn2_osl, rn1_v, rn1_osl, rn1_agg, rn0_v, rn0_sl, rn0, pickObs, pur_v, pur_b, pur_s, pur_nil, pur_sl, deI, deIs_sl, rng]
def F25 : Fun := ⟨fun xs => xs = [.sl (iR (deIs (xs.getD 0 .top) : List Int))] ∧ (fun (l : List Int) => (l.length ≤ 1048576)) (deIs (xs.getD 0 .top) : List Int), fun xs => (fun (l : List Int) => ((B (l.all (rng 0 1000000000)), []) : X × List Ob)) (deIs (xs.getD 0 .top) : List Int)⟩
theorem F25_in {xs : List X} (h : F25.pre xs) : ∃ (l : List Int), xs = [.sl (iR l)] ∧ (l.length ≤ 1048576) := ⟨_, h.1, h.2⟩
theorem F25_res (l : List Int) : F25.res [.sl (iR l)] = (B (l.all (rng 0 1000000000)), []) := by simp [F25]
theorem F25_mk (l : List Int) (h : l.length ≤ 1048576) : F25.pre [.sl (iR l)] := by simpa [F25] using h
theorem c25 : GenCA K Tryd.prog 25 F25 := by
  refine contractA Tryd.mix K [(46, F46)] [] (by simp [c46]) (by simp) Tryd.func25 rfl (by decide) ?_
  intro xs hxs
  obtain ⟨l, rfl, hp⟩ := F25_in hxs
  rw [F25_res]
  refine ⟨by rw [Tryd.ntmps25]; simp, ?_⟩
  simp -implicitDefEqProofs [Tryd.f25, List.lookup_cons, and_assoc, pick_and, pick_or, if_and, if_or]
  refine loopP_inv (fun k : Nat => ⟨15, tl [(5, .sl (iR l)), (6, I l.length), (7, I k)], []⟩) (fun k => k ≤ l.length ∧ (l.take k).all (rng 0 1000000000) = true) (fun k => l.length - k) 0 (by simp) (Wk.tl (by simp [hold, upd, tl_cons])) ?_
  rintro k ⟨hk, ha⟩
  by_cases h : k < l.length
  · have hw1 := w64n (show k < 4611686018427387904 by omega)
    cases hr : rng 0 1000000000 l[k] with
    | true =>
      simp -implicitDefEqProofs [List.lookup_cons, and_assoc, pick_and, pick_or, if_and, if_or, h, F46, hr]
      exact ⟨k + 1, by omega, by simpa using all_stepI l _ k h ha hr, by omega, Wk.tl (by simp [hold, upd, tl_cons, hw1])⟩
    | false =>
      have hb := all_badI l _ k h hr
      simp -implicitDefEqProofs [List.lookup_cons, and_assoc, pick_and, pick_or, if_and, if_or, h, F46, hr]
      refine fin_pure (by simp) ?_
      simp -implicitDefEqProofs [pur2_i, pur2_b, pur2_s, pur2_nil, pur2_sl, pur2_tup, rn2_tup, rn2_agg, rn2_osl, rn1_v, rn1_osl, rn1_agg, rn0_v, rn0_sl, rn0, pickObs, pur_v, pur_b, pur_s, pur_nil, pur_sl, deI, deIs_sl, hb]
  · have e : k = l.length := by omega
    subst e
    rw [List.take_length] at ha
    simp -implicitDefEqProofs [List.lookup_cons, and_assoc, pick_and, pick_or, if_and, if_or]
    refine fin_pure (by simp) ?_
    simp -implicitDefEqProofs [pur2_i, pur2_b, pur2_s, pur2_nil, pur2_sl, pur2_tup, rn2_tup, rn2_agg, rn2_osl, rn1_v, rn1_osl, rn1_agg, rn0_v, rn0_sl, rn0, pickObs, pur_v, pur_b, pur_s, pur_nil, pur_sl, deI, deIs_sl, ha]
def F22 : Fun := ⟨fun xs => xs = [.sl (iR (deIs (xs.getD 0 .top) : List Int))] ∧ (fun (l : List Int) => (l.length ≤ 1048576)) (deIs (xs.getD 0 .top) : List Int), fun xs => (fun (l : List Int) => ((B (l.all (rng 0 1000000000)), []) : X × List Ob)) (deIs (xs.getD 0 .top) : List Int)⟩
theorem F22_in {xs : List X} (h : F22.pre xs) : ∃ (l : List Int), xs = [.sl (iR l)] ∧ (l.length ≤ 1048576) := ⟨_, h.1, h.2⟩
theorem F22_res (l : List Int) : F22.res [.sl (iR l)] = (B (l.all (rng 0 1000000000)), []) := by simp [F22]
theorem F22_mk (l : List Int) (h : l.length ≤ 1048576) : F22.pre [.sl (iR l)] := by simpa [F22] using h
theorem c22 : GenCA K Tryd.prog 22 F22 := by
  refine contractA Tryd.mix K [(43, F43)] [] (by simp [c43]) (by simp) Tryd.func22 rfl (by decide) ?_
  intro xs hxs
  obtain ⟨l, rfl, hp⟩ := F22_in hxs
  rw [F22_res]
  refine ⟨by rw [Tryd.ntmps22]; simp, ?_⟩
  simp -implicitDefEqProofs [Tryd.f22, F43, List.lookup_cons, and_assoc, pick_and, pick_or, if_and, if_or, hp]
  refine fin_pure (by simp) ?_
  simp -implicitDefEqProofs [pur2_i, pur2_b, pur2_s, pur2_nil, pur2_sl, pur2_tup, rn2_tup, rn2_agg, rn2_osl, rn1_v, rn1_osl, rn1_agg, rn0_v, rn0_sl, rn0, pickObs, pur_v, pur_b, pur_s, pur_nil, pur_sl, deI, deIs_sl]
def F26 : Fun := ⟨fun xs => xs = [.agg (rX (deA (xs.getD 0 .top) : Cls))] ∧ (fun (x : Cls) => (True)) (deA (xs.getD 0 .top) : Cls), fun xs => (fun (x : Cls) => ((.osl 0 0, [iOb (nums x)]) : X × List Ob)) (deA (xs.getD 0 .top) : Cls)⟩
theorem F26_in {xs : List X} (h : F26.pre xs) : ∃ (x : Cls), xs = [.agg (rX x)] ∧ (True) := ⟨_, h.1, h.2⟩
theorem F26_res (x : Cls) : F26.res [.agg (rX x)] = (.osl 0 0, [iOb (nums x)]) := by simp [F26]
theorem F26_mk (x : Cls) (h : True) : F26.pre [.agg (rX x)] := by simpa [F26] using h
theorem c26 : GenCA K Tryd.prog 26 F26 := by
  refine contractA Tryd.mix K [] [] (by simp) (by simp) Tryd.func26 rfl (by decide) ?_
  intro xs hxs
  obtain ⟨x, rfl, hp⟩ := F26_in hxs
  rw [F26_res]
  refine ⟨by rw [Tryd.ntmps26]; simp, ?_⟩
  simp -implicitDefEqProofs [Tryd.f26, List.lookup_cons, and_assoc, pick_and, pick_or, if_and, if_or, eBuildSlice, srcRows, srcOk, chunk, show List.range 8 = [0, 1, 2, 3, 4, 5, 6, 7] from rfl]
  refine fin_own [1] (by simp [pickOk, ok0]) ?_
  simp -implicitDefEqProofs [pur2_i, pur2_b, pur2_s, pur2_nil, pur2_sl, pur2_tup, rn2_tup, rn2_agg, rn2_osl, rn1_v, rn1_osl, rn1_agg, rn0_v, rn0_sl, rn0, pickObs, pur_v, pur_b, pur_s, pur_nil, pur_sl, deI, deIs_sl, iOb, nums, iR_cons, iR_nil]
theorem c23 : GenCA K Tryd.prog 23 F26 := by
  refine contractA Tryd.mix K [] [] (by simp) (by simp) Tryd.func23 rfl (by decide) ?_
  intro xs hxs
  obtain ⟨x, rfl, hp⟩ := F26_in hxs
  rw [F26_res]
  refine ⟨by rw [Tryd.ntmps23]; simp, ?_⟩
  simp -implicitDefEqProofs [Tryd.f23, List.lookup_cons, and_assoc, pick_and, pick_or, if_and, if_or, eBuildSlice, srcRows, srcOk, chunk, show List.range 8 = [0, 1, 2, 3, 4, 5, 6, 7] from rfl]
  refine fin_own [1] (by simp [pickOk, ok0]) ?_
  simp -implicitDefEqProofs [pur2_i, pur2_b, pur2_s, pur2_nil, pur2_sl, pur2_tup, rn2_tup, rn2_agg, rn2_osl, rn1_v, rn1_osl, rn1_agg, rn0_v, rn0_sl, rn0, pickObs, pur_v, pur_b, pur_s, pur_nil, pur_sl, deI, deIs_sl, iOb, nums, iR_cons, iR_nil]
def cWords : List ByteArray := [⟨#[]⟩, ⟨#[]⟩, ⟨#[114, 97, 116, 101]⟩, ⟨#[99, 101, 105, 108]⟩, ⟨#[98, 117, 114, 115, 116]⟩, ⟨#[99, 98, 117, 114, 115, 116]⟩, ⟨#[112, 114, 105, 111]⟩, ⟨#[108, 105, 109, 105, 116]⟩]
def F48 : Fun := ⟨fun xs => xs = [] ∧ ((True)), fun xs => (((.osl 0 0, [strOb cWords]) : X × List Ob))⟩
theorem F48_in {xs : List X} (h : F48.pre xs) : xs = [] ∧ (True) := h
theorem F48_res  : F48.res [] = (.osl 0 0, [strOb cWords]) := by simp [F48]
theorem F48_mk  (h : True) : F48.pre [] := by simpa [F48] using h
theorem c48 : GenCA K Tryd.prog 48 F48 := by
  refine contractA Tryd.mix K [] [] (by simp) (by simp) Tryd.func48 rfl (by decide) ?_
  intro xs hxs
  obtain ⟨rfl, hp⟩ := F48_in hxs
  rw [F48_res]
  refine ⟨by rw [Tryd.ntmps48]; simp, ?_⟩
  simp -implicitDefEqProofs [Tryd.f48, List.lookup_cons, and_assoc, pick_and, pick_or, if_and, if_or, eBuildSlice, srcRows, srcOk, chunk, show List.range 8 = [0, 1, 2, 3, 4, 5, 6, 7] from rfl]
  refine fin_own [0] (by simp [pickOk, ok0]) ?_
  simp -implicitDefEqProofs [pur2_i, pur2_b, pur2_s, pur2_nil, pur2_sl, pur2_tup, rn2_tup, rn2_agg, rn2_osl, rn1_v, rn1_osl, rn1_agg, rn0_v, rn0_sl, rn0, pickObs, pur_v, pur_b, pur_s, pur_nil, pur_sl, deI, deIs_sl, strOb, sR, cWords]
end Go.Proofs
