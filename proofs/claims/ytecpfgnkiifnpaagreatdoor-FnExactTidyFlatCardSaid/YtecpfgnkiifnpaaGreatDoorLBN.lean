/-
  What is proved here: contracts of the law's own functions on whole numbers. Condition: none.
  What is proved here: contracts of the small checks of numbers. Condition: none.
  What is proved here: contracts of the functions on names. Condition: none.
-/
import Derived.Test.YtecpfgnkiifnpaaGreatDoorKXYtecpfgnkiifnpaaGreatDooro
set_option linter.unusedVariables false
set_option linter.unusedSimpArgs false
set_option linter.unnecessarySimpa false
set_option maxHeartbeats 4000000
set_option maxRecDepth 20000
namespace Go.Proofs
open Go.Abs
def iOb (l : List Int) : Ob := ⟨3, 1, 0, iR l, false, true, none⟩
theorem take_succ' (l : List Int) (k : Nat) (h : k < l.length) : l.take (k + 1) = l.take k ++ [l[k]] := by rw [List.take_succ_eq_append_getElem h]
def upI (k : Int) (n : Nat) : List Int := (List.range n).map fun i : Nat => k + (i : Int)
theorem upI_len (k : Int) (n : Nat) : (upI k n).length = n := by simp [upI]
theorem upI_set (k : Int) (l : List Int) (j : Nat) (h : j < l.length) : upI k j ++ (l.drop j).set 0 (k + j) = upI k (j + 1) ++ l.drop (j + 1) := by
  rw [List.drop_eq_getElem_cons h, List.set_cons_zero]
  simp [upI, List.range_succ]
@[simp] theorem upI_zero (k : Int) : upI k 0 = [] := rfl
@[simp] theorem deIs_em : deIs (.sl []) = [] := rfl
attribute [simp] upI_len
theorem fill_set (l : List Int) (k : Nat) (h : k < l.length) : (l.take k ++ List.replicate (l.length - k) 0).set k l[k] = l.take (k + 1) ++ List.replicate (l.length - (k + 1)) 0 := fillT 0 l k h
end Go.Proofs
namespace Go.Proofs
open Go.Abs
theorem not_true {b : Bool} (h : ¬ b = true) : b = false := by simpa using h
/-! ### small checks -/
def F29 : Fun := ⟨fun xs => xs = [I (deI (xs.getD 0 .top) : Int), I (deI (xs.getD 1 .top) : Int), I (deI (xs.getD 2 .top) : Int)] ∧ (fun (x : Int) (lo : Int) (hi : Int) => (True)) (deI (xs.getD 0 .top) : Int) (deI (xs.getD 1 .top) : Int) (deI (xs.getD 2 .top) : Int), fun xs => (fun (x : Int) (lo : Int) (hi : Int) => ((B (rng lo hi x), []) : X × List Ob)) (deI (xs.getD 0 .top) : Int) (deI (xs.getD 1 .top) : Int) (deI (xs.getD 2 .top) : Int)⟩
theorem F29_in {xs : List X} (h : F29.pre xs) : ∃ (x : Int) (lo : Int) (hi : Int), xs = [I x, I lo, I hi] ∧ (True) := ⟨_, _, _, h.1, h.2⟩
theorem F29_res (x : Int) (lo : Int) (hi : Int) : F29.res [I x, I lo, I hi] = (B (rng lo hi x), []) := by simp [F29]
theorem F29_mk (x : Int) (lo : Int) (hi : Int) (h : True) : F29.pre [I x, I lo, I hi] := by simpa [F29] using h
theorem c29 : GenCA K Tryz.prog 29 F29 := by
  refine contractA Tryz.mix K [] [] (by simp) (by simp) Tryz.func29 rfl (by decide) ?_
  intro xs hxs
  obtain ⟨x, lo, hi, rfl, hp⟩ := F29_in hxs
  rw [F29_res]
  refine ⟨by rw [Tryz.ntmps29]; simp, ?_⟩
  simp -implicitDefEqProofs [Tryz.f29, List.lookup_cons, eS]
  refine fin_pure (by simp) ?_
  simp -implicitDefEqProofs [fS, rn0, pickObs, deI, rng]
def F121 : Fun := ⟨fun xs => xs = [I (deI (xs.getD 0 .top) : Int)] ∧ (fun (x : Int) => (True)) (deI (xs.getD 0 .top) : Int), fun xs => (fun (x : Int) => ((B (rng 1 999 x), []) : X × List Ob)) (deI (xs.getD 0 .top) : Int)⟩
theorem F121_in {xs : List X} (h : F121.pre xs) : ∃ (x : Int), xs = [I x] ∧ (True) := ⟨_, h.1, h.2⟩
theorem F121_res (x : Int) : F121.res [I x] = (B (rng 1 999 x), []) := by simp [F121]
theorem F121_mk (x : Int) (h : True) : F121.pre [I x] := by simpa [F121] using h
theorem c121 : GenCA K Tryz.prog 121 F121 := by
  refine contractA Tryz.mix K [] [] (by simp) (by simp) Tryz.func121 rfl (by decide) ?_
  intro xs hxs
  obtain ⟨x, rfl, hp⟩ := F121_in hxs
  rw [F121_res]
  refine ⟨by rw [Tryz.ntmps121]; simp, ?_⟩
  simp -implicitDefEqProofs [Tryz.f121, List.lookup_cons, eS]
  refine fin_pure (by simp) ?_
  simp -implicitDefEqProofs [fS, rn0, pickObs, deI, rng]
end Go.Proofs
namespace Go.Proofs
open Go.Abs
def small (n : Int) : Bool := decide (97 ≤ n) && decide (n ≤ 122)
def F111 : Fun := ⟨fun xs => ∃ x, xs = [.v (.int .u8 x)], fun xs => (B (small (deU (xs.getD 0 .top))), [])⟩
theorem c111 : GenCA K Tryz.prog 111 F111 := by
  refine contractA Tryz.mix K [] [] (by simp) (by simp) Tryz.func111 rfl (by decide) ?_
  rintro xs ⟨x, rfl⟩
  refine ⟨by rw [Tryz.ntmps111]; simp, ?_⟩
  simp -implicitDefEqProofs [Tryz.f111, List.lookup_cons, eS]
  refine fin_pure (by simp) ?_
  simp -implicitDefEqProofs [fS, rn0, pickObs, deI, F111, small, deU]
/-! ### keys -/
def isKy (s : ByteArray) : Bool := kws.any fun b => b.toList == s.toList
def F112 : Fun := ⟨fun xs => ∃ s, xs = [Sx s], fun xs => (B (isKy (deS (xs.getD 0 .top))), [])⟩
theorem any_take (l : List ByteArray) (p : ByteArray → Bool) (k : Nat) (h : k < l.length) (h1 : (l.take k).any p = false) (h2 : p l[k] = false) : (l.take (k + 1)).any p = false := by
  rw [List.take_succ_eq_append_getElem h, List.any_append, h1]; simp [h2]
theorem any_at (l : List ByteArray) (p : ByteArray → Bool) (k : Nat) (h : k < l.length) (h2 : p l[k] = true) : l.any p = true := by
  rw [List.any_eq_true]; exact ⟨_, List.getElem_mem h, h2⟩
theorem c112 : GenCA K Tryz.prog 112 F112 := by
  refine contractA Tryz.mix K [] [] (by simp) (by simp) Tryz.func112 rfl (by decide) ?_
  rintro xs ⟨s, rfl⟩
  refine ⟨by rw [Tryz.ntmps112]; simp, ?_⟩
  simp -implicitDefEqProofs [Tryz.f112, List.lookup_cons, eS, Sx, K, kwX_len]
  refine loopP_inv (fun k : Nat => ⟨13, tl [(0, .v (.string s)), (5, .agg kwX), (6, I k)], []⟩) (fun k => k ≤ 14 ∧ (kws.take k).any (fun b => b.toList == s.toList) = false) (fun k => 14 - k) 0 (by simp) (Wk.tl (by simp [hold, upd, tl_cons, kwX_take])) ?_
  rintro k ⟨hk, ha⟩
  by_cases h : k < 14
  · have h' : k < kws.length := h
    have hi : (k : Int) < 14 := by omega
    have hg := kwX_get k h
    simp -implicitDefEqProofs [List.lookup_cons, eS, h, hi, kwX_getE, kwX_len, show k + 1 ≤ 14 by omega]
    refine ⟨fun hx => ?_, fun hx => ⟨k + 1, by omega, ?_, by omega, Wk.tl ?_⟩⟩
    · refine fin_pure (by simp) ?_
      have := any_at kws (fun b => b.toList == s.toList) k h' (by rw [← kw_eq k h']; simpa using hx)
      have e : isKy s = true := this
      simp -implicitDefEqProofs [fS, rn0, pickObs, deI, F112, deS, e]
    · have := any_take kws (fun b => b.toList == s.toList) k h' ha (by rw [← kw_eq k h']; simpa using hx)
      simpa using this
    · simp [hold, upd, tl_cons, w64_nat (show k < 4611686018427387904 by omega)]
  · have hi : ¬ (k : Int) < 14 := by omega
    have e : k = 14 := by omega
    subst e
    simp -implicitDefEqProofs [List.lookup_cons, eS]
    refine fin_pure (by simp) ?_
    have e : isKy s = false := ha
    simp -implicitDefEqProofs [fS, rn0, pickObs, deI, F112, deS, e]
def F85 : Fun := ⟨fun xs => xs = [], fun _ => (.sl (sR kws), [])⟩
theorem c85 : GenCA K Tryz.prog 85 F85 := by
  refine contractA Tryz.mix K [] [] (by simp) (by simp) Tryz.func85 rfl (by decide) ?_
  rintro xs rfl
  refine ⟨by rw [Tryz.ntmps85]; simp, ?_⟩
  simp -implicitDefEqProofs [Tryz.f85, List.lookup_cons, eS, eBuildSlice, fillX, chunk, plain, cellsX, splice]
  refine fin_pure (by simp) ?_
  rfl
def F84 : Fun := ⟨fun xs => ∃ l s, xs = [.sl (sR l), Sx s] ∧ l.length ≤ 1048576, fun xs => (B ((deSs (xs.getD 0 .top)).any fun b => b.toList == (deS (xs.getD 1 .top)).toList), [])⟩
theorem c84 : GenCA K Tryz.prog 84 F84 := by
  refine contractA Tryz.mix K [] [] (by simp) (by simp) Tryz.func84 rfl (by decide) ?_
  rintro xs ⟨l, s, rfl, hl⟩
  refine ⟨by rw [Tryz.ntmps84]; simp, ?_⟩
  simp -implicitDefEqProofs [Tryz.f84, List.lookup_cons, eS, Sx, sR_length]
  refine loopP_inv (fun k : Nat => ⟨17, tl [(1, .v (.string s)), (7, .sl (sR l)), (8, I l.length), (9, I k)], []⟩) (fun k => k ≤ l.length ∧ (l.take k).any (fun b => b.toList == s.toList) = false) (fun k => l.length - k) 0 (by simp) (Wk.tl (by simp [hold, upd, tl_cons])) ?_
  rintro k ⟨hk, ha⟩
  by_cases h : k < l.length
  · simp -implicitDefEqProofs [List.lookup_cons, eS, h, sR_get, sR_getE, sR_length]
    refine ⟨fun hx => ?_, fun hx => ⟨k + 1, by omega, ?_, by omega, Wk.tl ?_⟩⟩
    · refine fin_pure (by simp) ?_
      have e := any_at l (fun b => b.toList == s.toList) k h (by simpa using hx)
      have e' : ((deSs (.sl (sR l))).any fun b => b.toList == s.toList) = true := by rw [deSs_sl]; exact e
      simp only [F84, List.getD_cons_zero, List.getD_cons_succ, deS]
      rw [e']
      rfl
    · have := any_take l (fun b => b.toList == s.toList) k h ha (by simpa using hx)
      simpa using this
    · simp [hold, upd, tl_cons, w64_nat (show k < 4611686018427387904 by omega)]
  · have e : k = l.length := by omega
    subst e
    rw [List.take_length] at ha
    simp -implicitDefEqProofs [List.lookup_cons, eS]
    refine fin_pure (by simp) ?_
    have e' : ((deSs (.sl (sR l))).any fun b => b.toList == s.toList) = false := by rw [deSs_sl]; exact ha
    simp only [F84, List.getD_cons_zero, List.getD_cons_succ, deS]
    rw [e']
    rfl
theorem c51 : GenCA K Tryz.prog 51 F112 := by
  refine contractA Tryz.mix K [(85, F85), (84, F84)] [] (by simp [c85, c84]) (by simp) Tryz.func51 rfl (by decide) ?_
  rintro xs ⟨s, rfl⟩
  refine ⟨by rw [Tryz.ntmps51]; simp, ?_⟩
  simp -implicitDefEqProofs [Tryz.f51, List.lookup_cons, eS, Sx, F85, F84, sR_inj, deSs_sl, deS, kws_len]
  refine fin_pure (by simp) ?_
  simp -implicitDefEqProofs [fS, rn0, pickObs, deI, F112, deS, isKy]
/-! ### names -/
def lowTo (s : ByteArray) (n : Nat) : Bool := (List.range n).all fun k => small (byt s k)
theorem lowTo_succ (s : ByteArray) (n : Nat) : lowTo s (n + 1) = (lowTo s n && small (byt s n)) := by simp [lowTo, List.range_succ]
theorem lowTo_le (s : ByteArray) (k : Nat) : ∀ n, k < n → small (byt s k) = false → lowTo s n = false := by
  intro n hn h
  rw [Bool.eq_false_iff]
  intro h2
  simp only [lowTo, List.all_eq_true, List.mem_range] at h2
  rw [h2 k hn] at h
  cases h
def nmOk (s : ByteArray) : Bool := rng 1 8 s.size && lowTo s s.size && !isKy s
def F71 : Fun := ⟨fun xs => ∃ s, xs = [Sx s] ∧ s.size ≤ 1048576, fun xs => (B (nmOk (deS (xs.getD 0 .top))), [])⟩
theorem c71 : GenCA K Tryz.prog 71 F71 := by
  refine contractA Tryz.mix K [(111, F111), (112, F112)] [] (by simp [c111, c112]) (by simp) Tryz.func71 rfl (by decide) ?_
  rintro xs ⟨s, rfl, hs⟩
  refine ⟨by rw [Tryz.ntmps71]; simp, ?_⟩
  by_cases h1 : (s.size : Int) < 1
  · simp -implicitDefEqProofs [Tryz.f71, List.lookup_cons, eS, Sx, h1]
    refine fin_pure (by simp) ?_
    have e : nmOk s = false := by simp [nmOk, rng]; omega
    simp -implicitDefEqProofs [fS, rn0, pickObs, deI, F71, deS, e]
  by_cases h2 : 8 < (s.size : Int)
  · simp -implicitDefEqProofs [Tryz.f71, List.lookup_cons, eS, Sx, h1, h2]
    refine fin_pure (by simp) ?_
    have e : nmOk s = false := by simp [nmOk, rng]; omega
    simp -implicitDefEqProofs [fS, rn0, pickObs, deI, F71, deS, e]
  have h1' : ¬ s.size = 0 := by omega
  have h2' : ¬ 8 < s.size := by omega
  have hr : rng 1 8 s.size = true := by simp [rng]; omega
  simp -implicitDefEqProofs [Tryz.f71, List.lookup_cons, eS, Sx, h1, h2, h1', h2']
  refine loopP_inv (fun k : Nat => ⟨26, tl [(0, .v (.string s)), (3, I k)], []⟩) (fun k => k ≤ s.size ∧ lowTo s k = true) (fun k => s.size - k) 0 (by simp [lowTo]) (Wk.tl (by simp [hold, upd, tl_cons])) ?_
  rintro k ⟨hk, ha⟩
  by_cases h : k < s.size
  · cases hq : small (byt s k) with
    | true =>
      simp -implicitDefEqProofs [List.lookup_cons, eS, h, ei_str, F111, deU, hq]
      refine ⟨k + 1, by omega, by rw [lowTo_succ, ha, hq]; rfl, by omega, Wk.tl ?_⟩
      simp [hold, upd, tl_cons, w64_nat (show k < 4611686018427387904 by omega)]
    | false =>
      simp -implicitDefEqProofs [List.lookup_cons, eS, h, ei_str, F111, deU, hq]
      refine fin_pure (by simp) ?_
      have e : nmOk s = false := by simp [nmOk, lowTo_le s k s.size h hq]
      simp -implicitDefEqProofs [fS, rn0, pickObs, deI, F71, deS, e]
  · have e : k = s.size := by omega
    subst e
    simp -implicitDefEqProofs [List.lookup_cons, eS, F112, Sx, deS]
    refine fin_pure (by simp) ?_
    simp -implicitDefEqProofs [fS, rn0, pickObs, deI, F71, deS, nmOk, hr, ha]
theorem c28 : GenCA K Tryz.prog 28 F71 := by
  refine contractA Tryz.mix K [(29, F29), (51, F112)] [] (by simp [c29, c51]) (by simp) Tryz.func28 rfl (by decide) ?_
  rintro xs ⟨s, rfl, hs⟩
  refine ⟨by rw [Tryz.ntmps28]; simp, ?_⟩
  simp -implicitDefEqProofs [Tryz.f28, List.lookup_cons, eS, Sx]
  refine loopP_inv (fun k : Nat => ⟨28, tl [(0, .v (.string s)), (3, I k)], []⟩) (fun k => k ≤ s.size ∧ lowTo s k = true) (fun k => s.size - k) 0 (by simp [lowTo]) (Wk.tl (by simp [hold, upd, tl_cons])) ?_
  rintro k ⟨hk, ha⟩
  by_cases h : k < s.size
  · by_cases g1 : byt s k < 97
    · simp -implicitDefEqProofs [List.lookup_cons, eS, h, ei_str, g1]
      refine fin_pure (by simp) ?_
      have e : nmOk s = false := by simp [nmOk, lowTo_le s k s.size h (by simp [small]; omega)]
      simp -implicitDefEqProofs [fS, rn0, pickObs, deI, F71, deS, e]
    by_cases g2 : 122 < byt s k
    · simp -implicitDefEqProofs [List.lookup_cons, eS, h, ei_str, g1, g2]
      refine fin_pure (by simp) ?_
      have e : nmOk s = false := by simp [nmOk, lowTo_le s k s.size h (by simp [small]; omega)]
      simp -implicitDefEqProofs [fS, rn0, pickObs, deI, F71, deS, e]
    simp -implicitDefEqProofs [List.lookup_cons, eS, h, ei_str, g1, g2]
    refine ⟨k + 1, by omega, by rw [lowTo_succ, ha]; simp [small]; omega, by omega, Wk.tl ?_⟩
    simp [hold, upd, tl_cons, w64_nat (show k < 4611686018427387904 by omega)]
  · have e : k = s.size := by omega
    subst e
    cases hr : rng 1 8 s.size with
    | true =>
      simp -implicitDefEqProofs [List.lookup_cons, eS, F112, F29, Sx, deS, hr]
      refine fin_pure (by simp) ?_
      simp -implicitDefEqProofs [fS, rn0, pickObs, deI, F71, deS, nmOk, hr, ha]
    | false =>
      simp -implicitDefEqProofs [List.lookup_cons, eS, F112, F29, Sx, deS, hr]
      refine fin_pure (by simp) ?_
      simp -implicitDefEqProofs [fS, rn0, pickObs, deI, F71, deS, nmOk, hr]
end Go.Proofs
