/-
  What is proved here: contracts of the law's own functions on whole numbers. Condition: none.
  What is proved here: contracts of the small checks of numbers. Condition: none.
-/
import Derived.Test.YtecpfgnkiifnpaaDoorKXYtecpfgnkiifnpaaDoorn
set_option linter.unusedVariables false
set_option linter.unusedSimpArgs false
set_option linter.unnecessarySimpa false
set_option maxHeartbeats 4000000
set_option maxRecDepth 20000
namespace Go.Proofs
open Go.Abs
def iOb (l : List Int) : Ob := ⟨3, 1, 0, iR l, false, true, none⟩
theorem take_succ' (l : List Int) (k : Nat) (h : k < l.length) : l.take (k + 1) = l.take k ++ [l[k]] := by rw [List.take_succ_eq_append_getElem h]
def F11 : Fun := ⟨fun xs => ∃ l m, xs = [ints l, ints m] ∧ l.length ≤ 1048576, fun xs => (B (decide (deIs (xs.getD 0 .top) = deIs (xs.getD 1 .top))), [])⟩
theorem c11 : GenCA K Tryd.prog 11 F11 := by
  refine contractA Tryd.mix K [] [] (by simp) (by simp) Tryd.func11 rfl (by decide) ?_
  rintro xs ⟨l, m, rfl, hl⟩
  refine ⟨by rw [Tryd.ntmps11]; simp, ?_⟩
  simp -implicitDefEqProofs [Tryd.f11, List.lookup_cons, eS, ints]
  refine ⟨fun h0 => ?_, fun h0 => ?_⟩
  · refine fin_pure (by simp) ?_
    have : ¬ l = m := fun e => h0 (by rw [e])
    simp -implicitDefEqProofs [fS, rn0, pickObs, deI, F11, this]
  have h0' : l.length = m.length := by omega
  refine loopP_inv (fun k : Nat => ⟨26, tl [(0, .sl (iR l)), (1, .sl (iR m)), (5, I k)], []⟩) (fun k => k ≤ l.length ∧ l.take k = m.take k) (fun k => l.length - k) 0 (by simp) (Wk.tl (by simp [hold, upd, tl_cons])) ?_
  rintro k ⟨hk, ha⟩
  by_cases h : k < l.length
  · have h' : k < m.length := by omega
    simp -implicitDefEqProofs [List.lookup_cons, eS, h, h']
    refine drawP_all _ (by decide) ?_
    simp -implicitDefEqProofs [List.lookup_cons, eS, h, h']
    refine ⟨fun h1 => ?_, fun h1 => ⟨k + 1, by omega, by rw [take_succ' l k h, take_succ' m k h', ha, h1], by omega, Wk.tl ?_⟩⟩
    · refine fin_pure (by simp) ?_
      have : ¬ l = m := fun e => h1 (by subst e; rfl)
      simp -implicitDefEqProofs [fS, rn0, pickObs, deI, F11, this]
    · simp [hold, upd, tl_cons, w64_nat (show k < 4611686018427387904 by omega)]
  · simp -implicitDefEqProofs [List.lookup_cons, eS, h]
    refine fin_pure (by simp) ?_
    rw [List.take_of_length_le (by omega), List.take_of_length_le (by omega)] at ha
    simp -implicitDefEqProofs [fS, rn0, pickObs, deI, F11, ha]
def upI (k : Int) (n : Nat) : List Int := (List.range n).map fun i : Nat => k + (i : Int)
theorem upI_len (k : Int) (n : Nat) : (upI k n).length = n := by simp [upI]
theorem upI_set (k : Int) (l : List Int) (j : Nat) (h : j < l.length) : upI k j ++ (l.drop j).set 0 (k + j) = upI k (j + 1) ++ l.drop (j + 1) := by
  rw [List.drop_eq_getElem_cons h, List.set_cons_zero]
  simp [upI, List.range_succ]
def M12 : MFun := ⟨[true], fun xs obs => (∃ l k, xs = [.osl 0 0, I k] ∧ obs = [iOb l] ∧ l.length ≤ 1048576 ∧ 0 ≤ k ∧ k ≤ 1099511627776) ∨ (∃ k, xs = [.sl [], I k] ∧ obs = [] ∧ 0 ≤ k ∧ k ≤ 1099511627776),
  fun xs obs => (I (deI (xs.getD 1 .top) + ((obs.map fun ob => ob.rows.length).sum : Nat)), obs.map fun ob => iOb (upI (deI (xs.getD 1 .top)) ob.rows.length))⟩
theorem m12 : GenMA K Tryd.prog 12 M12 := by
  refine contractMA Tryd.mix K [] [] (by simp) (by simp) Tryd.func12 rfl (by decide) ?_
  rintro xs obs us (⟨l, k, rfl, rfl, hl, hk0, hk1⟩ | ⟨k, rfl, rfl, hk0, hk1⟩) hu
  · obtain ⟨u, rfl⟩ : ∃ u, us = [u] := by simpa [List.length_eq_one_iff] using hu
    refine ⟨⟨by rw [Tryd.ntmps12]; simp, by simp, ?_⟩, ?_⟩
    · rintro (_ | j) ob hob
      · simp at hob; subst hob; exact ⟨_, rfl, rfl, rfl, rfl, rfl, rfl⟩
      · simp at hob
    simp -implicitDefEqProofs [Tryd.f12, List.lookup_cons, eS]
    refine loopP_inv (fun j : Nat => ⟨19, tl [(0, .osl 0 0), (1, I (k + j)), (5, I j), (1000, .pin 0 0 u)], [iOb (upI k j ++ l.drop j)]⟩) (fun j => j ≤ l.length) (fun j => l.length - j) 0 (Nat.zero_le _) ?_ ?_
    · simp only [upI, List.range_zero, List.map_nil, List.nil_append, List.drop_zero]
      exact Wk.tl (by simp [hold, upd, tl_cons])
    intro j hj
    have hlen : (upI k j ++ l.drop j).length = l.length := by simp [upI_len]; omega
    by_cases h : j < l.length
    · have h2 : j < j + (l.length - j) := by omega
      have hw : IntKind.i64.wrap (k + j + 1) = k + j + 1 := w64 (by omega) (by omega)
      simp -implicitDefEqProofs [List.lookup_cons, eS, h, iOb, hlen, upI_len, h2, hw]
      refine ⟨j + 1, by omega, by omega, ?_⟩
      rw [upI_set k l j h]
      exact Wk.tl (by simp [hold, upd, tl_cons, w64_nat (show j < 4611686018427387904 by omega)]; omega)
    · have e : j = l.length := by omega
      subst e
      have h2 : ¬ l.length < l.length := by omega
      simp -implicitDefEqProofs [List.lookup_cons, eS, iOb, hlen, upI_len]
      refine finM1 0 [] (iOb (upI k l.length)) (by simp [pickOk, -List.all_eq_true, iR_ok]) (by simp [iOb]) (by simp [iOb, upd, tl_cons]) ?_
      simp -implicitDefEqProofs [fS, rn0, pickObs, deI, M12, iOb, rn2_I, iR_length]
  · obtain rfl : us = [] := by simpa using hu
    refine ⟨⟨by rw [Tryd.ntmps12]; simp, by simp, by simp⟩, ?_⟩
    simp -implicitDefEqProofs [Tryd.f12, List.lookup_cons, eS]
    refine loopP_inv (fun _ : Nat => ⟨19, tl [(0, .sl []), (1, I k), (5, I 0)], []⟩) (fun _ => True) (fun _ => 0) 0 trivial (Wk.tl (by simp [hold, upd, tl_cons])) ?_
    intro j _
    simp -implicitDefEqProofs [List.lookup_cons, eS]
    refine finM0 [] (by simp [pickOk]) ?_
    simp -implicitDefEqProofs [fS, rn0, pickObs, deI, M12, rn2_I]
@[simp] theorem upI_zero (k : Int) : upI k 0 = [] := rfl
@[simp] theorem deIs_em : deIs (.sl []) = [] := rfl
attribute [simp] upI_len
def F13 : Fun := ⟨fun xs => xs = [.sl (iR (upI (deI (xs.getD 1 .top)) (deIs (xs.getD 0 .top)).length)), I (deI (xs.getD 1 .top))] ∧ (deIs (xs.getD 0 .top)).length ≤ 1048576 ∧ 0 ≤ deI (xs.getD 1 .top) ∧ deI (xs.getD 1 .top) ≤ 1099511627776, fun xs => (I (deI (xs.getD 1 .top) + (deIs (xs.getD 0 .top)).length), [])⟩
theorem c13 : GenCA K Tryd.prog 13 F13 := by
  refine contractA Tryd.mix K [] [] (by simp) (by simp) Tryd.func13 rfl (by decide) ?_
  intro xs hxs
  obtain ⟨n, k, rfl, hn, hk0, hk1⟩ : ∃ (n : Nat) (k : Int), xs = [ints (upI k n), I k] ∧ n ≤ 1048576 ∧ 0 ≤ k ∧ k ≤ 1099511627776 := ⟨_, _, hxs.1, hxs.2⟩
  refine ⟨by rw [Tryd.ntmps13]; simp, ?_⟩
  simp -implicitDefEqProofs [Tryd.f13, List.lookup_cons, eS, ints]
  refine loopP_inv (fun j : Nat => ⟨21, tl [(0, .sl (iR (upI k n))), (1, I (k + j)), (5, I j)], []⟩) (fun j => j ≤ n) (fun j => n - j) 0 (Nat.zero_le _) (Wk.tl (by simp [hold, upd, tl_cons])) ?_
  intro j hj
  by_cases h : j < n
  · have hg : (upI k n)[j]'(by rw [upI_len]; exact h) = k + j := by simp [upI]
    have hw : IntKind.i64.wrap (k + j + 1) = k + j + 1 := w64 (by omega) (by omega)
    simp -implicitDefEqProofs [List.lookup_cons, eS, h, upI_len, hg, hw]
    refine ⟨j + 1, by omega, by omega, Wk.tl ?_⟩
    simp [hold, upd, tl_cons, w64_nat (show j < 4611686018427387904 by omega)]; omega
  · have e : j = n := by omega
    subst e
    simp -implicitDefEqProofs [List.lookup_cons, eS]
    refine fin_pure (by simp) ?_
    simp -implicitDefEqProofs [fS, rn0, pickObs, deI, F13, ints]
theorem fill_set (l : List Int) (k : Nat) (h : k < l.length) : (l.take k ++ List.replicate (l.length - k) 0).set k l[k] = l.take (k + 1) ++ List.replicate (l.length - (k + 1)) 0 := fillT 0 l k h
end Go.Proofs
namespace Go.Proofs
open Go.Abs
theorem not_true {b : Bool} (h : ¬ b = true) : b = false := by simpa using h
/-! ### small checks -/
def F78 : Fun := ⟨fun xs => xs = [I (deI (xs.getD 0 .top) : Int), I (deI (xs.getD 1 .top) : Int), I (deI (xs.getD 2 .top) : Int)] ∧ (fun (x : Int) (lo : Int) (hi : Int) => (True)) (deI (xs.getD 0 .top) : Int) (deI (xs.getD 1 .top) : Int) (deI (xs.getD 2 .top) : Int), fun xs => (fun (x : Int) (lo : Int) (hi : Int) => ((B (rng lo hi x), []) : X × List Ob)) (deI (xs.getD 0 .top) : Int) (deI (xs.getD 1 .top) : Int) (deI (xs.getD 2 .top) : Int)⟩
theorem F78_in {xs : List X} (h : F78.pre xs) : ∃ (x : Int) (lo : Int) (hi : Int), xs = [I x, I lo, I hi] ∧ (True) := ⟨_, _, _, h.1, h.2⟩
theorem F78_res (x : Int) (lo : Int) (hi : Int) : F78.res [I x, I lo, I hi] = (B (rng lo hi x), []) := by simp [F78]
theorem F78_mk (x : Int) (lo : Int) (hi : Int) (h : True) : F78.pre [I x, I lo, I hi] := by simpa [F78] using h
theorem c78 : GenCA K Tryd.prog 78 F78 := by
  refine contractA Tryd.mix K [] [] (by simp) (by simp) Tryd.func78 rfl (by decide) ?_
  intro xs hxs
  obtain ⟨x, lo, hi, rfl, hp⟩ := F78_in hxs
  rw [F78_res]
  refine ⟨by rw [Tryd.ntmps78]; simp, ?_⟩
  simp -implicitDefEqProofs [Tryd.f78, List.lookup_cons, eS]
  refine fin_pure (by simp) ?_
  simp -implicitDefEqProofs [fS, rn0, pickObs, deI, rng]
def F104 : Fun := ⟨fun xs => xs = [I (deI (xs.getD 0 .top) : Int)] ∧ (fun (x : Int) => (True)) (deI (xs.getD 0 .top) : Int), fun xs => (fun (x : Int) => ((B (rng 1 999 x), []) : X × List Ob)) (deI (xs.getD 0 .top) : Int)⟩
theorem F104_in {xs : List X} (h : F104.pre xs) : ∃ (x : Int), xs = [I x] ∧ (True) := ⟨_, h.1, h.2⟩
theorem F104_res (x : Int) : F104.res [I x] = (B (rng 1 999 x), []) := by simp [F104]
theorem F104_mk (x : Int) (h : True) : F104.pre [I x] := by simpa [F104] using h
theorem c104 : GenCA K Tryd.prog 104 F104 := by
  refine contractA Tryd.mix K [] [] (by simp) (by simp) Tryd.func104 rfl (by decide) ?_
  intro xs hxs
  obtain ⟨x, rfl, hp⟩ := F104_in hxs
  rw [F104_res]
  refine ⟨by rw [Tryd.ntmps104]; simp, ?_⟩
  simp -implicitDefEqProofs [Tryd.f104, List.lookup_cons, eS]
  refine fin_pure (by simp) ?_
  simp -implicitDefEqProofs [fS, rn0, pickObs, deI, rng]
def F102 : Fun := ⟨fun xs => xs = [I (deI (xs.getD 0 .top) : Int)] ∧ (fun (x : Int) => (True)) (deI (xs.getD 0 .top) : Int), fun xs => (fun (x : Int) => ((B (rng 0 1000000 x), []) : X × List Ob)) (deI (xs.getD 0 .top) : Int)⟩
theorem F102_in {xs : List X} (h : F102.pre xs) : ∃ (x : Int), xs = [I x] ∧ (True) := ⟨_, h.1, h.2⟩
theorem F102_res (x : Int) : F102.res [I x] = (B (rng 0 1000000 x), []) := by simp [F102]
theorem F102_mk (x : Int) (h : True) : F102.pre [I x] := by simpa [F102] using h
theorem c102 : GenCA K Tryd.prog 102 F102 := by
  refine contractA Tryd.mix K [] [] (by simp) (by simp) Tryd.func102 rfl (by decide) ?_
  intro xs hxs
  obtain ⟨x, rfl, hp⟩ := F102_in hxs
  rw [F102_res]
  refine ⟨by rw [Tryd.ntmps102]; simp, ?_⟩
  simp -implicitDefEqProofs [Tryd.f102, List.lookup_cons, eS]
  refine fin_pure (by simp) ?_
  simp -implicitDefEqProofs [fS, rn0, pickObs, deI, rng]
def F103 : Fun := ⟨fun xs => xs = [I (deI (xs.getD 0 .top) : Int)] ∧ (fun (x : Int) => (True)) (deI (xs.getD 0 .top) : Int), fun xs => (fun (x : Int) => ((B (rng 1 1500 x), []) : X × List Ob)) (deI (xs.getD 0 .top) : Int)⟩
theorem F103_in {xs : List X} (h : F103.pre xs) : ∃ (x : Int), xs = [I x] ∧ (True) := ⟨_, h.1, h.2⟩
theorem F103_res (x : Int) : F103.res [I x] = (B (rng 1 1500 x), []) := by simp [F103]
theorem F103_mk (x : Int) (h : True) : F103.pre [I x] := by simpa [F103] using h
theorem c103 : GenCA K Tryd.prog 103 F103 := by
  refine contractA Tryd.mix K [] [] (by simp) (by simp) Tryd.func103 rfl (by decide) ?_
  intro xs hxs
  obtain ⟨x, rfl, hp⟩ := F103_in hxs
  rw [F103_res]
  refine ⟨by rw [Tryd.ntmps103]; simp, ?_⟩
  simp -implicitDefEqProofs [Tryd.f103, List.lookup_cons, eS]
  refine fin_pure (by simp) ?_
  simp -implicitDefEqProofs [fS, rn0, pickObs, deI, rng]
end Go.Proofs
