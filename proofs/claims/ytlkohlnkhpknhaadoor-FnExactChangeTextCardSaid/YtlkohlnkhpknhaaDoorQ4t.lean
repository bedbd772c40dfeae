/-
  What is proved here: contracts of both ChangeText and of the law. Condition: none.
-/
import Derived.Test.YtlkohlnkhpknhaaDoorQ3t
import Derived.Test.YtlkohlnkhpknhaaDoorQ1bt
namespace Go.Proofs
open Go.Abs
set_option linter.unusedSimpArgs false
set_option linter.unnecessarySimpa false
set_option linter.unusedVariables false
set_option maxHeartbeats 8000000
set_option maxRecDepth 20000


def F8 : Fun := ⟨fun xs => xs = [.agg (rX (deA (xs.getD 0 .top) : Cls))] ∧ (fun (e : Cls) => (True)) (deA (xs.getD 0 .top) : Cls), fun xs => (fun (e : Cls) => ((.agg (rX e), []) : X × List Ob)) (deA (xs.getD 0 .top) : Cls)⟩
theorem F8_in {xs : List X} (h : F8.pre xs) : ∃ (e : Cls), xs = [.agg (rX e)] ∧ (True) := ⟨_, h.1, h.2⟩
theorem F8_res (e : Cls) : F8.res [.agg (rX e)] = (.agg (rX e), []) := by simp [F8]
theorem F8_mk (e : Cls) (h : True) : F8.pre [.agg (rX e)] := by simpa [F8] using h
theorem c8 : GenCA K3 Tryd.prog 8 F8 := by
  refine contractA Tryd.mix K3 [] [] (by simp) (by simp) Tryd.func8 rfl (by decide) ?_
  intro xs hxs
  obtain ⟨e, rfl, hp⟩ := F8_in hxs
  rw [F8_res]
  refine ⟨by rw [Tryd.ntmps8]; simp, ?_⟩
  simp -implicitDefEqProofs [Tryd.f8, List.lookup_cons, and_assoc, pick_and, pick_or, if_and, if_or]
  refine fin_pure (by simp) ?_
  simp -implicitDefEqProofs [pur2_i, pur2_b, pur2_s, pur2_nil, pur2_sl, pur2_tup, rn2_tup, rn2_agg, rn2_osl, rn1_v, rn1_osl, rn1_agg, rn0_v, rn0_sl, rn0, pickObs, pur_v, pur_b, pur_s, pur_nil, pur_sl, deI, deIs_sl]


def ctR (x : Chg) : X := if isCh x = true then .tup [.v (.string (chTx x)), B true] else .tup [.v (.string emB), B false]
def F21 : Fun := ⟨fun xs => xs = [.agg (rX (deA (xs.getD 0 .top) : Chg))] ∧ (fun (x : Chg) => (x.nm.size ≤ 1048576)) (deA (xs.getD 0 .top) : Chg), fun xs => (fun (x : Chg) => ((ctR x, []) : X × List Ob)) (deA (xs.getD 0 .top) : Chg)⟩
theorem F21_in {xs : List X} (h : F21.pre xs) : ∃ (x : Chg), xs = [.agg (rX x)] ∧ (x.nm.size ≤ 1048576) := ⟨_, h.1, h.2⟩
theorem F21_res (x : Chg) : F21.res [.agg (rX x)] = (ctR x, []) := by simp [F21]
theorem F21_mk (x : Chg) (h : x.nm.size ≤ 1048576) : F21.pre [.agg (rX x)] := by simpa [F21] using h
theorem c21 : GenCA K3 Tryd.prog 21 F21 := by
  refine contractA Tryd.mix K3 [(41, F41), (42, F42)] [] (by simp [c41, toK3 c42]) (by simp) Tryd.func21 rfl (by decide) ?_
  intro xs hxs
  obtain ⟨x, rfl, hp⟩ := F21_in hxs
  rw [F21_res]
  refine ⟨by rw [Tryd.ntmps21]; simp, ?_⟩
  cases ho : isCh x with
  | false =>
    simp -implicitDefEqProofs [Tryd.f21, F41, F42, List.lookup_cons, and_assoc, pick_and, pick_or, if_and, if_or, hp, ho]
    refine fin_pure (by simp) ?_
    simp -implicitDefEqProofs [pur2_i, pur2_b, pur2_s, pur2_nil, pur2_sl, pur2_tup, rn2_tup, rn2_agg, rn2_osl, rn1_v, rn1_osl, rn1_agg, rn0_v, rn0_sl, rn0, pickObs, pur_v, pur_b, pur_s, pur_nil, pur_sl, deI, deIs_sl, ctR, ho, emB]
  | true =>
    have hk := chOk_of hp ho
    simp -implicitDefEqProofs [Tryd.f21, F41, F42, List.lookup_cons, and_assoc, pick_and, pick_or, if_and, if_or, hp, ho, hk]
    refine fin_pure (by simp) ?_
    simp -implicitDefEqProofs [pur2_i, pur2_b, pur2_s, pur2_nil, pur2_sl, pur2_tup, rn2_tup, rn2_agg, rn2_osl, rn1_v, rn1_osl, rn1_agg, rn0_v, rn0_sl, rn0, pickObs, pur_v, pur_b, pur_s, pur_nil, pur_sl, deI, deIs_sl, ctR, ho]
theorem c19 : GenCA K3 Tryd.prog 19 F21 := by
  refine contractA Tryd.mix K3 [(39, F41), (40, F42)] [] (by simp [c39, toK3 c40]) (by simp) Tryd.func19 rfl (by decide) ?_
  intro xs hxs
  obtain ⟨x, rfl, hp⟩ := F21_in hxs
  rw [F21_res]
  refine ⟨by rw [Tryd.ntmps19]; simp, ?_⟩
  cases ho : isCh x with
  | false =>
    simp -implicitDefEqProofs [Tryd.f19, F41, F42, List.lookup_cons, and_assoc, pick_and, pick_or, if_and, if_or, hp, ho]
    refine fin_pure (by simp) ?_
    simp -implicitDefEqProofs [pur2_i, pur2_b, pur2_s, pur2_nil, pur2_sl, pur2_tup, rn2_tup, rn2_agg, rn2_osl, rn1_v, rn1_osl, rn1_agg, rn0_v, rn0_sl, rn0, pickObs, pur_v, pur_b, pur_s, pur_nil, pur_sl, deI, deIs_sl, ctR, ho, emB]
  | true =>
    have hk := chOk_of hp ho
    simp -implicitDefEqProofs [Tryd.f19, F41, F42, List.lookup_cons, and_assoc, pick_and, pick_or, if_and, if_or, hp, ho, hk]
    refine fin_pure (by simp) ?_
    simp -implicitDefEqProofs [pur2_i, pur2_b, pur2_s, pur2_nil, pur2_sl, pur2_tup, rn2_tup, rn2_agg, rn2_osl, rn1_v, rn1_osl, rn1_agg, rn0_v, rn0_sl, rn0, pickObs, pur_v, pur_b, pur_s, pur_nil, pur_sl, deI, deIs_sl, ctR, ho]
def F20 : Fun := ⟨fun xs => xs = [.agg (rX (deA (xs.getD 0 .top) : Chg))] ∧ (fun (x : Chg) => (True)) (deA (xs.getD 0 .top) : Chg), fun xs => (fun (x : Chg) => ((.agg (rX x), []) : X × List Ob)) (deA (xs.getD 0 .top) : Chg)⟩
theorem F20_in {xs : List X} (h : F20.pre xs) : ∃ (x : Chg), xs = [.agg (rX x)] ∧ (True) := ⟨_, h.1, h.2⟩
theorem F20_res (x : Chg) : F20.res [.agg (rX x)] = (.agg (rX x), []) := by simp [F20]
theorem F20_mk (x : Chg) (h : True) : F20.pre [.agg (rX x)] := by simpa [F20] using h
theorem c20 : GenCA K3 Tryd.prog 20 F20 := by
  refine contractA Tryd.mix K3 [(8, F8), (11, F11)] [] (by simp [c8, toK3 c11]) (by simp) Tryd.func20 rfl (by decide) ?_
  intro xs hxs
  obtain ⟨x, rfl, hp⟩ := F20_in hxs
  rw [F20_res]
  refine ⟨by rw [Tryd.ntmps20]; simp, ?_⟩
  simp -implicitDefEqProofs [Tryd.f20, F8, F11, List.lookup_cons, and_assoc, pick_and, pick_or, if_and, if_or]
  refine fin_pure (by simp) ?_
  simp -implicitDefEqProofs [pur2_i, pur2_b, pur2_s, pur2_nil, pur2_sl, pur2_tup, rn2_tup, rn2_agg, rn2_osl, rn1_v, rn1_osl, rn1_agg, rn0_v, rn0_sl, rn0, pickObs, pur_v, pur_b, pur_s, pur_nil, pur_sl, deI, deIs_sl]
def F18 : Fun := ⟨fun xs => xs = [.agg (rX (deA (xs.getD 0 .top) : Chg)), I (deI (xs.getD 1 .top) : Int)] ∧ (fun (x : Chg) (m : Int) => (x.nm.size ≤ 9223372036854775807 ∧ 0 ≤ m ∧ m ≤ 1048576)) (deA (xs.getD 0 .top) : Chg) (deI (xs.getD 1 .top) : Int), fun xs => (fun (x : Chg) (m : Int) => ((I (if m < x.nm.size then -1 else m - x.nm.size), []) : X × List Ob)) (deA (xs.getD 0 .top) : Chg) (deI (xs.getD 1 .top) : Int)⟩
theorem F18_in {xs : List X} (h : F18.pre xs) : ∃ (x : Chg) (m : Int), xs = [.agg (rX x), I m] ∧ (x.nm.size ≤ 9223372036854775807 ∧ 0 ≤ m ∧ m ≤ 1048576) := ⟨_, _, h.1, h.2⟩
theorem F18_res (x : Chg) (m : Int) : F18.res [.agg (rX x), I m] = (I (if m < x.nm.size then -1 else m - x.nm.size), []) := by simp [F18]
theorem F18_mk (x : Chg) (m : Int) (h : x.nm.size ≤ 9223372036854775807 ∧ 0 ≤ m ∧ m ≤ 1048576) : F18.pre [.agg (rX x), I m] := by simpa [F18] using h
theorem c18 : GenCA K3 Tryd.prog 18 F18 := by
  refine contractA Tryd.mix K3 [] [] (by simp) (by simp) Tryd.func18 rfl (by decide) ?_
  intro xs hxs
  obtain ⟨x, m, rfl, hp⟩ := F18_in hxs
  rw [F18_res]
  refine ⟨by rw [Tryd.ntmps18]; simp, ?_⟩
  have hw : IntKind.i64.wrap (m - x.nm.size) = m - x.nm.size := w64 (by omega) (by omega)
  by_cases h : m < x.nm.size
  · have h' : m - x.nm.size < 0 := by omega
    simp -implicitDefEqProofs [Tryd.f18, List.lookup_cons, and_assoc, pick_and, pick_or, if_and, if_or, hw, h']
    refine fin_pure (by simp) ?_
    simp -implicitDefEqProofs [pur2_i, pur2_b, pur2_s, pur2_nil, pur2_sl, pur2_tup, rn2_tup, rn2_agg, rn2_osl, rn1_v, rn1_osl, rn1_agg, rn0_v, rn0_sl, rn0, pickObs, pur_v, pur_b, pur_s, pur_nil, pur_sl, deI, deIs_sl, h]
  · have h' : ¬ m - x.nm.size < 0 := by omega
    simp -implicitDefEqProofs [Tryd.f18, List.lookup_cons, and_assoc, pick_and, pick_or, if_and, if_or, hw, h']
    refine fin_pure (by simp) ?_
    simp -implicitDefEqProofs [pur2_i, pur2_b, pur2_s, pur2_nil, pur2_sl, pur2_tup, rn2_tup, rn2_agg, rn2_osl, rn1_v, rn1_osl, rn1_agg, rn0_v, rn0_sl, rn0, pickObs, pur_v, pur_b, pur_s, pur_nil, pur_sl, deI, deIs_sl, h]
def F6 : Fun := ⟨fun xs => xs = [.agg (rX (deA (xs.getD 0 .top) : Chg))] ∧ (fun (x : Chg) => (x.nm.size ≤ 9223372036854775807)) (deA (xs.getD 0 .top) : Chg), fun xs => (fun (x : Chg) => ((B true, []) : X × List Ob)) (deA (xs.getD 0 .top) : Chg)⟩
theorem F6_in {xs : List X} (h : F6.pre xs) : ∃ (x : Chg), xs = [.agg (rX x)] ∧ (x.nm.size ≤ 9223372036854775807) := ⟨_, h.1, h.2⟩
theorem F6_res (x : Chg) : F6.res [.agg (rX x)] = (B true, []) := by simp [F6]
theorem F6_mk (x : Chg) (h : x.nm.size ≤ 9223372036854775807) : F6.pre [.agg (rX x)] := by simpa [F6] using h
theorem c6 : GenCA K3 Tryd.prog 6 F6 := by
  refine contractA Tryd.mix K3 [(18, F18), (20, F20), (19, F21), (21, F21)] [] (by simp [c18, c20, c19, c21]) (by simp) Tryd.func6 rfl (by decide) ?_
  intro xs hxs
  obtain ⟨x, rfl, hp⟩ := F6_in hxs
  rw [F6_res]
  refine ⟨by rw [Tryd.ntmps6]; simp, ?_⟩
  by_cases hbig : (1048576 : Int) < x.nm.size
  · simp -implicitDefEqProofs [Tryd.f6, F18, F20, F21, F21, List.lookup_cons, and_assoc, pick_and, pick_or, if_and, if_or, hp, hbig]
    refine fin_pure (by simp) ?_
    simp -implicitDefEqProofs [pur2_i, pur2_b, pur2_s, pur2_nil, pur2_sl, pur2_tup, rn2_tup, rn2_agg, rn2_osl, rn1_v, rn1_osl, rn1_agg, rn0_v, rn0_sl, rn0, pickObs, pur_v, pur_b, pur_s, pur_nil, pur_sl, deI, deIs_sl]
  · have hl1 : x.nm.size ≤ 1048576 := by omega
    have hneg : ¬ (1048576 : Int) - x.nm.size < 0 := by omega
    have hR : ∃ b c, ctR x = .tup [.v (.string b), B c] := by
      unfold ctR
      split
      · exact ⟨_, _, rfl⟩
      · exact ⟨_, _, rfl⟩
    obtain ⟨b, c, hR⟩ := hR
    simp -implicitDefEqProofs [Tryd.f6, F18, F20, F21, F21, List.lookup_cons, and_assoc, pick_and, pick_or, if_and, if_or, hp, hbig, hl1, hneg, hR]
    refine fin_pure (by simp) ?_
    simp -implicitDefEqProofs [pur2_i, pur2_b, pur2_s, pur2_nil, pur2_sl, pur2_tup, rn2_tup, rn2_agg, rn2_osl, rn1_v, rn1_osl, rn1_agg, rn0_v, rn0_sl, rn0, pickObs, pur_v, pur_b, pur_s, pur_nil, pur_sl, deI, deIs_sl]
end Go.Proofs
