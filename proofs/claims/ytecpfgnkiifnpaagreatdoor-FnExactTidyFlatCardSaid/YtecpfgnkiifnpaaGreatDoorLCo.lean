/-
  What is proved here: contracts of the law's own functions on configurations. Condition: none.
-/
import Derived.Test.YtecpfgnkiifnpaaGreatDoorCCa
namespace Go.Proofs
open Go.Abs
set_option linter.unusedSimpArgs false
set_option linter.unnecessarySimpa false
set_option linter.unusedVariables false
set_option maxHeartbeats 4000000
set_option maxRecDepth 20000
def Cls.mk' (k : Int) : Cls := ⟨k, k + 1, k + 2, k + 3, k + 4, k + 5, k + 6, k + 7⟩
def Cls.mkL (k : Int) (n : Nat) : List Cls := (List.range n).map fun i : Nat => Cls.mk' (k + 8 * (i : Int))
@[simp] theorem Cls.mkL_len (k : Int) (n : Nat) : (Cls.mkL k n).length = n := by simp [Cls.mkL]
@[simp] theorem Cls.mkL_zero (k : Int) : Cls.mkL k 0 = [] := rfl
theorem Cls.mkL_set (k : Int) (l : List Cls) (j : Nat) (h : j < l.length) : (Cls.mkL k j ++ l.drop j).set j (Cls.mk' (k + 8 * (j : Int))) = Cls.mkL k (j + 1) ++ l.drop (j + 1) := by
  rw [List.set_append_right _ _ (by simp [Cls.mkL_len]), Cls.mkL_len, Nat.sub_self, List.drop_eq_getElem_cons h, List.set_cons_zero]
  simp [Cls.mkL, List.range_succ]
theorem Cls.mkL_get (k : Int) (n j : Nat) (h : j < (Cls.mkL k n).length) : (Cls.mkL k n)[j] = Cls.mk' (k + 8 * (j : Int)) := by simp [Cls.mkL]
def Fil.mk' (k : Int) : Fil := ⟨k, k + 1, k + 2, k + 3, k + 4⟩
def Fil.mkL (k : Int) (n : Nat) : List Fil := (List.range n).map fun i : Nat => Fil.mk' (k + 5 * (i : Int))
@[simp] theorem Fil.mkL_len (k : Int) (n : Nat) : (Fil.mkL k n).length = n := by simp [Fil.mkL]
@[simp] theorem Fil.mkL_zero (k : Int) : Fil.mkL k 0 = [] := rfl
theorem Fil.mkL_set (k : Int) (l : List Fil) (j : Nat) (h : j < l.length) : (Fil.mkL k j ++ l.drop j).set j (Fil.mk' (k + 5 * (j : Int))) = Fil.mkL k (j + 1) ++ l.drop (j + 1) := by
  rw [List.set_append_right _ _ (by simp [Fil.mkL_len]), Fil.mkL_len, Nat.sub_self, List.drop_eq_getElem_cons h, List.set_cons_zero]
  simp [Fil.mkL, List.range_succ]
theorem Fil.mkL_get (k : Int) (n j : Nat) (h : j < (Fil.mkL k n).length) : (Fil.mkL k n)[j] = Fil.mk' (k + 5 * (j : Int)) := by simp [Fil.mkL]
def F35 : Fun := ⟨fun xs => xs = [.agg (rX (deA (xs.getD 0 .top) : Cls)), .agg (rX (deA (xs.getD 0 .top) : Cls))], fun _ => (B true, [])⟩
theorem c35 : GenCA K Tryz.prog 35 F35 := by
  refine contractA Tryz.mix K [] [] (by simp []) (by simp) Tryz.func35 rfl (by decide) ?_
  intro xs hxs
  obtain ⟨a, rfl⟩ : ∃ a : Cls, xs = [.agg (rX a), .agg (rX a)] := ⟨_, hxs⟩
  refine ⟨by rw [Tryz.ntmps35]; simp, ?_⟩
  simp -implicitDefEqProofs [Tryz.f35, List.lookup_cons, eS]
  refine fin_pure (by simp) ?_
  simp -implicitDefEqProofs [fS, rn0, pickObs, deI, F35]
def F16 : Fun := ⟨fun xs => xs = [.sl (tR (deT (xs.getD 0 .top) : List Cls)), .sl (tR (deT (xs.getD 0 .top) : List Cls))] ∧ (deT (xs.getD 0 .top) : List Cls).length ≤ 1048576, fun _ => (B true, [])⟩
theorem c16 : GenCA K Tryz.prog 16 F16 := by
  refine contractA Tryz.mix K [(35, F35)] [] (by simp [c35]) (by simp) Tryz.func16 rfl (by decide) ?_
  intro xs hxs
  obtain ⟨l, rfl, hl⟩ : ∃ l : List Cls, xs = [.sl (tR l), .sl (tR l)] ∧ l.length ≤ 1048576 := ⟨_, hxs.1, hxs.2⟩
  refine ⟨by rw [Tryz.ntmps16]; simp, ?_⟩
  simp -implicitDefEqProofs [Tryz.f16, List.lookup_cons, eS]
  refine loopP_inv (fun k : Nat => ⟨27, tl [(0, .sl (tR l)), (1, .sl (tR l)), (5, I k)], []⟩) (fun k => k ≤ l.length) (fun k => l.length - k) 0 (Nat.zero_le _) (Wk.tl (by simp [hold, upd, tl_cons])) ?_
  intro k hk
  by_cases h : k < l.length
  · simp -implicitDefEqProofs [List.lookup_cons, eS, h]
    refine drawP_all _ (by decide) ?_
    simp -implicitDefEqProofs [List.lookup_cons, eS, h, F35]
    refine ⟨k + 1, by omega, by omega, Wk.tl ?_⟩
    simp [hold, upd, tl_cons, w64_nat (show k < 4611686018427387904 by omega)]
  · have e : k = l.length := by omega
    subst e
    simp -implicitDefEqProofs [List.lookup_cons, eS]
    refine fin_pure (by simp) ?_
    simp -implicitDefEqProofs [fS, rn0, pickObs, deI, F16]
def M18 : MFun := ⟨[true], fun xs obs => (∃ (l : List Cls) (k : Int), xs = [.osl 0 0, I k] ∧ obs = [tOb 63 8 l] ∧ l.length ≤ 1048576 ∧ 0 ≤ k ∧ k ≤ 1099511627776) ∨ (∃ k : Int, xs = [.sl [], I k] ∧ obs = [] ∧ 0 ≤ k ∧ k ≤ 1099511627776),
  fun xs obs => (I (deI (xs.getD 1 .top) + 8 * ((obs.map fun ob => ob.rows.length).sum : Nat)), obs.map fun ob => tOb 63 8 (Cls.mkL (deI (xs.getD 1 .top)) ob.rows.length))⟩
theorem m18 : GenMA K Tryz.prog 18 M18 := by
  refine contractMA Tryz.mix K [] [] (by simp) (by simp) Tryz.func18 rfl (by decide) ?_
  rintro xs obs us (⟨l, k, rfl, rfl, hl, hk0, hk1⟩ | ⟨k, rfl, rfl, hk0, hk1⟩) hu
  · obtain ⟨u, rfl⟩ : ∃ u, us = [u] := by simpa [List.length_eq_one_iff] using hu
    refine ⟨⟨by rw [Tryz.ntmps18]; simp, by simp, ?_⟩, ?_⟩
    · rintro (_ | j) ob hob
      · simp at hob; subst hob; exact ⟨_, rfl, rfl, rfl, rfl, rfl, rfl⟩
      · simp at hob
    simp -implicitDefEqProofs [Tryz.f18, List.lookup_cons, eS, tOb]
    refine loopP_inv (fun j : Nat => ⟨69, tl [(0, .osl 0 0), (1, I (k + 8 * j)), (5, I j), (1000, .pin 0 0 u)], [tOb 63 8 (Cls.mkL k j ++ l.drop j)]⟩) (fun j => j ≤ l.length) (fun j => l.length - j) 0 (Nat.zero_le _) ?_ ?_
    · simp only [Cls.mkL, List.range_zero, List.map_nil, List.nil_append, List.drop_zero]
      exact Wk.tl (by simp [hold, upd, tl_cons])
    intro j hj
    have hlen : (Cls.mkL k j ++ l.drop j).length = l.length := by simp [Cls.mkL_len]; omega
    by_cases h : j < l.length
    · have hset := tR_set (Cls.mkL k j ++ l.drop j) j (Cls.mk' (k + 8 * (j : Int)))
      rw [Cls.mkL_set k l j h] at hset
      generalize hL : Cls.mkL k j ++ l.drop j = L at hset hlen
      have hjL : j < L.length := by omega
      generalize hq : k + 8 * (j : Int) = q at hset
      have hw : ∀ z : Int, 0 ≤ z → z ≤ 64 → IntKind.i64.wrap (q + z) = q + z := fun z h1 h2 => w64 (by omega) (by omega)
      simp only [Cls.rXe, Cls.mk'] at hset
      simp -implicitDefEqProofs [List.lookup_cons, eS, h, hjL, tOb, hw, Int.add_assoc]
      refine ⟨j + 1, by omega, by omega, ?_⟩
      rw [hset]
      exact Wk.tl (by simp [hold, upd, tl_cons, w64_nat (show j < 4611686018427387904 by omega)]; omega)
    · have e : j = l.length := by omega
      subst e
      simp -implicitDefEqProofs [List.lookup_cons, eS, tOb, Cls.mkL_len]
      refine finM1 0 [] (tOb 63 8 (Cls.mkL k l.length)) (by simp [pickOk, -List.all_eq_true, tR_ok]) (by simp [tOb]) (by simp [tOb, upd, tl_cons]) ?_
      simp -implicitDefEqProofs [fS, rn0, pickObs, deI, M18, tOb, rn2_I]
  · obtain rfl : us = [] := by simpa using hu
    refine ⟨⟨by rw [Tryz.ntmps18]; simp, by simp, by simp⟩, ?_⟩
    simp -implicitDefEqProofs [Tryz.f18, List.lookup_cons, eS]
    refine loopP_inv (fun _ : Nat => ⟨69, tl [(0, .sl []), (1, I k), (5, I 0)], []⟩) (fun _ => True) (fun _ => 0) 0 trivial (Wk.tl (by simp [hold, upd, tl_cons])) ?_
    intro j _
    simp -implicitDefEqProofs [List.lookup_cons, eS]
    refine finM0 [] (by simp [pickOk]) ?_
    simp -implicitDefEqProofs [fS, rn0, pickObs, deI, M18, rn2_I]
def F20 : Fun := ⟨fun xs => xs = [.sl (tR (Cls.mkL (deI (xs.getD 1 .top)) (deT (xs.getD 0 .top) : List Cls).length)), I (deI (xs.getD 1 .top))] ∧ (deT (xs.getD 0 .top) : List Cls).length ≤ 1048576 ∧ 0 ≤ deI (xs.getD 1 .top) ∧ deI (xs.getD 1 .top) ≤ 1099511627776, fun xs => (I (deI (xs.getD 1 .top) + 8 * (deT (xs.getD 0 .top) : List Cls).length), [])⟩
theorem c20 : GenCA K Tryz.prog 20 F20 := by
  refine contractA Tryz.mix K [] [] (by simp) (by simp) Tryz.func20 rfl (by decide) ?_
  intro xs hxs
  obtain ⟨n, k, rfl, hn, hk0, hk1⟩ : ∃ (n : Nat) (k : Int), xs = [.sl (tR (Cls.mkL k n)), I k] ∧ n ≤ 1048576 ∧ 0 ≤ k ∧ k ≤ 1099511627776 := ⟨_, _, hxs.1, hxs.2⟩
  refine ⟨by rw [Tryz.ntmps20]; simp, ?_⟩
  simp -implicitDefEqProofs [Tryz.f20, List.lookup_cons, eS]
  refine loopP_inv (fun j : Nat => ⟨85, tl [(0, .sl (tR (Cls.mkL k n))), (1, I (k + 8 * j)), (5, I j)], []⟩) (fun j => j ≤ n) (fun j => n - j) 0 (Nat.zero_le _) (Wk.tl (by simp [hold, upd, tl_cons])) ?_
  intro j hj
  by_cases h : j < n
  · generalize hq : k + 8 * (j : Int) = q
    have hw : ∀ z : Int, 0 ≤ z → z ≤ 64 → IntKind.i64.wrap (q + z) = q + z := fun z h1 h2 => w64 (by omega) (by omega)
    simp -implicitDefEqProofs [List.lookup_cons, eS, h, Cls.mkL_len, Cls.mkL_get, Cls.mk', hq, hw, Int.add_assoc]
    refine ⟨j + 1, by omega, by omega, Wk.tl ?_⟩
    simp [hold, upd, tl_cons, w64_nat (show j < 4611686018427387904 by omega)]; omega
  · have e : j = n := by omega
    subst e
    simp -implicitDefEqProofs [List.lookup_cons, eS, Cls.mkL_len]
    refine fin_pure (by simp) ?_
    simp -implicitDefEqProofs [fS, rn0, pickObs, deI, F20, Cls.mkL_len]
def F36 : Fun := ⟨fun xs => xs = [.agg (rX (deA (xs.getD 0 .top) : Fil)), .agg (rX (deA (xs.getD 0 .top) : Fil))], fun _ => (B true, [])⟩
theorem c36 : GenCA K Tryz.prog 36 F36 := by
  refine contractA Tryz.mix K [] [] (by simp []) (by simp) Tryz.func36 rfl (by decide) ?_
  intro xs hxs
  obtain ⟨a, rfl⟩ : ∃ a : Fil, xs = [.agg (rX a), .agg (rX a)] := ⟨_, hxs⟩
  refine ⟨by rw [Tryz.ntmps36]; simp, ?_⟩
  simp -implicitDefEqProofs [Tryz.f36, List.lookup_cons, eS]
  refine fin_pure (by simp) ?_
  simp -implicitDefEqProofs [fS, rn0, pickObs, deI, F36]
def F17 : Fun := ⟨fun xs => xs = [.sl (tR (deT (xs.getD 0 .top) : List Fil)), .sl (tR (deT (xs.getD 0 .top) : List Fil))] ∧ (deT (xs.getD 0 .top) : List Fil).length ≤ 1048576, fun _ => (B true, [])⟩
theorem c17 : GenCA K Tryz.prog 17 F17 := by
  refine contractA Tryz.mix K [(36, F36)] [] (by simp [c36]) (by simp) Tryz.func17 rfl (by decide) ?_
  intro xs hxs
  obtain ⟨l, rfl, hl⟩ : ∃ l : List Fil, xs = [.sl (tR l), .sl (tR l)] ∧ l.length ≤ 1048576 := ⟨_, hxs.1, hxs.2⟩
  refine ⟨by rw [Tryz.ntmps17]; simp, ?_⟩
  simp -implicitDefEqProofs [Tryz.f17, List.lookup_cons, eS]
  refine loopP_inv (fun k : Nat => ⟨27, tl [(0, .sl (tR l)), (1, .sl (tR l)), (5, I k)], []⟩) (fun k => k ≤ l.length) (fun k => l.length - k) 0 (Nat.zero_le _) (Wk.tl (by simp [hold, upd, tl_cons])) ?_
  intro k hk
  by_cases h : k < l.length
  · simp -implicitDefEqProofs [List.lookup_cons, eS, h]
    refine drawP_all _ (by decide) ?_
    simp -implicitDefEqProofs [List.lookup_cons, eS, h, F36]
    refine ⟨k + 1, by omega, by omega, Wk.tl ?_⟩
    simp [hold, upd, tl_cons, w64_nat (show k < 4611686018427387904 by omega)]
  · have e : k = l.length := by omega
    subst e
    simp -implicitDefEqProofs [List.lookup_cons, eS]
    refine fin_pure (by simp) ?_
    simp -implicitDefEqProofs [fS, rn0, pickObs, deI, F17]
def M19 : MFun := ⟨[true], fun xs obs => (∃ (l : List Fil) (k : Int), xs = [.osl 0 0, I k] ∧ obs = [tOb 66 5 l] ∧ l.length ≤ 1048576 ∧ 0 ≤ k ∧ k ≤ 1099511627776) ∨ (∃ k : Int, xs = [.sl [], I k] ∧ obs = [] ∧ 0 ≤ k ∧ k ≤ 1099511627776),
  fun xs obs => (I (deI (xs.getD 1 .top) + 5 * ((obs.map fun ob => ob.rows.length).sum : Nat)), obs.map fun ob => tOb 66 5 (Fil.mkL (deI (xs.getD 1 .top)) ob.rows.length))⟩
theorem m19 : GenMA K Tryz.prog 19 M19 := by
  refine contractMA Tryz.mix K [] [] (by simp) (by simp) Tryz.func19 rfl (by decide) ?_
  rintro xs obs us (⟨l, k, rfl, rfl, hl, hk0, hk1⟩ | ⟨k, rfl, rfl, hk0, hk1⟩) hu
  · obtain ⟨u, rfl⟩ : ∃ u, us = [u] := by simpa [List.length_eq_one_iff] using hu
    refine ⟨⟨by rw [Tryz.ntmps19]; simp, by simp, ?_⟩, ?_⟩
    · rintro (_ | j) ob hob
      · simp at hob; subst hob; exact ⟨_, rfl, rfl, rfl, rfl, rfl, rfl⟩
      · simp at hob
    simp -implicitDefEqProofs [Tryz.f19, List.lookup_cons, eS, tOb]
    refine loopP_inv (fun j : Nat => ⟨48, tl [(0, .osl 0 0), (1, I (k + 5 * j)), (5, I j), (1000, .pin 0 0 u)], [tOb 66 5 (Fil.mkL k j ++ l.drop j)]⟩) (fun j => j ≤ l.length) (fun j => l.length - j) 0 (Nat.zero_le _) ?_ ?_
    · simp only [Fil.mkL, List.range_zero, List.map_nil, List.nil_append, List.drop_zero]
      exact Wk.tl (by simp [hold, upd, tl_cons])
    intro j hj
    have hlen : (Fil.mkL k j ++ l.drop j).length = l.length := by simp [Fil.mkL_len]; omega
    by_cases h : j < l.length
    · have hset := tR_set (Fil.mkL k j ++ l.drop j) j (Fil.mk' (k + 5 * (j : Int)))
      rw [Fil.mkL_set k l j h] at hset
      generalize hL : Fil.mkL k j ++ l.drop j = L at hset hlen
      have hjL : j < L.length := by omega
      generalize hq : k + 5 * (j : Int) = q at hset
      have hw : ∀ z : Int, 0 ≤ z → z ≤ 64 → IntKind.i64.wrap (q + z) = q + z := fun z h1 h2 => w64 (by omega) (by omega)
      simp only [Fil.rXe, Fil.mk'] at hset
      simp -implicitDefEqProofs [List.lookup_cons, eS, h, hjL, tOb, hw, Int.add_assoc]
      refine ⟨j + 1, by omega, by omega, ?_⟩
      rw [hset]
      exact Wk.tl (by simp [hold, upd, tl_cons, w64_nat (show j < 4611686018427387904 by omega)]; omega)
    · have e : j = l.length := by omega
      subst e
      simp -implicitDefEqProofs [List.lookup_cons, eS, tOb, Fil.mkL_len]
      refine finM1 0 [] (tOb 66 5 (Fil.mkL k l.length)) (by simp [pickOk, -List.all_eq_true, tR_ok]) (by simp [tOb]) (by simp [tOb, upd, tl_cons]) ?_
      simp -implicitDefEqProofs [fS, rn0, pickObs, deI, M19, tOb, rn2_I]
  · obtain rfl : us = [] := by simpa using hu
    refine ⟨⟨by rw [Tryz.ntmps19]; simp, by simp, by simp⟩, ?_⟩
    simp -implicitDefEqProofs [Tryz.f19, List.lookup_cons, eS]
    refine loopP_inv (fun _ : Nat => ⟨48, tl [(0, .sl []), (1, I k), (5, I 0)], []⟩) (fun _ => True) (fun _ => 0) 0 trivial (Wk.tl (by simp [hold, upd, tl_cons])) ?_
    intro j _
    simp -implicitDefEqProofs [List.lookup_cons, eS]
    refine finM0 [] (by simp [pickOk]) ?_
    simp -implicitDefEqProofs [fS, rn0, pickObs, deI, M19, rn2_I]
def F21 : Fun := ⟨fun xs => xs = [.sl (tR (Fil.mkL (deI (xs.getD 1 .top)) (deT (xs.getD 0 .top) : List Fil).length)), I (deI (xs.getD 1 .top))] ∧ (deT (xs.getD 0 .top) : List Fil).length ≤ 1048576 ∧ 0 ≤ deI (xs.getD 1 .top) ∧ deI (xs.getD 1 .top) ≤ 1099511627776, fun xs => (I (deI (xs.getD 1 .top) + 5 * (deT (xs.getD 0 .top) : List Fil).length), [])⟩
theorem c21 : GenCA K Tryz.prog 21 F21 := by
  refine contractA Tryz.mix K [] [] (by simp) (by simp) Tryz.func21 rfl (by decide) ?_
  intro xs hxs
  obtain ⟨n, k, rfl, hn, hk0, hk1⟩ : ∃ (n : Nat) (k : Int), xs = [.sl (tR (Fil.mkL k n)), I k] ∧ n ≤ 1048576 ∧ 0 ≤ k ∧ k ≤ 1099511627776 := ⟨_, _, hxs.1, hxs.2⟩
  refine ⟨by rw [Tryz.ntmps21]; simp, ?_⟩
  simp -implicitDefEqProofs [Tryz.f21, List.lookup_cons, eS]
  refine loopP_inv (fun j : Nat => ⟨58, tl [(0, .sl (tR (Fil.mkL k n))), (1, I (k + 5 * j)), (5, I j)], []⟩) (fun j => j ≤ n) (fun j => n - j) 0 (Nat.zero_le _) (Wk.tl (by simp [hold, upd, tl_cons])) ?_
  intro j hj
  by_cases h : j < n
  · generalize hq : k + 5 * (j : Int) = q
    have hw : ∀ z : Int, 0 ≤ z → z ≤ 64 → IntKind.i64.wrap (q + z) = q + z := fun z h1 h2 => w64 (by omega) (by omega)
    simp -implicitDefEqProofs [List.lookup_cons, eS, h, Fil.mkL_len, Fil.mkL_get, Fil.mk', hq, hw, Int.add_assoc]
    refine ⟨j + 1, by omega, by omega, Wk.tl ?_⟩
    simp [hold, upd, tl_cons, w64_nat (show j < 4611686018427387904 by omega)]; omega
  · have e : j = n := by omega
    subst e
    simp -implicitDefEqProofs [List.lookup_cons, eS, Fil.mkL_len]
    refine fin_pure (by simp) ?_
    simp -implicitDefEqProofs [fS, rn0, pickObs, deI, F21, Fil.mkL_len]
def cSz (c : Cfg) : Int := (c.name.size : Int) + c.cls.length + c.fil.length
def bigC (c : Cfg) : Prop := c.name.size ≤ 9223372036854775807 ∧ c.cls.length ≤ 9223372036854775807 ∧ c.fil.length ≤ 9223372036854775807
theorem okC_of {c : Cfg} {m : Int} (h : ¬ m < cSz c) (hm : m ≤ 1048576) : okC c := by
  unfold cSz at h
  exact ⟨by omega, by omega, by omega⟩
def cO (c : Cfg) : X := .agg [.v (.string c.name), .osl 0 0, .osl 1 0, I c.dflt]
def cOb (c : Cfg) : List Ob := [tOb 63 8 c.cls, tOb 66 5 c.fil]
def F7 : Fun := ⟨fun xs => xs = [.agg (cX (deC (xs.getD 0 .top))), .agg (cX (deC (xs.getD 0 .top)))] ∧ okC (deC (xs.getD 0 .top)), fun _ => (B true, [])⟩
theorem c7 : GenCA K Tryz.prog 7 F7 := by
  refine contractA Tryz.mix K [(16, F16), (17, F17)] [] (by simp [c16, c17]) (by simp) Tryz.func7 rfl (by decide) ?_
  intro xs hxs
  obtain ⟨c, rfl, hp⟩ : ∃ c : Cfg, xs = [.agg (cX c), .agg (cX c)] ∧ okC c := ⟨_, hxs.1, hxs.2⟩
  refine ⟨by rw [Tryz.ntmps7]; simp, ?_⟩
  simp -implicitDefEqProofs [Tryz.f7, List.lookup_cons, eS, F16, F17, hp.1, hp.2.1]
  refine fin_pure (by simp) ?_
  simp -implicitDefEqProofs [fS, rn0, pickObs, deI, F7]
def obl (obs : List Ob) (i : Nat) : Nat := ((obs[i]?).map fun ob => ob.rows.length).getD 0
def cMk (k : Int) (n m : Nat) : List Ob := [tOb 63 8 (Cls.mkL k n), tOb 66 5 (Fil.mkL (k + 8 * n) m)]
def M8 : MFun := ⟨[true], fun xs obs => ∃ (c : Cfg) (k : Int), xs = [cO c, I k] ∧ obs = cOb c ∧ okC c ∧ 0 ≤ k ∧ k ≤ 549755813888,
  fun xs obs => (I (deI (xs.getD 1 .top) + 8 * (obl obs 0 : Nat) + 5 * (obl obs 1 : Nat)), cMk (deI (xs.getD 1 .top)) (obl obs 0) (obl obs 1))⟩
theorem m8 : GenMA K Tryz.prog 8 M8 := by
  refine contractMA Tryz.mix K [] [(18, M18), (19, M19)] (by simp) (by simp [m18, m19]) Tryz.func8 rfl (by decide) ?_
  rintro xs obs us ⟨c, k, rfl, rfl, hp, hk0, hk1⟩ hu
  obtain ⟨u, v, rfl⟩ : ∃ u v, us = [u, v] := by
    simp [cOb] at hu
    match us, hu with
    | [u, v], _ => exact ⟨u, v, rfl⟩
  refine ⟨⟨by rw [Tryz.ntmps8]; simp, by simp, ?_⟩, ?_⟩
  · rintro (_ | _ | j) ob hob
    · simp [cOb] at hob; subst hob; exact ⟨_, rfl, rfl, rfl, rfl, rfl, rfl⟩
    · simp [cOb] at hob; subst hob; exact ⟨_, rfl, rfl, rfl, rfl, rfl, rfl⟩
    · simp [cOb] at hob
  obtain ⟨h1, h2, h3⟩ := hp
  simp -implicitDefEqProofs [Tryz.f8, List.lookup_cons, eS, rbR_iR, rbR_nil, rbOb_mk, iR_mf, pickOk, -List.all_eq_true, iR_ok, ok0, iR_eq_nil, deIs_nil, cO, cOb, tOb, M18, M19]
  refine ⟨h1, hk0, by omega, h2, by omega, by omega, ?_⟩
  refine finM2 0 1 [] (tOb 63 8 (Cls.mkL k c.cls.length)) (tOb 66 5 (Fil.mkL (k + 8 * c.cls.length) c.fil.length)) (by simp [pickOk, -List.all_eq_true, tR_ok]) (by simp [tOb]) (by simp [tOb]) (by simp [tOb, upd, tl_cons]) (by simp [tOb, upd, tl_cons]) ?_
  simp -implicitDefEqProofs [fS, rn0, pickObs, deI, M8, obl, cMk, tOb, rn2_I]
def F9 : Fun := ⟨fun xs => ∃ (c : Cfg) (k : Int) (n m : Nat), xs = [.agg (cX ⟨c.name, Cls.mkL k n, Fil.mkL (k + 8 * n) m, c.dflt⟩), I k] ∧ n ≤ 1048576 ∧ m ≤ 1048576 ∧ 0 ≤ k ∧ k ≤ 549755813888,
  fun xs => (I (deI (xs.getD 1 .top) + 8 * ((deC (xs.getD 0 .top)).cls.length : Nat) + 5 * ((deC (xs.getD 0 .top)).fil.length : Nat)), [])⟩
theorem c9 : GenCA K Tryz.prog 9 F9 := by
  refine contractA Tryz.mix K [(20, F20), (21, F21)] [] (by simp [c20, c21]) (by simp) Tryz.func9 rfl (by decide) ?_
  rintro xs ⟨c, k, n, m, rfl, hn, hm, hk0, hk1⟩
  refine ⟨by rw [Tryz.ntmps9]; simp, ?_⟩
  have a1 : 0 ≤ k + 8 * (n : Int) := by omega
  have a2 : k + 8 * (n : Int) ≤ 1099511627776 := by omega
  have a3 : ¬ k + 8 * (n : Int) < 0 := by omega
  have a4 : ¬ k + 8 * (n : Int) + 5 * (m : Int) < 0 := by omega
  have a5 : k ≤ 1099511627776 := by omega
  simp -implicitDefEqProofs [Tryz.f9, List.lookup_cons, eS, F20, F21, hn, hm, hk0, a1, a2, a3, a4, a5]
  refine fin_pure (by simp) ?_
  simp -implicitDefEqProofs [fS, rn0, pickObs, deI, F9]
end Go.Proofs
