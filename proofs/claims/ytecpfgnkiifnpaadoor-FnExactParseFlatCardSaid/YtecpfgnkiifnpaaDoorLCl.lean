/-
  What is proved here: contracts of the law's own functions on configurations. Condition: none.
-/
import Derived.Test.YtecpfgnkiifnpaaDoorC2l
namespace Go.Proofs
open Go.Abs
set_option linter.unusedSimpArgs false
set_option linter.unnecessarySimpa false
set_option linter.unusedVariables false
set_option maxHeartbeats 4000000
set_option maxRecDepth 20000
def Cls.mk' (k : Int) : Cls := ⟨k, k + 1, k + 2, k + 3, k + 4, k + 5, k + 6, k + 7⟩
def Cls.mkL (k : Int) (n : Nat) : List Cls := (List.range n).map fun i : Nat => Cls.mk' (k + 8 * (i : Int))
@[simp] theorem Cls.mkL_len (k : Int) (n : Nat) : (Cls.mkL k n).length = n := by simp [Cls.mkL]
@[simp] theorem Cls.mkL_zero (k : Int) : Cls.mkL k 0 = [] := rfl
theorem Cls.mkL_set (k : Int) (l : List Cls) (j : Nat) (h : j < l.length) : (Cls.mkL k j ++ l.drop j).set j (Cls.mk' (k + 8 * (j : Int))) = Cls.mkL k (j + 1) ++ l.drop (j + 1) := by
  rw [List.set_append_right _ _ (by simp [Cls.mkL_len]), Cls.mkL_len, Nat.sub_self, List.drop_eq_getElem_cons h, List.set_cons_zero]
  simp [Cls.mkL, List.range_succ]
theorem Cls.mkL_get (k : Int) (n j : Nat) (h : j < (Cls.mkL k n).length) : (Cls.mkL k n)[j] = Cls.mk' (k + 8 * (j : Int)) := by simp [Cls.mkL]
def Fil.mk' (k : Int) : Fil := ⟨k, k + 1, k + 2, k + 3, k + 4⟩
def Fil.mkL (k : Int) (n : Nat) : List Fil := (List.range n).map fun i : Nat => Fil.mk' (k + 5 * (i : Int))
@[simp] theorem Fil.mkL_len (k : Int) (n : Nat) : (Fil.mkL k n).length = n := by simp [Fil.mkL]
@[simp] theorem Fil.mkL_zero (k : Int) : Fil.mkL k 0 = [] := rfl
theorem Fil.mkL_set (k : Int) (l : List Fil) (j : Nat) (h : j < l.length) : (Fil.mkL k j ++ l.drop j).set j (Fil.mk' (k + 5 * (j : Int))) = Fil.mkL k (j + 1) ++ l.drop (j + 1) := by
  rw [List.set_append_right _ _ (by simp [Fil.mkL_len]), Fil.mkL_len, Nat.sub_self, List.drop_eq_getElem_cons h, List.set_cons_zero]
  simp [Fil.mkL, List.range_succ]
theorem Fil.mkL_get (k : Int) (n j : Nat) (h : j < (Fil.mkL k n).length) : (Fil.mkL k n)[j] = Fil.mk' (k + 5 * (j : Int)) := by simp [Fil.mkL]
def F50 : Fun := ⟨fun xs => xs = [.agg (rX (deA (xs.getD 0 .top) : Cls)), .agg (rX (deA (xs.getD 0 .top) : Cls))], fun _ => (B true, [])⟩
theorem c50 : GenCA K Tryd.prog 50 F50 := by
  refine contractA Tryd.mix K [] [] (by simp []) (by simp) Tryd.func50 rfl (by decide) ?_
  intro xs hxs
  obtain ⟨a, rfl⟩ : ∃ a : Cls, xs = [.agg (rX a), .agg (rX a)] := ⟨_, hxs⟩
  refine ⟨by rw [Tryd.ntmps50]; simp, ?_⟩
  simp -implicitDefEqProofs [Tryd.f50, List.lookup_cons, eS]
  refine fin_pure (by simp) ?_
  simp -implicitDefEqProofs [fS, rn0, pickObs, deI, F50]
def F29 : Fun := ⟨fun xs => xs = [.sl (tR (deT (xs.getD 0 .top) : List Cls)), .sl (tR (deT (xs.getD 0 .top) : List Cls))] ∧ (deT (xs.getD 0 .top) : List Cls).length ≤ 1048576, fun _ => (B true, [])⟩
theorem c29 : GenCA K Tryd.prog 29 F29 := by
  refine contractA Tryd.mix K [(50, F50)] [] (by simp [c50]) (by simp) Tryd.func29 rfl (by decide) ?_
  intro xs hxs
  obtain ⟨l, rfl, hl⟩ : ∃ l : List Cls, xs = [.sl (tR l), .sl (tR l)] ∧ l.length ≤ 1048576 := ⟨_, hxs.1, hxs.2⟩
  refine ⟨by rw [Tryd.ntmps29]; simp, ?_⟩
  simp -implicitDefEqProofs [Tryd.f29, List.lookup_cons, eS]
  refine loopP_inv (fun k : Nat => ⟨27, tl [(0, .sl (tR l)), (1, .sl (tR l)), (5, I k)], []⟩) (fun k => k ≤ l.length) (fun k => l.length - k) 0 (Nat.zero_le _) (Wk.tl (by simp [hold, upd, tl_cons])) ?_
  intro k hk
  by_cases h : k < l.length
  · simp -implicitDefEqProofs [List.lookup_cons, eS, h]
    refine drawP_all _ (by decide) ?_
    simp -implicitDefEqProofs [List.lookup_cons, eS, h, F50]
    refine ⟨k + 1, by omega, by omega, Wk.tl ?_⟩
    simp [hold, upd, tl_cons, w64_nat (show k < 4611686018427387904 by omega)]
  · have e : k = l.length := by omega
    subst e
    simp -implicitDefEqProofs [List.lookup_cons, eS]
    refine fin_pure (by simp) ?_
    simp -implicitDefEqProofs [fS, rn0, pickObs, deI, F29]
def M31 : MFun := ⟨[true], fun xs obs => (∃ (l : List Cls) (k : Int), xs = [.osl 0 0, I k] ∧ obs = [tOb 86 8 l] ∧ l.length ≤ 1048576 ∧ 0 ≤ k ∧ k ≤ 1099511627776) ∨ (∃ k : Int, xs = [.sl [], I k] ∧ obs = [] ∧ 0 ≤ k ∧ k ≤ 1099511627776),
  fun xs obs => (I (deI (xs.getD 1 .top) + 8 * ((obs.map fun ob => ob.rows.length).sum : Nat)), obs.map fun ob => tOb 86 8 (Cls.mkL (deI (xs.getD 1 .top)) ob.rows.length))⟩
theorem m31 : GenMA K Tryd.prog 31 M31 := by
  refine contractMA Tryd.mix K [] [] (by simp) (by simp) Tryd.func31 rfl (by decide) ?_
  rintro xs obs us (⟨l, k, rfl, rfl, hl, hk0, hk1⟩ | ⟨k, rfl, rfl, hk0, hk1⟩) hu
  · obtain ⟨u, rfl⟩ : ∃ u, us = [u] := by simpa [List.length_eq_one_iff] using hu
    refine ⟨⟨by rw [Tryd.ntmps31]; simp, by simp, ?_⟩, ?_⟩
    · rintro (_ | j) ob hob
      · simp at hob; subst hob; exact ⟨_, rfl, rfl, rfl, rfl, rfl, rfl⟩
      · simp at hob
    simp -implicitDefEqProofs [Tryd.f31, List.lookup_cons, eS, tOb]
    refine loopP_inv (fun j : Nat => ⟨69, tl [(0, .osl 0 0), (1, I (k + 8 * j)), (5, I j), (1000, .pin 0 0 u)], [tOb 86 8 (Cls.mkL k j ++ l.drop j)]⟩) (fun j => j ≤ l.length) (fun j => l.length - j) 0 (Nat.zero_le _) ?_ ?_
    · simp only [Cls.mkL, List.range_zero, List.map_nil, List.nil_append, List.drop_zero]
      exact Wk.tl (by simp [hold, upd, tl_cons])
    intro j hj
    have hlen : (Cls.mkL k j ++ l.drop j).length = l.length := by simp [Cls.mkL_len]; omega
    by_cases h : j < l.length
    · have hset := tR_set (Cls.mkL k j ++ l.drop j) j (Cls.mk' (k + 8 * (j : Int)))
      rw [Cls.mkL_set k l j h] at hset
      generalize hL : Cls.mkL k j ++ l.drop j = L at hset hlen
      have hjL : j < L.length := by omega
      generalize hq : k + 8 * (j : Int) = q at hset
      have hw : ∀ z : Int, 0 ≤ z → z ≤ 64 → IntKind.i64.wrap (q + z) = q + z := fun z h1 h2 => w64 (by omega) (by omega)
      simp only [Cls.rXe, Cls.mk'] at hset
      simp -implicitDefEqProofs [List.lookup_cons, eS, h, hjL, tOb, hw, Int.add_assoc]
      refine ⟨j + 1, by omega, by omega, ?_⟩
      rw [hset]
      exact Wk.tl (by simp [hold, upd, tl_cons, w64_nat (show j < 4611686018427387904 by omega)]; omega)
    · have e : j = l.length := by omega
      subst e
      simp -implicitDefEqProofs [List.lookup_cons, eS, tOb, Cls.mkL_len]
      refine finM1 0 [] (tOb 86 8 (Cls.mkL k l.length)) (by simp [pickOk, -List.all_eq_true, tR_ok]) (by simp [tOb]) (by simp [tOb, upd, tl_cons]) ?_
      simp -implicitDefEqProofs [fS, rn0, pickObs, deI, M31, tOb, rn2_I]
  · obtain rfl : us = [] := by simpa using hu
    refine ⟨⟨by rw [Tryd.ntmps31]; simp, by simp, by simp⟩, ?_⟩
    simp -implicitDefEqProofs [Tryd.f31, List.lookup_cons, eS]
    refine loopP_inv (fun _ : Nat => ⟨69, tl [(0, .sl []), (1, I k), (5, I 0)], []⟩) (fun _ => True) (fun _ => 0) 0 trivial (Wk.tl (by simp [hold, upd, tl_cons])) ?_
    intro j _
    simp -implicitDefEqProofs [List.lookup_cons, eS]
    refine finM0 [] (by simp [pickOk]) ?_
    simp -implicitDefEqProofs [fS, rn0, pickObs, deI, M31, rn2_I]
def F33 : Fun := ⟨fun xs => xs = [.sl (tR (Cls.mkL (deI (xs.getD 1 .top)) (deT (xs.getD 0 .top) : List Cls).length)), I (deI (xs.getD 1 .top))] ∧ (deT (xs.getD 0 .top) : List Cls).length ≤ 1048576 ∧ 0 ≤ deI (xs.getD 1 .top) ∧ deI (xs.getD 1 .top) ≤ 1099511627776, fun xs => (I (deI (xs.getD 1 .top) + 8 * (deT (xs.getD 0 .top) : List Cls).length), [])⟩
theorem c33 : GenCA K Tryd.prog 33 F33 := by
  refine contractA Tryd.mix K [] [] (by simp) (by simp) Tryd.func33 rfl (by decide) ?_
  intro xs hxs
  obtain ⟨n, k, rfl, hn, hk0, hk1⟩ : ∃ (n : Nat) (k : Int), xs = [.sl (tR (Cls.mkL k n)), I k] ∧ n ≤ 1048576 ∧ 0 ≤ k ∧ k ≤ 1099511627776 := ⟨_, _, hxs.1, hxs.2⟩
  refine ⟨by rw [Tryd.ntmps33]; simp, ?_⟩
  simp -implicitDefEqProofs [Tryd.f33, List.lookup_cons, eS]
  refine loopP_inv (fun j : Nat => ⟨85, tl [(0, .sl (tR (Cls.mkL k n))), (1, I (k + 8 * j)), (5, I j)], []⟩) (fun j => j ≤ n) (fun j => n - j) 0 (Nat.zero_le _) (Wk.tl (by simp [hold, upd, tl_cons])) ?_
  intro j hj
  by_cases h : j < n
  · generalize hq : k + 8 * (j : Int) = q
    have hw : ∀ z : Int, 0 ≤ z → z ≤ 64 → IntKind.i64.wrap (q + z) = q + z := fun z h1 h2 => w64 (by omega) (by omega)
    simp -implicitDefEqProofs [List.lookup_cons, eS, h, Cls.mkL_len, Cls.mkL_get, Cls.mk', hq, hw, Int.add_assoc]
    refine ⟨j + 1, by omega, by omega, Wk.tl ?_⟩
    simp [hold, upd, tl_cons, w64_nat (show j < 4611686018427387904 by omega)]; omega
  · have e : j = n := by omega
    subst e
    simp -implicitDefEqProofs [List.lookup_cons, eS, Cls.mkL_len]
    refine fin_pure (by simp) ?_
    simp -implicitDefEqProofs [fS, rn0, pickObs, deI, F33, Cls.mkL_len]
def F51 : Fun := ⟨fun xs => xs = [.agg (rX (deA (xs.getD 0 .top) : Fil)), .agg (rX (deA (xs.getD 0 .top) : Fil))], fun _ => (B true, [])⟩
theorem c51 : GenCA K Tryd.prog 51 F51 := by
  refine contractA Tryd.mix K [] [] (by simp []) (by simp) Tryd.func51 rfl (by decide) ?_
  intro xs hxs
  obtain ⟨a, rfl⟩ : ∃ a : Fil, xs = [.agg (rX a), .agg (rX a)] := ⟨_, hxs⟩
  refine ⟨by rw [Tryd.ntmps51]; simp, ?_⟩
  simp -implicitDefEqProofs [Tryd.f51, List.lookup_cons, eS]
  refine fin_pure (by simp) ?_
  simp -implicitDefEqProofs [fS, rn0, pickObs, deI, F51]
def F30 : Fun := ⟨fun xs => xs = [.sl (tR (deT (xs.getD 0 .top) : List Fil)), .sl (tR (deT (xs.getD 0 .top) : List Fil))] ∧ (deT (xs.getD 0 .top) : List Fil).length ≤ 1048576, fun _ => (B true, [])⟩
theorem c30 : GenCA K Tryd.prog 30 F30 := by
  refine contractA Tryd.mix K [(51, F51)] [] (by simp [c51]) (by simp) Tryd.func30 rfl (by decide) ?_
  intro xs hxs
  obtain ⟨l, rfl, hl⟩ : ∃ l : List Fil, xs = [.sl (tR l), .sl (tR l)] ∧ l.length ≤ 1048576 := ⟨_, hxs.1, hxs.2⟩
  refine ⟨by rw [Tryd.ntmps30]; simp, ?_⟩
  simp -implicitDefEqProofs [Tryd.f30, List.lookup_cons, eS]
  refine loopP_inv (fun k : Nat => ⟨27, tl [(0, .sl (tR l)), (1, .sl (tR l)), (5, I k)], []⟩) (fun k => k ≤ l.length) (fun k => l.length - k) 0 (Nat.zero_le _) (Wk.tl (by simp [hold, upd, tl_cons])) ?_
  intro k hk
  by_cases h : k < l.length
  · simp -implicitDefEqProofs [List.lookup_cons, eS, h]
    refine drawP_all _ (by decide) ?_
    simp -implicitDefEqProofs [List.lookup_cons, eS, h, F51]
    refine ⟨k + 1, by omega, by omega, Wk.tl ?_⟩
    simp [hold, upd, tl_cons, w64_nat (show k < 4611686018427387904 by omega)]
  · have e : k = l.length := by omega
    subst e
    simp -implicitDefEqProofs [List.lookup_cons, eS]
    refine fin_pure (by simp) ?_
    simp -implicitDefEqProofs [fS, rn0, pickObs, deI, F30]
def M32 : MFun := ⟨[true], fun xs obs => (∃ (l : List Fil) (k : Int), xs = [.osl 0 0, I k] ∧ obs = [tOb 89 5 l] ∧ l.length ≤ 1048576 ∧ 0 ≤ k ∧ k ≤ 1099511627776) ∨ (∃ k : Int, xs = [.sl [], I k] ∧ obs = [] ∧ 0 ≤ k ∧ k ≤ 1099511627776),
  fun xs obs => (I (deI (xs.getD 1 .top) + 5 * ((obs.map fun ob => ob.rows.length).sum : Nat)), obs.map fun ob => tOb 89 5 (Fil.mkL (deI (xs.getD 1 .top)) ob.rows.length))⟩
theorem m32 : GenMA K Tryd.prog 32 M32 := by
  refine contractMA Tryd.mix K [] [] (by simp) (by simp) Tryd.func32 rfl (by decide) ?_
  rintro xs obs us (⟨l, k, rfl, rfl, hl, hk0, hk1⟩ | ⟨k, rfl, rfl, hk0, hk1⟩) hu
  · obtain ⟨u, rfl⟩ : ∃ u, us = [u] := by simpa [List.length_eq_one_iff] using hu
    refine ⟨⟨by rw [Tryd.ntmps32]; simp, by simp, ?_⟩, ?_⟩
    · rintro (_ | j) ob hob
      · simp at hob; subst hob; exact ⟨_, rfl, rfl, rfl, rfl, rfl, rfl⟩
      · simp at hob
    simp -implicitDefEqProofs [Tryd.f32, List.lookup_cons, eS, tOb]
    refine loopP_inv (fun j : Nat => ⟨48, tl [(0, .osl 0 0), (1, I (k + 5 * j)), (5, I j), (1000, .pin 0 0 u)], [tOb 89 5 (Fil.mkL k j ++ l.drop j)]⟩) (fun j => j ≤ l.length) (fun j => l.length - j) 0 (Nat.zero_le _) ?_ ?_
    · simp only [Fil.mkL, List.range_zero, List.map_nil, List.nil_append, List.drop_zero]
      exact Wk.tl (by simp [hold, upd, tl_cons])
    intro j hj
    have hlen : (Fil.mkL k j ++ l.drop j).length = l.length := by simp [Fil.mkL_len]; omega
    by_cases h : j < l.length
    · have hset := tR_set (Fil.mkL k j ++ l.drop j) j (Fil.mk' (k + 5 * (j : Int)))
      rw [Fil.mkL_set k l j h] at hset
      generalize hL : Fil.mkL k j ++ l.drop j = L at hset hlen
      have hjL : j < L.length := by omega
      generalize hq : k + 5 * (j : Int) = q at hset
      have hw : ∀ z : Int, 0 ≤ z → z ≤ 64 → IntKind.i64.wrap (q + z) = q + z := fun z h1 h2 => w64 (by omega) (by omega)
      simp only [Fil.rXe, Fil.mk'] at hset
      simp -implicitDefEqProofs [List.lookup_cons, eS, h, hjL, tOb, hw, Int.add_assoc]
      refine ⟨j + 1, by omega, by omega, ?_⟩
      rw [hset]
      exact Wk.tl (by simp [hold, upd, tl_cons, w64_nat (show j < 4611686018427387904 by omega)]; omega)
    · have e : j = l.length := by omega
      subst e
      simp -implicitDefEqProofs [List.lookup_cons, eS, tOb, Fil.mkL_len]
      refine finM1 0 [] (tOb 89 5 (Fil.mkL k l.length)) (by simp [pickOk, -List.all_eq_true, tR_ok]) (by simp [tOb]) (by simp [tOb, upd, tl_cons]) ?_
      simp -implicitDefEqProofs [fS, rn0, pickObs, deI, M32, tOb, rn2_I]
  · obtain rfl : us = [] := by simpa using hu
    refine ⟨⟨by rw [Tryd.ntmps32]; simp, by simp, by simp⟩, ?_⟩
    simp -implicitDefEqProofs [Tryd.f32, List.lookup_cons, eS]
    refine loopP_inv (fun _ : Nat => ⟨48, tl [(0, .sl []), (1, I k), (5, I 0)], []⟩) (fun _ => True) (fun _ => 0) 0 trivial (Wk.tl (by simp [hold, upd, tl_cons])) ?_
    intro j _
    simp -implicitDefEqProofs [List.lookup_cons, eS]
    refine finM0 [] (by simp [pickOk]) ?_
    simp -implicitDefEqProofs [fS, rn0, pickObs, deI, M32, rn2_I]
def F34 : Fun := ⟨fun xs => xs = [.sl (tR (Fil.mkL (deI (xs.getD 1 .top)) (deT (xs.getD 0 .top) : List Fil).length)), I (deI (xs.getD 1 .top))] ∧ (deT (xs.getD 0 .top) : List Fil).length ≤ 1048576 ∧ 0 ≤ deI (xs.getD 1 .top) ∧ deI (xs.getD 1 .top) ≤ 1099511627776, fun xs => (I (deI (xs.getD 1 .top) + 5 * (deT (xs.getD 0 .top) : List Fil).length), [])⟩
theorem c34 : GenCA K Tryd.prog 34 F34 := by
  refine contractA Tryd.mix K [] [] (by simp) (by simp) Tryd.func34 rfl (by decide) ?_
  intro xs hxs
  obtain ⟨n, k, rfl, hn, hk0, hk1⟩ : ∃ (n : Nat) (k : Int), xs = [.sl (tR (Fil.mkL k n)), I k] ∧ n ≤ 1048576 ∧ 0 ≤ k ∧ k ≤ 1099511627776 := ⟨_, _, hxs.1, hxs.2⟩
  refine ⟨by rw [Tryd.ntmps34]; simp, ?_⟩
  simp -implicitDefEqProofs [Tryd.f34, List.lookup_cons, eS]
  refine loopP_inv (fun j : Nat => ⟨58, tl [(0, .sl (tR (Fil.mkL k n))), (1, I (k + 5 * j)), (5, I j)], []⟩) (fun j => j ≤ n) (fun j => n - j) 0 (Nat.zero_le _) (Wk.tl (by simp [hold, upd, tl_cons])) ?_
  intro j hj
  by_cases h : j < n
  · generalize hq : k + 5 * (j : Int) = q
    have hw : ∀ z : Int, 0 ≤ z → z ≤ 64 → IntKind.i64.wrap (q + z) = q + z := fun z h1 h2 => w64 (by omega) (by omega)
    simp -implicitDefEqProofs [List.lookup_cons, eS, h, Fil.mkL_len, Fil.mkL_get, Fil.mk', hq, hw, Int.add_assoc]
    refine ⟨j + 1, by omega, by omega, Wk.tl ?_⟩
    simp [hold, upd, tl_cons, w64_nat (show j < 4611686018427387904 by omega)]; omega
  · have e : j = n := by omega
    subst e
    simp -implicitDefEqProofs [List.lookup_cons, eS, Fil.mkL_len]
    refine fin_pure (by simp) ?_
    simp -implicitDefEqProofs [fS, rn0, pickObs, deI, F34, Fil.mkL_len]
def cSz (c : Cfg) : Int := (c.name.size : Int) + c.cls.length + c.fil.length
def bigC (c : Cfg) : Prop := c.name.size ≤ 9223372036854775807 ∧ c.cls.length ≤ 9223372036854775807 ∧ c.fil.length ≤ 9223372036854775807
theorem okC_of {c : Cfg} {m : Int} (h : ¬ m < cSz c) (hm : m ≤ 1048576) : okC c := by
  unfold cSz at h
  exact ⟨by omega, by omega, by omega⟩
def cO (c : Cfg) : X := .agg [.v (.string c.name), .osl 0 0, .osl 1 0, I c.dflt]
def cOb (c : Cfg) : List Ob := [tOb 86 8 c.cls, tOb 89 5 c.fil]
def F16 : Fun := ⟨fun xs => xs = [.agg (cX (deC (xs.getD 0 .top))), .agg (cX (deC (xs.getD 0 .top)))] ∧ okC (deC (xs.getD 0 .top)), fun _ => (B true, [])⟩
theorem c16 : GenCA K Tryd.prog 16 F16 := by
  refine contractA Tryd.mix K [(29, F29), (30, F30)] [] (by simp [c29, c30]) (by simp) Tryd.func16 rfl (by decide) ?_
  intro xs hxs
  obtain ⟨c, rfl, hp⟩ : ∃ c : Cfg, xs = [.agg (cX c), .agg (cX c)] ∧ okC c := ⟨_, hxs.1, hxs.2⟩
  refine ⟨by rw [Tryd.ntmps16]; simp, ?_⟩
  simp -implicitDefEqProofs [Tryd.f16, List.lookup_cons, eS, F29, F30, hp.1, hp.2.1]
  refine fin_pure (by simp) ?_
  simp -implicitDefEqProofs [fS, rn0, pickObs, deI, F16]
def obl (obs : List Ob) (i : Nat) : Nat := ((obs[i]?).map fun ob => ob.rows.length).getD 0
def cMk (k : Int) (n m : Nat) : List Ob := [tOb 86 8 (Cls.mkL k n), tOb 89 5 (Fil.mkL (k + 8 * n) m)]
def M18 : MFun := ⟨[true], fun xs obs => ∃ (c : Cfg) (k : Int), xs = [cO c, I k] ∧ obs = cOb c ∧ okC c ∧ 0 ≤ k ∧ k ≤ 549755813888,
  fun xs obs => (I (deI (xs.getD 1 .top) + 8 * (obl obs 0 : Nat) + 5 * (obl obs 1 : Nat)), cMk (deI (xs.getD 1 .top)) (obl obs 0) (obl obs 1))⟩
theorem m18 : GenMA K Tryd.prog 18 M18 := by
  refine contractMA Tryd.mix K [] [(31, M31), (32, M32)] (by simp) (by simp [m31, m32]) Tryd.func18 rfl (by decide) ?_
  rintro xs obs us ⟨c, k, rfl, rfl, hp, hk0, hk1⟩ hu
  obtain ⟨u, v, rfl⟩ : ∃ u v, us = [u, v] := by
    simp [cOb] at hu
    match us, hu with
    | [u, v], _ => exact ⟨u, v, rfl⟩
  refine ⟨⟨by rw [Tryd.ntmps18]; simp, by simp, ?_⟩, ?_⟩
  · rintro (_ | _ | j) ob hob
    · simp [cOb] at hob; subst hob; exact ⟨_, rfl, rfl, rfl, rfl, rfl, rfl⟩
    · simp [cOb] at hob; subst hob; exact ⟨_, rfl, rfl, rfl, rfl, rfl, rfl⟩
    · simp [cOb] at hob
  obtain ⟨h1, h2, h3⟩ := hp
  simp -implicitDefEqProofs [Tryd.f18, List.lookup_cons, eS, rbR_iR, rbR_nil, rbOb_mk, iR_mf, pickOk, -List.all_eq_true, iR_ok, ok0, iR_eq_nil, deIs_nil, cO, cOb, tOb, M31, M32]
  refine ⟨h1, hk0, by omega, h2, by omega, by omega, ?_⟩
  refine finM2 0 1 [] (tOb 86 8 (Cls.mkL k c.cls.length)) (tOb 89 5 (Fil.mkL (k + 8 * c.cls.length) c.fil.length)) (by simp [pickOk, -List.all_eq_true, tR_ok]) (by simp [tOb]) (by simp [tOb]) (by simp [tOb, upd, tl_cons]) (by simp [tOb, upd, tl_cons]) ?_
  simp -implicitDefEqProofs [fS, rn0, pickObs, deI, M18, obl, cMk, tOb, rn2_I]
def F19 : Fun := ⟨fun xs => ∃ (c : Cfg) (k : Int) (n m : Nat), xs = [.agg (cX ⟨c.name, Cls.mkL k n, Fil.mkL (k + 8 * n) m, c.dflt⟩), I k] ∧ n ≤ 1048576 ∧ m ≤ 1048576 ∧ 0 ≤ k ∧ k ≤ 549755813888,
  fun xs => (I (deI (xs.getD 1 .top) + 8 * ((deC (xs.getD 0 .top)).cls.length : Nat) + 5 * ((deC (xs.getD 0 .top)).fil.length : Nat)), [])⟩
theorem c19 : GenCA K Tryd.prog 19 F19 := by
  refine contractA Tryd.mix K [(33, F33), (34, F34)] [] (by simp [c33, c34]) (by simp) Tryd.func19 rfl (by decide) ?_
  rintro xs ⟨c, k, n, m, rfl, hn, hm, hk0, hk1⟩
  refine ⟨by rw [Tryd.ntmps19]; simp, ?_⟩
  have a1 : 0 ≤ k + 8 * (n : Int) := by omega
  have a2 : k + 8 * (n : Int) ≤ 1099511627776 := by omega
  have a3 : ¬ k + 8 * (n : Int) < 0 := by omega
  have a4 : ¬ k + 8 * (n : Int) + 5 * (m : Int) < 0 := by omega
  have a5 : k ≤ 1099511627776 := by omega
  simp -implicitDefEqProofs [Tryd.f19, List.lookup_cons, eS, F33, F34, hn, hm, hk0, a1, a2, a3, a4, a5]
  refine fin_pure (by simp) ?_
  simp -implicitDefEqProofs [fS, rn0, pickObs, deI, F19]
end Go.Proofs
