/-
  What is proved here: contracts of the law's own functions on events. Condition: none.
-/
import Derived.Test.YtecpfgnkiifnpaaDoorE1n
namespace Go.Proofs
open Go.Abs
set_option linter.unusedSimpArgs false
set_option linter.unnecessarySimpa false
set_option linter.unusedVariables false
set_option maxHeartbeats 4000000
set_option maxRecDepth 20000
def Evt.mk' (k : Int) : Evt := ⟨k, k + 1, k + 2, k + 3, k + 4⟩
def Evt.mkL (k : Int) (n : Nat) : List Evt := (List.range n).map fun i : Nat => Evt.mk' (k + 5 * (i : Int))
@[simp] theorem Evt.mkL_len (k : Int) (n : Nat) : (Evt.mkL k n).length = n := by simp [Evt.mkL]
@[simp] theorem Evt.mkL_zero (k : Int) : Evt.mkL k 0 = [] := rfl
theorem Evt.mkL_set (k : Int) (l : List Evt) (j : Nat) (h : j < l.length) : (Evt.mkL k j ++ l.drop j).set j (Evt.mk' (k + 5 * (j : Int))) = Evt.mkL k (j + 1) ++ l.drop (j + 1) := by
  rw [List.set_append_right _ _ (by simp [Evt.mkL_len]), Evt.mkL_len, Nat.sub_self, List.drop_eq_getElem_cons h, List.set_cons_zero]
  simp [Evt.mkL, List.range_succ]
theorem Evt.mkL_get (k : Int) (n j : Nat) (h : j < (Evt.mkL k n).length) : (Evt.mkL k n)[j] = Evt.mk' (k + 5 * (j : Int)) := by simp [Evt.mkL]
def F42 : Fun := ⟨fun xs => xs = [.agg (rX (deA (xs.getD 0 .top) : Evt)), .agg (rX (deA (xs.getD 0 .top) : Evt))], fun _ => (B true, [])⟩
theorem c42 : GenCA K Tryd.prog 42 F42 := by
  refine contractA Tryd.mix K [] [] (by simp []) (by simp) Tryd.func42 rfl (by decide) ?_
  intro xs hxs
  obtain ⟨a, rfl⟩ : ∃ a : Evt, xs = [.agg (rX a), .agg (rX a)] := ⟨_, hxs⟩
  refine ⟨by rw [Tryd.ntmps42]; simp, ?_⟩
  simp -implicitDefEqProofs [Tryd.f42, List.lookup_cons, eS]
  refine fin_pure (by simp) ?_
  simp -implicitDefEqProofs [fS, rn0, pickObs, deI, F42]
def F22 : Fun := ⟨fun xs => xs = [.sl (tR (deT (xs.getD 0 .top) : List Evt)), .sl (tR (deT (xs.getD 0 .top) : List Evt))] ∧ (deT (xs.getD 0 .top) : List Evt).length ≤ 1048576, fun _ => (B true, [])⟩
theorem c22 : GenCA K Tryd.prog 22 F22 := by
  refine contractA Tryd.mix K [(42, F42)] [] (by simp [c42]) (by simp) Tryd.func22 rfl (by decide) ?_
  intro xs hxs
  obtain ⟨l, rfl, hl⟩ : ∃ l : List Evt, xs = [.sl (tR l), .sl (tR l)] ∧ l.length ≤ 1048576 := ⟨_, hxs.1, hxs.2⟩
  refine ⟨by rw [Tryd.ntmps22]; simp, ?_⟩
  simp -implicitDefEqProofs [Tryd.f22, List.lookup_cons, eS]
  refine loopP_inv (fun k : Nat => ⟨27, tl [(0, .sl (tR l)), (1, .sl (tR l)), (5, I k)], []⟩) (fun k => k ≤ l.length) (fun k => l.length - k) 0 (Nat.zero_le _) (Wk.tl (by simp [hold, upd, tl_cons])) ?_
  intro k hk
  by_cases h : k < l.length
  · simp -implicitDefEqProofs [List.lookup_cons, eS, h]
    refine drawP_all _ (by decide) ?_
    simp -implicitDefEqProofs [List.lookup_cons, eS, h, F42]
    refine ⟨k + 1, by omega, by omega, Wk.tl ?_⟩
    simp [hold, upd, tl_cons, w64_nat (show k < 4611686018427387904 by omega)]
  · have e : k = l.length := by omega
    subst e
    simp -implicitDefEqProofs [List.lookup_cons, eS]
    refine fin_pure (by simp) ?_
    simp -implicitDefEqProofs [fS, rn0, pickObs, deI, F22]
def M23 : MFun := ⟨[true], fun xs obs => (∃ (l : List Evt) (k : Int), xs = [.osl 0 0, I k] ∧ obs = [tOb 62 5 l] ∧ l.length ≤ 1048576 ∧ 0 ≤ k ∧ k ≤ 1099511627776) ∨ (∃ k : Int, xs = [.sl [], I k] ∧ obs = [] ∧ 0 ≤ k ∧ k ≤ 1099511627776),
  fun xs obs => (I (deI (xs.getD 1 .top) + 5 * ((obs.map fun ob => ob.rows.length).sum : Nat)), obs.map fun ob => tOb 62 5 (Evt.mkL (deI (xs.getD 1 .top)) ob.rows.length))⟩
theorem m23 : GenMA K Tryd.prog 23 M23 := by
  refine contractMA Tryd.mix K [] [] (by simp) (by simp) Tryd.func23 rfl (by decide) ?_
  rintro xs obs us (⟨l, k, rfl, rfl, hl, hk0, hk1⟩ | ⟨k, rfl, rfl, hk0, hk1⟩) hu
  · obtain ⟨u, rfl⟩ : ∃ u, us = [u] := by simpa [List.length_eq_one_iff] using hu
    refine ⟨⟨by rw [Tryd.ntmps23]; simp, by simp, ?_⟩, ?_⟩
    · rintro (_ | j) ob hob
      · simp at hob; subst hob; exact ⟨_, rfl, rfl, rfl, rfl, rfl, rfl⟩
      · simp at hob
    simp -implicitDefEqProofs [Tryd.f23, List.lookup_cons, eS, tOb]
    refine loopP_inv (fun j : Nat => ⟨48, tl [(0, .osl 0 0), (1, I (k + 5 * j)), (5, I j), (1000, .pin 0 0 u)], [tOb 62 5 (Evt.mkL k j ++ l.drop j)]⟩) (fun j => j ≤ l.length) (fun j => l.length - j) 0 (Nat.zero_le _) ?_ ?_
    · simp only [Evt.mkL, List.range_zero, List.map_nil, List.nil_append, List.drop_zero]
      exact Wk.tl (by simp [hold, upd, tl_cons])
    intro j hj
    have hlen : (Evt.mkL k j ++ l.drop j).length = l.length := by simp [Evt.mkL_len]; omega
    by_cases h : j < l.length
    · have hset := tR_set (Evt.mkL k j ++ l.drop j) j (Evt.mk' (k + 5 * (j : Int)))
      rw [Evt.mkL_set k l j h] at hset
      generalize hL : Evt.mkL k j ++ l.drop j = L at hset hlen
      have hjL : j < L.length := by omega
      generalize hq : k + 5 * (j : Int) = q at hset
      have hw : ∀ z : Int, 0 ≤ z → z ≤ 64 → IntKind.i64.wrap (q + z) = q + z := fun z h1 h2 => w64 (by omega) (by omega)
      simp only [Evt.rXe, Evt.mk'] at hset
      simp -implicitDefEqProofs [List.lookup_cons, eS, h, hjL, tOb, hw, Int.add_assoc]
      refine ⟨j + 1, by omega, by omega, ?_⟩
      rw [hset]
      exact Wk.tl (by simp [hold, upd, tl_cons, w64_nat (show j < 4611686018427387904 by omega)]; omega)
    · have e : j = l.length := by omega
      subst e
      simp -implicitDefEqProofs [List.lookup_cons, eS, tOb, Evt.mkL_len]
      refine finM1 0 [] (tOb 62 5 (Evt.mkL k l.length)) (by simp [pickOk, -List.all_eq_true, tR_ok]) (by simp [tOb]) (by simp [tOb, upd, tl_cons]) ?_
      simp -implicitDefEqProofs [fS, rn0, pickObs, deI, M23, tOb, rn2_I]
  · obtain rfl : us = [] := by simpa using hu
    refine ⟨⟨by rw [Tryd.ntmps23]; simp, by simp, by simp⟩, ?_⟩
    simp -implicitDefEqProofs [Tryd.f23, List.lookup_cons, eS]
    refine loopP_inv (fun _ : Nat => ⟨48, tl [(0, .sl []), (1, I k), (5, I 0)], []⟩) (fun _ => True) (fun _ => 0) 0 trivial (Wk.tl (by simp [hold, upd, tl_cons])) ?_
    intro j _
    simp -implicitDefEqProofs [List.lookup_cons, eS]
    refine finM0 [] (by simp [pickOk]) ?_
    simp -implicitDefEqProofs [fS, rn0, pickObs, deI, M23, rn2_I]
def F24 : Fun := ⟨fun xs => xs = [.sl (tR (Evt.mkL (deI (xs.getD 1 .top)) (deT (xs.getD 0 .top) : List Evt).length)), I (deI (xs.getD 1 .top))] ∧ (deT (xs.getD 0 .top) : List Evt).length ≤ 1048576 ∧ 0 ≤ deI (xs.getD 1 .top) ∧ deI (xs.getD 1 .top) ≤ 1099511627776, fun xs => (I (deI (xs.getD 1 .top) + 5 * (deT (xs.getD 0 .top) : List Evt).length), [])⟩
theorem c24 : GenCA K Tryd.prog 24 F24 := by
  refine contractA Tryd.mix K [] [] (by simp) (by simp) Tryd.func24 rfl (by decide) ?_
  intro xs hxs
  obtain ⟨n, k, rfl, hn, hk0, hk1⟩ : ∃ (n : Nat) (k : Int), xs = [.sl (tR (Evt.mkL k n)), I k] ∧ n ≤ 1048576 ∧ 0 ≤ k ∧ k ≤ 1099511627776 := ⟨_, _, hxs.1, hxs.2⟩
  refine ⟨by rw [Tryd.ntmps24]; simp, ?_⟩
  simp -implicitDefEqProofs [Tryd.f24, List.lookup_cons, eS]
  refine loopP_inv (fun j : Nat => ⟨58, tl [(0, .sl (tR (Evt.mkL k n))), (1, I (k + 5 * j)), (5, I j)], []⟩) (fun j => j ≤ n) (fun j => n - j) 0 (Nat.zero_le _) (Wk.tl (by simp [hold, upd, tl_cons])) ?_
  intro j hj
  by_cases h : j < n
  · generalize hq : k + 5 * (j : Int) = q
    have hw : ∀ z : Int, 0 ≤ z → z ≤ 64 → IntKind.i64.wrap (q + z) = q + z := fun z h1 h2 => w64 (by omega) (by omega)
    simp -implicitDefEqProofs [List.lookup_cons, eS, h, Evt.mkL_len, Evt.mkL_get, Evt.mk', hq, hw, Int.add_assoc]
    refine ⟨j + 1, by omega, by omega, Wk.tl ?_⟩
    simp [hold, upd, tl_cons, w64_nat (show j < 4611686018427387904 by omega)]; omega
  · have e : j = n := by omega
    subst e
    simp -implicitDefEqProofs [List.lookup_cons, eS, Evt.mkL_len]
    refine fin_pure (by simp) ?_
    simp -implicitDefEqProofs [fS, rn0, pickObs, deI, F24, Evt.mkL_len]
end Go.Proofs
