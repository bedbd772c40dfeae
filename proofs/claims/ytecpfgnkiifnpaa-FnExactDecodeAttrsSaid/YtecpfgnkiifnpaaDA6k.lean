/-
  What is proved here: contracts of the law's own functions on attributes. Condition: none.
-/
import Derived.Test.YtecpfgnkiifnpaaDA5k
import Derived.Test.YtecpfgnkiifnpaaT1k
namespace Go.Proofs
open Go.Abs Go.Flat
set_option linter.unusedSimpArgs false
set_option linter.unnecessarySimpa false
set_option linter.unusedVariables false
set_option maxHeartbeats 16000000
set_option maxRecDepth 20000
structure Flt where
  kd : Int
  pl : Int
instance : Rw Flt where
  n := 2
  enc e := [.int .i64 e.kd, .int .i64 e.pl]
  dec l := ⟨deI (l.getD 0 .top), deI (l.getD 1 .top)⟩
  len _ := rfl
  flat _ := rfl
  de _ := rfl
@[simp] theorem Flt.rXe (e : Flt) : rX e = [I e.kd, I e.pl] := rfl
@[simp] theorem Flt.dece (x0 x1 : X) : (Rw.dec [x0, x1] : Flt) = ⟨deI x0, deI x1⟩ := rfl
@[simp] theorem Flt.eta (e : Flt) : (⟨e.kd, e.pl⟩ : Flt) = e := rfl
def Flt.z : Flt := ⟨0, 0⟩
def Flt.V (e : Flt) : Value := .agg #[.int .i64 e.kd, .int .i64 e.pl]
theorem Flt.cstV (e : Flt) : cst e.V = .agg (rX e) := by simp [cst, Flt.V, plain]
def F9 : Fun := ⟨fun xs => xs = [.agg (rX (deA (xs.getD 0 .top) : Flt)), .agg (rX (deA (xs.getD 0 .top) : Flt))], fun _ => (B true, [])⟩
theorem c9 : GenCA K Try.prog 9 F9 := by
  refine contractA Try.mix K [] [] (by simp []) (by simp) Try.func9 rfl (by decide) ?_
  intro xs hxs
  obtain ⟨a, rfl⟩ : ∃ a : Flt, xs = [.agg (rX a), .agg (rX a)] := ⟨_, hxs⟩
  refine ⟨by rw [Try.ntmps9]; simp, ?_⟩
  simp -implicitDefEqProofs [Try.f9, List.lookup_cons, eS]
  refine fin_pure (by simp) ?_
  simp -implicitDefEqProofs [fS, rn0, pickObs, deI, F9]
def Att.mk' (k : Int) : Att := ⟨k, k + 1, (Int.tmod (k + 2) 3 == 0), mTx (k + 3)⟩
def Att.mkL (k : Int) (n : Nat) : List Att := (List.range n).map fun i : Nat => Att.mk' (k + 4 * (i : Int))
@[simp] theorem Att.mkL_len (k : Int) (n : Nat) : (Att.mkL k n).length = n := by simp [Att.mkL]
@[simp] theorem Att.mkL_zero (k : Int) : Att.mkL k 0 = [] := rfl
theorem Att.mkL_set (k : Int) (l : List Att) (j : Nat) (h : j < l.length) : (Att.mkL k j ++ l.drop j).set j (Att.mk' (k + 4 * (j : Int))) = Att.mkL k (j + 1) ++ l.drop (j + 1) := by
  rw [List.set_append_right _ _ (by simp [Att.mkL_len]), Att.mkL_len, Nat.sub_self, List.drop_eq_getElem_cons h, List.set_cons_zero]
  simp [Att.mkL, List.range_succ]
theorem Att.mkL_get (k : Int) (n j : Nat) (h : j < (Att.mkL k n).length) : (Att.mkL k n)[j] = Att.mk' (k + 4 * (j : Int)) := by simp [Att.mkL]
def F20 : Fun := ⟨fun xs => xs = [.agg (rX (deA (xs.getD 0 .top) : Att)), .agg (rX (deA (xs.getD 0 .top) : Att))], fun _ => (B true, [])⟩
theorem c20 : GenCA K Try.prog 20 F20 := by
  refine contractA Try.mix K [] [] (by simp []) (by simp) Try.func20 rfl (by decide) ?_
  intro xs hxs
  obtain ⟨a, rfl⟩ : ∃ a : Att, xs = [.agg (rX a), .agg (rX a)] := ⟨_, hxs⟩
  refine ⟨by rw [Try.ntmps20]; simp, ?_⟩
  simp -implicitDefEqProofs [Try.f20, List.lookup_cons, eS]
  refine fin_pure (by simp) ?_
  simp -implicitDefEqProofs [fS, rn0, pickObs, deI, F20]
def F8 : Fun := ⟨fun xs => xs = [.sl (tR (deT (xs.getD 0 .top) : List Att)), .sl (tR (deT (xs.getD 0 .top) : List Att))] ∧ (deT (xs.getD 0 .top) : List Att).length ≤ 1048576, fun _ => (B true, [])⟩
theorem c8 : GenCA K Try.prog 8 F8 := by
  refine contractA Try.mix K [(20, F20)] [] (by simp [c20]) (by simp) Try.func8 rfl (by decide) ?_
  intro xs hxs
  obtain ⟨l, rfl, hl⟩ : ∃ l : List Att, xs = [.sl (tR l), .sl (tR l)] ∧ l.length ≤ 1048576 := ⟨_, hxs.1, hxs.2⟩
  refine ⟨by rw [Try.ntmps8]; simp, ?_⟩
  simp -implicitDefEqProofs [Try.f8, List.lookup_cons, eS]
  refine loopP_inv (fun k : Nat => ⟨27, tl [(0, .sl (tR l)), (1, .sl (tR l)), (5, I k)], []⟩) (fun k => k ≤ l.length) (fun k => l.length - k) 0 (Nat.zero_le _) (Wk.tl (by simp [hold, upd, tl_cons])) ?_
  intro k hk
  by_cases h : k < l.length
  · simp -implicitDefEqProofs [List.lookup_cons, eS, h]
    refine drawP_all _ (by decide) ?_
    simp -implicitDefEqProofs [List.lookup_cons, eS, h, F20]
    refine ⟨k + 1, by omega, by omega, Wk.tl ?_⟩
    simp [hold, upd, tl_cons, w64_nat (show k < 4611686018427387904 by omega)]
  · have e : k = l.length := by omega
    subst e
    simp -implicitDefEqProofs [List.lookup_cons, eS]
    refine fin_pure (by simp) ?_
    simp -implicitDefEqProofs [fS, rn0, pickObs, deI, F8]
def M10 : MFun := ⟨[true], fun xs obs => (∃ (l : List Att) (k : Int), xs = [.osl 0 0, I k] ∧ obs = [tOb 49 4 l] ∧ l.length ≤ 1048576 ∧ 0 ≤ k ∧ k ≤ 1099511627776) ∨ (∃ k : Int, xs = [.sl [], I k] ∧ obs = [] ∧ 0 ≤ k ∧ k ≤ 1099511627776),
  fun xs obs => (I (deI (xs.getD 1 .top) + 4 * ((obs.map fun ob => ob.rows.length).sum : Nat)), obs.map fun ob => tOb 49 4 (Att.mkL (deI (xs.getD 1 .top)) ob.rows.length))⟩
theorem m10 : GenMA K Try.prog 10 M10 := by
  refine contractMA Try.mix K [(21, F21)] [] (by simp [c21]) (by simp) Try.func10 rfl (by decide) ?_
  rintro xs obs us (⟨l, k, rfl, rfl, hl, hk0, hk1⟩ | ⟨k, rfl, rfl, hk0, hk1⟩) hu
  · obtain ⟨u, rfl⟩ : ∃ u, us = [u] := by simpa [List.length_eq_one_iff] using hu
    refine ⟨⟨by rw [Try.ntmps10]; simp, by simp, ?_⟩, ?_⟩
    · rintro (_ | j) ob hob
      · simp at hob; subst hob; exact ⟨_, rfl, rfl, rfl, rfl, rfl, rfl⟩
      · simp at hob
    simp -implicitDefEqProofs [Try.f10, List.lookup_cons, eS, tOb]
    refine loopP_inv (fun j : Nat => ⟨44, tl [(0, .osl 0 0), (1, I (k + 4 * j)), (5, I j), (1000, .pin 0 0 u)], [tOb 49 4 (Att.mkL k j ++ l.drop j)]⟩) (fun j => j ≤ l.length) (fun j => l.length - j) 0 (Nat.zero_le _) ?_ ?_
    · simp only [Att.mkL, List.range_zero, List.map_nil, List.nil_append, List.drop_zero]
      exact Wk.tl (by simp [hold, upd, tl_cons])
    intro j hj
    have hlen : (Att.mkL k j ++ l.drop j).length = l.length := by simp [Att.mkL_len]; omega
    by_cases h : j < l.length
    · have hset := tR_set (Att.mkL k j ++ l.drop j) j (Att.mk' (k + 4 * (j : Int)))
      rw [Att.mkL_set k l j h] at hset
      generalize hL : Att.mkL k j ++ l.drop j = L at hset hlen
      have hjL : j < L.length := by omega
      generalize hq : k + 4 * (j : Int) = q at hset
      have hw : ∀ z : Int, 0 ≤ z → z ≤ 64 → IntKind.i64.wrap (q + z) = q + z := fun z h1 h2 => w64 (by omega) (by omega)
      simp only [Att.rXe, Att.mk'] at hset
      simp -implicitDefEqProofs [List.lookup_cons, eS, h, hjL, tOb, hw, Int.add_assoc, F21, show q + 3 ≤ 4611686018427387904 by omega]
      refine ⟨j + 1, by omega, by omega, ?_⟩
      rw [hset]
      exact Wk.tl (by simp [hold, upd, tl_cons, w64_nat (show j < 4611686018427387904 by omega)]; omega)
    · have e : j = l.length := by omega
      subst e
      simp -implicitDefEqProofs [List.lookup_cons, eS, tOb, Att.mkL_len]
      refine finM1 0 [] (tOb 49 4 (Att.mkL k l.length)) (by simp [pickOk, -List.all_eq_true, tR_ok]) (by simp [tOb]) (by simp [tOb, upd, tl_cons]) ?_
      simp -implicitDefEqProofs [fS, rn0, pickObs, deI, M10, tOb, rn2_I]
  · obtain rfl : us = [] := by simpa using hu
    refine ⟨⟨by rw [Try.ntmps10]; simp, by simp, by simp⟩, ?_⟩
    simp -implicitDefEqProofs [Try.f10, List.lookup_cons, eS]
    refine loopP_inv (fun _ : Nat => ⟨44, tl [(0, .sl []), (1, I k), (5, I 0)], []⟩) (fun _ => True) (fun _ => 0) 0 trivial (Wk.tl (by simp [hold, upd, tl_cons])) ?_
    intro j _
    simp -implicitDefEqProofs [List.lookup_cons, eS]
    refine finM0 [] (by simp [pickOk]) ?_
    simp -implicitDefEqProofs [fS, rn0, pickObs, deI, M10, rn2_I]
def F11 : Fun := ⟨fun xs => xs = [.sl (tR (Att.mkL (deI (xs.getD 1 .top)) (deT (xs.getD 0 .top) : List Att).length)), I (deI (xs.getD 1 .top))] ∧ (deT (xs.getD 0 .top) : List Att).length ≤ 1048576 ∧ 0 ≤ deI (xs.getD 1 .top) ∧ deI (xs.getD 1 .top) ≤ 1099511627776, fun xs => (I (deI (xs.getD 1 .top) + 4 * (deT (xs.getD 0 .top) : List Att).length), [])⟩
theorem c11 : GenCA K Try.prog 11 F11 := by
  refine contractA Try.mix K [(21, F21)] [] (by simp [c21]) (by simp) Try.func11 rfl (by decide) ?_
  intro xs hxs
  obtain ⟨n, k, rfl, hn, hk0, hk1⟩ : ∃ (n : Nat) (k : Int), xs = [.sl (tR (Att.mkL k n)), I k] ∧ n ≤ 1048576 ∧ 0 ≤ k ∧ k ≤ 1099511627776 := ⟨_, _, hxs.1, hxs.2⟩
  refine ⟨by rw [Try.ntmps11]; simp, ?_⟩
  simp -implicitDefEqProofs [Try.f11, List.lookup_cons, eS]
  refine loopP_inv (fun j : Nat => ⟨52, tl [(0, .sl (tR (Att.mkL k n))), (1, I (k + 4 * j)), (5, I j)], []⟩) (fun j => j ≤ n) (fun j => n - j) 0 (Nat.zero_le _) (Wk.tl (by simp [hold, upd, tl_cons])) ?_
  intro j hj
  by_cases h : j < n
  · generalize hq : k + 4 * (j : Int) = q
    have hw : ∀ z : Int, 0 ≤ z → z ≤ 64 → IntKind.i64.wrap (q + z) = q + z := fun z h1 h2 => w64 (by omega) (by omega)
    simp -implicitDefEqProofs [List.lookup_cons, eS, h, Att.mkL_len, Att.mkL_get, Att.mk', hq, hw, Int.add_assoc, F21, show q + 3 ≤ 4611686018427387904 by omega]
    refine drawP_all _ (by decide) ?_
    simp -implicitDefEqProofs [List.lookup_cons, eS, h, Att.mkL_len, Att.mkL_get, Att.mk', hq, hw, Int.add_assoc, F21, show q + 3 ≤ 4611686018427387904 by omega]
    refine ⟨j + 1, by omega, by omega, Wk.tl ?_⟩
    simp [hold, upd, tl_cons, w64_nat (show j < 4611686018427387904 by omega)]; omega
  · have e : j = n := by omega
    subst e
    simp -implicitDefEqProofs [List.lookup_cons, eS, Att.mkL_len]
    refine fin_pure (by simp) ?_
    simp -implicitDefEqProofs [fS, rn0, pickObs, deI, F11, Att.mkL_len]
end Go.Proofs
