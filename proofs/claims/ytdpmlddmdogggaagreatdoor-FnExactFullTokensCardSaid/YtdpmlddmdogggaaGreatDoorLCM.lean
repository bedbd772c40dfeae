/-
  What is proved here: contracts of the law's own functions on configurations. Condition: none.
  What is proved here: contracts of the law's own functions on a loaded configuration. Condition: none.
-/
import Derived.Test.YtdpmlddmdogggaaGreatDoorC2j
import Derived.Test.YtdpmlddmdogggaaGreatDoorLdC
import Derived.Test.YtdpmlddmdogggaaGreatDoorAbsE
set_option linter.unusedVariables false
set_option linter.unusedSimpArgs false
set_option linter.unnecessarySimpa false
set_option maxHeartbeats 16000000
set_option maxRecDepth 20000
namespace Go.Proofs
open Go.Abs
def Cls.mk' (k : Int) : Cls := ⟨k, k + 1, k + 2, k + 3, k + 4, k + 5, k + 6, k + 7⟩
def Cls.mkL (k : Int) (n : Nat) : List Cls := (List.range n).map fun i : Nat => Cls.mk' (k + 8 * (i : Int))
@[simp] theorem Cls.mkL_len (k : Int) (n : Nat) : (Cls.mkL k n).length = n := by simp [Cls.mkL]
@[simp] theorem Cls.mkL_zero (k : Int) : Cls.mkL k 0 = [] := rfl
theorem Cls.mkL_set (k : Int) (l : List Cls) (j : Nat) (h : j < l.length) : (Cls.mkL k j ++ l.drop j).set j (Cls.mk' (k + 8 * (j : Int))) = Cls.mkL k (j + 1) ++ l.drop (j + 1) := by
  rw [List.set_append_right _ _ (by simp [Cls.mkL_len]), Cls.mkL_len, Nat.sub_self, List.drop_eq_getElem_cons h, List.set_cons_zero]
  simp [Cls.mkL, List.range_succ]
def Fil.mk' (k : Int) : Fil := ⟨k, k + 1, k + 2, k + 3, k + 4⟩
def Fil.mkL (k : Int) (n : Nat) : List Fil := (List.range n).map fun i : Nat => Fil.mk' (k + 5 * (i : Int))
@[simp] theorem Fil.mkL_len (k : Int) (n : Nat) : (Fil.mkL k n).length = n := by simp [Fil.mkL]
@[simp] theorem Fil.mkL_zero (k : Int) : Fil.mkL k 0 = [] := rfl
theorem Fil.mkL_set (k : Int) (l : List Fil) (j : Nat) (h : j < l.length) : (Fil.mkL k j ++ l.drop j).set j (Fil.mk' (k + 5 * (j : Int))) = Fil.mkL k (j + 1) ++ l.drop (j + 1) := by
  rw [List.set_append_right _ _ (by simp [Fil.mkL_len]), Fil.mkL_len, Nat.sub_self, List.drop_eq_getElem_cons h, List.set_cons_zero]
  simp [Fil.mkL, List.range_succ]
def F104 : Fun := ⟨fun xs => xs = [.agg (rX (deA (xs.getD 0 .top) : Cls))] ∧ (fun (e : Cls) => (True)) (deA (xs.getD 0 .top) : Cls), fun xs => (fun (e : Cls) => ((.agg (rX e), []) : X × List Ob)) (deA (xs.getD 0 .top) : Cls)⟩
theorem F104_in {xs : List X} (h : F104.pre xs) : ∃ (e : Cls), xs = [.agg (rX e)] ∧ (True) := ⟨_, h.1, h.2⟩
theorem F104_res (e : Cls) : F104.res [.agg (rX e)] = (.agg (rX e), []) := by simp [F104]
theorem c104 : GenCA K Tryz.prog 104 F104 := by
  refine contractA Tryz.mix K [] [] (by simp) (by simp) Tryz.func104 rfl (by decide) ?_
  intro xs hxs
  obtain ⟨e, rfl, hp⟩ := F104_in hxs
  rw [F104_res]
  refine ⟨by rw [Tryz.ntmps104]; simp, ?_⟩
  simp -implicitDefEqProofs [Tryz.f104, List.lookup_cons, eS]
  refine fin_pure (by simp) ?_
  simp -implicitDefEqProofs [fS, rn0, pickObs, deI]
def F63 : Fun := ⟨fun xs => xs = [.sl (tR (deT (xs.getD 0 .top) : List Cls))] ∧ (fun (l : List Cls) => (l.length ≤ 1048576)) (deT (xs.getD 0 .top) : List Cls), fun xs => (fun (l : List Cls) => ((.osl 0 0, [tOb 81 8 l]) : X × List Ob)) (deT (xs.getD 0 .top) : List Cls)⟩
theorem F63_in {xs : List X} (h : F63.pre xs) : ∃ (l : List Cls), xs = [.sl (tR l)] ∧ (l.length ≤ 1048576) := ⟨_, h.1, h.2⟩
theorem F63_res (l : List Cls) : F63.res [.sl (tR l)] = (.osl 0 0, [tOb 81 8 l]) := by simp [F63]
theorem c63 : GenCA K Tryz.prog 63 F63 := by
  refine contractA Tryz.mix K [(104, F104)] [] (by simp [c104]) (by simp) Tryz.func63 rfl (by decide) ?_
  intro xs hxs
  obtain ⟨l, rfl, hp⟩ := F63_in hxs
  rw [F63_res]
  refine ⟨by rw [Tryz.ntmps63]; simp, ?_⟩
  simp -implicitDefEqProofs [Tryz.f63, F104, List.lookup_cons, eS, eMake]
  refine ⟨by omega, by omega, ?_⟩
  refine loopP_inv (fun k : Nat => ⟨23, tl [(0, .sl (tR l)), (3, .osl 0 0), (4, I k)], [tOb 81 8 (l.take k ++ List.replicate (l.length - k) Cls.z)]⟩) (fun k => k ≤ l.length) (fun k => l.length - k) 0 (Nat.zero_le _) ?_ ?_
  · simp only [tOb, List.take_zero, List.nil_append, Nat.sub_zero, ← tR_replicate]
    exact Wk.tl (by simp [hold, upd, tl_cons])
  intro k hk
  by_cases h : k < l.length
  · have hk' : k < min k l.length + (l.length - k) := by omega
    have hset := tR_set (l.take k ++ List.replicate (l.length - k) Cls.z) k l[k]
    rw [fillT Cls.z l k h] at hset
    simp only [Cls.rXe] at hset
    simp -implicitDefEqProofs [List.lookup_cons, eS, h, F104, hk', tOb]
    refine ⟨k + 1, by omega, by omega, ?_⟩
    rw [hset]
    exact Wk.tl (by simp [hold, upd, tl_cons, w64_nat (show k < 4611686018427387904 by omega)])
  · simp -implicitDefEqProofs [List.lookup_cons, eS, h, tOb]
    have : l.length - k = 0 := by omega
    rw [this, List.take_of_length_le (by omega), List.replicate_zero, List.append_nil]
    refine fin_own [0] (by simp [pickOk, -List.all_eq_true, tR_ok]) ?_
    simp -implicitDefEqProofs [fS, rn0, pickObs, deI, tOb]
def F106 : Fun := ⟨fun xs => xs = [.agg (rX (deA (xs.getD 0 .top) : Cls)), .agg (rX (deA (xs.getD 0 .top) : Cls))], fun _ => (B true, [])⟩
theorem c106 : GenCA K Tryz.prog 106 F106 := by
  refine contractA Tryz.mix K [] [] (by simp []) (by simp) Tryz.func106 rfl (by decide) ?_
  intro xs hxs
  obtain ⟨a, rfl⟩ : ∃ a : Cls, xs = [.agg (rX a), .agg (rX a)] := ⟨_, hxs⟩
  refine ⟨by rw [Tryz.ntmps106]; simp, ?_⟩
  simp -implicitDefEqProofs [Tryz.f106, List.lookup_cons, eS]
  refine fin_pure (by simp) ?_
  simp -implicitDefEqProofs [fS, rn0, pickObs, deI, F106]
def F67 : Fun := ⟨fun xs => xs = [.sl (tR (deT (xs.getD 0 .top) : List Cls)), .sl (tR (deT (xs.getD 0 .top) : List Cls))] ∧ (deT (xs.getD 0 .top) : List Cls).length ≤ 1048576, fun _ => (B true, [])⟩
theorem c67 : GenCA K Tryz.prog 67 F67 := by
  refine contractA Tryz.mix K [(106, F106)] [] (by simp [c106]) (by simp) Tryz.func67 rfl (by decide) ?_
  intro xs hxs
  obtain ⟨l, rfl, hl⟩ : ∃ l : List Cls, xs = [.sl (tR l), .sl (tR l)] ∧ l.length ≤ 1048576 := ⟨_, hxs.1, hxs.2⟩
  refine ⟨by rw [Tryz.ntmps67]; simp, ?_⟩
  simp -implicitDefEqProofs [Tryz.f67, List.lookup_cons, eS]
  refine loopP_inv (fun k : Nat => ⟨27, tl [(0, .sl (tR l)), (1, .sl (tR l)), (5, I k)], []⟩) (fun k => k ≤ l.length) (fun k => l.length - k) 0 (Nat.zero_le _) (Wk.tl (by simp [hold, upd, tl_cons])) ?_
  intro k hk
  by_cases h : k < l.length
  · simp -implicitDefEqProofs [List.lookup_cons, eS, h]
    refine drawP_all _ (by decide) ?_
    simp -implicitDefEqProofs [List.lookup_cons, eS, h, F106]
    refine ⟨k + 1, by omega, by omega, Wk.tl ?_⟩
    simp [hold, upd, tl_cons, w64_nat (show k < 4611686018427387904 by omega)]
  · have e : k = l.length := by omega
    subst e
    simp -implicitDefEqProofs [List.lookup_cons, eS]
    refine fin_pure (by simp) ?_
    simp -implicitDefEqProofs [fS, rn0, pickObs, deI, F67]
def M69 : MFun := ⟨[true], fun xs obs => (∃ (l : List Cls) (k : Int), xs = [.osl 0 0, I k] ∧ obs = [tOb 81 8 l] ∧ l.length ≤ 1048576 ∧ 0 ≤ k ∧ k ≤ 1099511627776) ∨ (∃ k : Int, xs = [.sl [], I k] ∧ obs = [] ∧ 0 ≤ k ∧ k ≤ 1099511627776),
  fun xs obs => (I (deI (xs.getD 1 .top) + 8 * ((obs.map fun ob => ob.rows.length).sum : Nat)), obs.map fun ob => tOb 81 8 (Cls.mkL (deI (xs.getD 1 .top)) ob.rows.length))⟩
theorem m69 : GenMA K Tryz.prog 69 M69 := by
  refine contractMA Tryz.mix K [] [] (by simp) (by simp) Tryz.func69 rfl (by decide) ?_
  rintro xs obs us (⟨l, k, rfl, rfl, hl, hk0, hk1⟩ | ⟨k, rfl, rfl, hk0, hk1⟩) hu
  · obtain ⟨u, rfl⟩ : ∃ u, us = [u] := by simpa [List.length_eq_one_iff] using hu
    refine ⟨⟨by rw [Tryz.ntmps69]; simp, by simp, ?_⟩, ?_⟩
    · rintro (_ | j) ob hob
      · simp at hob; subst hob; exact ⟨_, rfl, rfl, rfl, rfl, rfl, rfl⟩
      · simp at hob
    simp -implicitDefEqProofs [Tryz.f69, List.lookup_cons, eS, tOb]
    refine loopP_inv (fun j : Nat => ⟨69, tl [(0, .osl 0 0), (1, I (k + 8 * j)), (5, I j), (1000, .pin 0 0 u)], [tOb 81 8 (Cls.mkL k j ++ l.drop j)]⟩) (fun j => j ≤ l.length) (fun j => l.length - j) 0 (Nat.zero_le _) ?_ ?_
    · simp only [Cls.mkL, List.range_zero, List.map_nil, List.nil_append, List.drop_zero]
      exact Wk.tl (by simp [hold, upd, tl_cons])
    intro j hj
    have hlen : (Cls.mkL k j ++ l.drop j).length = l.length := by simp [Cls.mkL_len]; omega
    by_cases h : j < l.length
    · have hset := tR_set (Cls.mkL k j ++ l.drop j) j (Cls.mk' (k + 8 * (j : Int)))
      rw [Cls.mkL_set k l j h] at hset
      generalize hL : Cls.mkL k j ++ l.drop j = L at hset hlen
      have hjL : j < L.length := by omega
      generalize hq : k + 8 * (j : Int) = q at hset
      have hw : ∀ z : Int, 0 ≤ z → z ≤ 64 → IntKind.i64.wrap (q + z) = q + z := fun z h1 h2 => w64 (by omega) (by omega)
      simp only [Cls.rXe, Cls.mk'] at hset
      simp -implicitDefEqProofs [List.lookup_cons, eS, h, hjL, tOb, hw, Int.add_assoc]
      refine ⟨j + 1, by omega, by omega, ?_⟩
      rw [hset]
      exact Wk.tl (by simp [hold, upd, tl_cons, w64_nat (show j < 4611686018427387904 by omega)]; omega)
    · have e : j = l.length := by omega
      subst e
      simp -implicitDefEqProofs [List.lookup_cons, eS, tOb, Cls.mkL_len]
      refine finM1 0 [] (tOb 81 8 (Cls.mkL k l.length)) (by simp [pickOk, -List.all_eq_true, tR_ok]) (by simp [tOb]) (by simp [tOb, upd, tl_cons]) ?_
      simp -implicitDefEqProofs [fS, rn0, pickObs, deI, M69, tOb, rn2_I]
  · obtain rfl : us = [] := by simpa using hu
    refine ⟨⟨by rw [Tryz.ntmps69]; simp, by simp, by simp⟩, ?_⟩
    simp -implicitDefEqProofs [Tryz.f69, List.lookup_cons, eS]
    refine loopP_inv (fun _ : Nat => ⟨69, tl [(0, .sl []), (1, I k), (5, I 0)], []⟩) (fun _ => True) (fun _ => 0) 0 trivial (Wk.tl (by simp [hold, upd, tl_cons])) ?_
    intro j _
    simp -implicitDefEqProofs [List.lookup_cons, eS]
    refine finM0 [] (by simp [pickOk]) ?_
    simp -implicitDefEqProofs [fS, rn0, pickObs, deI, M69, rn2_I]
def F105 : Fun := ⟨fun xs => xs = [.agg (rX (deA (xs.getD 0 .top) : Fil))] ∧ (fun (e : Fil) => (True)) (deA (xs.getD 0 .top) : Fil), fun xs => (fun (e : Fil) => ((.agg (rX e), []) : X × List Ob)) (deA (xs.getD 0 .top) : Fil)⟩
theorem F105_in {xs : List X} (h : F105.pre xs) : ∃ (e : Fil), xs = [.agg (rX e)] ∧ (True) := ⟨_, h.1, h.2⟩
theorem F105_res (e : Fil) : F105.res [.agg (rX e)] = (.agg (rX e), []) := by simp [F105]
theorem c105 : GenCA K Tryz.prog 105 F105 := by
  refine contractA Tryz.mix K [] [] (by simp) (by simp) Tryz.func105 rfl (by decide) ?_
  intro xs hxs
  obtain ⟨e, rfl, hp⟩ := F105_in hxs
  rw [F105_res]
  refine ⟨by rw [Tryz.ntmps105]; simp, ?_⟩
  simp -implicitDefEqProofs [Tryz.f105, List.lookup_cons, eS]
  refine fin_pure (by simp) ?_
  simp -implicitDefEqProofs [fS, rn0, pickObs, deI]
def F65 : Fun := ⟨fun xs => xs = [.sl (tR (deT (xs.getD 0 .top) : List Fil))] ∧ (fun (l : List Fil) => (l.length ≤ 1048576)) (deT (xs.getD 0 .top) : List Fil), fun xs => (fun (l : List Fil) => ((.osl 0 0, [tOb 103 5 l]) : X × List Ob)) (deT (xs.getD 0 .top) : List Fil)⟩
theorem F65_in {xs : List X} (h : F65.pre xs) : ∃ (l : List Fil), xs = [.sl (tR l)] ∧ (l.length ≤ 1048576) := ⟨_, h.1, h.2⟩
theorem F65_res (l : List Fil) : F65.res [.sl (tR l)] = (.osl 0 0, [tOb 103 5 l]) := by simp [F65]
theorem c65 : GenCA K Tryz.prog 65 F65 := by
  refine contractA Tryz.mix K [(105, F105)] [] (by simp [c105]) (by simp) Tryz.func65 rfl (by decide) ?_
  intro xs hxs
  obtain ⟨l, rfl, hp⟩ := F65_in hxs
  rw [F65_res]
  refine ⟨by rw [Tryz.ntmps65]; simp, ?_⟩
  simp -implicitDefEqProofs [Tryz.f65, F105, List.lookup_cons, eS, eMake]
  refine ⟨by omega, by omega, ?_⟩
  refine loopP_inv (fun k : Nat => ⟨23, tl [(0, .sl (tR l)), (3, .osl 0 0), (4, I k)], [tOb 103 5 (l.take k ++ List.replicate (l.length - k) Fil.z)]⟩) (fun k => k ≤ l.length) (fun k => l.length - k) 0 (Nat.zero_le _) ?_ ?_
  · simp only [tOb, List.take_zero, List.nil_append, Nat.sub_zero, ← tR_replicate]
    exact Wk.tl (by simp [hold, upd, tl_cons])
  intro k hk
  by_cases h : k < l.length
  · have hk' : k < min k l.length + (l.length - k) := by omega
    have hset := tR_set (l.take k ++ List.replicate (l.length - k) Fil.z) k l[k]
    rw [fillT Fil.z l k h] at hset
    simp only [Fil.rXe] at hset
    simp -implicitDefEqProofs [List.lookup_cons, eS, h, F105, hk', tOb]
    refine ⟨k + 1, by omega, by omega, ?_⟩
    rw [hset]
    exact Wk.tl (by simp [hold, upd, tl_cons, w64_nat (show k < 4611686018427387904 by omega)])
  · simp -implicitDefEqProofs [List.lookup_cons, eS, h, tOb]
    have : l.length - k = 0 := by omega
    rw [this, List.take_of_length_le (by omega), List.replicate_zero, List.append_nil]
    refine fin_own [0] (by simp [pickOk, -List.all_eq_true, tR_ok]) ?_
    simp -implicitDefEqProofs [fS, rn0, pickObs, deI, tOb]
def F107 : Fun := ⟨fun xs => xs = [.agg (rX (deA (xs.getD 0 .top) : Fil)), .agg (rX (deA (xs.getD 0 .top) : Fil))], fun _ => (B true, [])⟩
theorem c107 : GenCA K Tryz.prog 107 F107 := by
  refine contractA Tryz.mix K [] [] (by simp []) (by simp) Tryz.func107 rfl (by decide) ?_
  intro xs hxs
  obtain ⟨a, rfl⟩ : ∃ a : Fil, xs = [.agg (rX a), .agg (rX a)] := ⟨_, hxs⟩
  refine ⟨by rw [Tryz.ntmps107]; simp, ?_⟩
  simp -implicitDefEqProofs [Tryz.f107, List.lookup_cons, eS]
  refine fin_pure (by simp) ?_
  simp -implicitDefEqProofs [fS, rn0, pickObs, deI, F107]
def F68 : Fun := ⟨fun xs => xs = [.sl (tR (deT (xs.getD 0 .top) : List Fil)), .sl (tR (deT (xs.getD 0 .top) : List Fil))] ∧ (deT (xs.getD 0 .top) : List Fil).length ≤ 1048576, fun _ => (B true, [])⟩
theorem c68 : GenCA K Tryz.prog 68 F68 := by
  refine contractA Tryz.mix K [(107, F107)] [] (by simp [c107]) (by simp) Tryz.func68 rfl (by decide) ?_
  intro xs hxs
  obtain ⟨l, rfl, hl⟩ : ∃ l : List Fil, xs = [.sl (tR l), .sl (tR l)] ∧ l.length ≤ 1048576 := ⟨_, hxs.1, hxs.2⟩
  refine ⟨by rw [Tryz.ntmps68]; simp, ?_⟩
  simp -implicitDefEqProofs [Tryz.f68, List.lookup_cons, eS]
  refine loopP_inv (fun k : Nat => ⟨27, tl [(0, .sl (tR l)), (1, .sl (tR l)), (5, I k)], []⟩) (fun k => k ≤ l.length) (fun k => l.length - k) 0 (Nat.zero_le _) (Wk.tl (by simp [hold, upd, tl_cons])) ?_
  intro k hk
  by_cases h : k < l.length
  · simp -implicitDefEqProofs [List.lookup_cons, eS, h]
    refine drawP_all _ (by decide) ?_
    simp -implicitDefEqProofs [List.lookup_cons, eS, h, F107]
    refine ⟨k + 1, by omega, by omega, Wk.tl ?_⟩
    simp [hold, upd, tl_cons, w64_nat (show k < 4611686018427387904 by omega)]
  · have e : k = l.length := by omega
    subst e
    simp -implicitDefEqProofs [List.lookup_cons, eS]
    refine fin_pure (by simp) ?_
    simp -implicitDefEqProofs [fS, rn0, pickObs, deI, F68]
def M70 : MFun := ⟨[true], fun xs obs => (∃ (l : List Fil) (k : Int), xs = [.osl 0 0, I k] ∧ obs = [tOb 103 5 l] ∧ l.length ≤ 1048576 ∧ 0 ≤ k ∧ k ≤ 1099511627776) ∨ (∃ k : Int, xs = [.sl [], I k] ∧ obs = [] ∧ 0 ≤ k ∧ k ≤ 1099511627776),
  fun xs obs => (I (deI (xs.getD 1 .top) + 5 * ((obs.map fun ob => ob.rows.length).sum : Nat)), obs.map fun ob => tOb 103 5 (Fil.mkL (deI (xs.getD 1 .top)) ob.rows.length))⟩
theorem m70 : GenMA K Tryz.prog 70 M70 := by
  refine contractMA Tryz.mix K [] [] (by simp) (by simp) Tryz.func70 rfl (by decide) ?_
  rintro xs obs us (⟨l, k, rfl, rfl, hl, hk0, hk1⟩ | ⟨k, rfl, rfl, hk0, hk1⟩) hu
  · obtain ⟨u, rfl⟩ : ∃ u, us = [u] := by simpa [List.length_eq_one_iff] using hu
    refine ⟨⟨by rw [Tryz.ntmps70]; simp, by simp, ?_⟩, ?_⟩
    · rintro (_ | j) ob hob
      · simp at hob; subst hob; exact ⟨_, rfl, rfl, rfl, rfl, rfl, rfl⟩
      · simp at hob
    simp -implicitDefEqProofs [Tryz.f70, List.lookup_cons, eS, tOb]
    refine loopP_inv (fun j : Nat => ⟨48, tl [(0, .osl 0 0), (1, I (k + 5 * j)), (5, I j), (1000, .pin 0 0 u)], [tOb 103 5 (Fil.mkL k j ++ l.drop j)]⟩) (fun j => j ≤ l.length) (fun j => l.length - j) 0 (Nat.zero_le _) ?_ ?_
    · simp only [Fil.mkL, List.range_zero, List.map_nil, List.nil_append, List.drop_zero]
      exact Wk.tl (by simp [hold, upd, tl_cons])
    intro j hj
    have hlen : (Fil.mkL k j ++ l.drop j).length = l.length := by simp [Fil.mkL_len]; omega
    by_cases h : j < l.length
    · have hset := tR_set (Fil.mkL k j ++ l.drop j) j (Fil.mk' (k + 5 * (j : Int)))
      rw [Fil.mkL_set k l j h] at hset
      generalize hL : Fil.mkL k j ++ l.drop j = L at hset hlen
      have hjL : j < L.length := by omega
      generalize hq : k + 5 * (j : Int) = q at hset
      have hw : ∀ z : Int, 0 ≤ z → z ≤ 64 → IntKind.i64.wrap (q + z) = q + z := fun z h1 h2 => w64 (by omega) (by omega)
      simp only [Fil.rXe, Fil.mk'] at hset
      simp -implicitDefEqProofs [List.lookup_cons, eS, h, hjL, tOb, hw, Int.add_assoc]
      refine ⟨j + 1, by omega, by omega, ?_⟩
      rw [hset]
      exact Wk.tl (by simp [hold, upd, tl_cons, w64_nat (show j < 4611686018427387904 by omega)]; omega)
    · have e : j = l.length := by omega
      subst e
      simp -implicitDefEqProofs [List.lookup_cons, eS, tOb, Fil.mkL_len]
      refine finM1 0 [] (tOb 103 5 (Fil.mkL k l.length)) (by simp [pickOk, -List.all_eq_true, tR_ok]) (by simp [tOb]) (by simp [tOb, upd, tl_cons]) ?_
      simp -implicitDefEqProofs [fS, rn0, pickObs, deI, M70, tOb, rn2_I]
  · obtain rfl : us = [] := by simpa using hu
    refine ⟨⟨by rw [Tryz.ntmps70]; simp, by simp, by simp⟩, ?_⟩
    simp -implicitDefEqProofs [Tryz.f70, List.lookup_cons, eS]
    refine loopP_inv (fun _ : Nat => ⟨48, tl [(0, .sl []), (1, I k), (5, I 0)], []⟩) (fun _ => True) (fun _ => 0) 0 trivial (Wk.tl (by simp [hold, upd, tl_cons])) ?_
    intro j _
    simp -implicitDefEqProofs [List.lookup_cons, eS]
    refine finM0 [] (by simp [pickOk]) ?_
    simp -implicitDefEqProofs [fS, rn0, pickObs, deI, M70, rn2_I]
def F58 : Fun := ⟨fun xs => xs = [.sl (tR (deT (xs.getD 0 .top) : List Cls)), I (deI (xs.getD 1 .top) : Int)] ∧ (fun (l : List Cls) (m : Int) => (l.length ≤ 9223372036854775807 ∧ 0 ≤ m ∧ m ≤ 1048576)) (deT (xs.getD 0 .top) : List Cls) (deI (xs.getD 1 .top) : Int), fun xs => (fun (l : List Cls) (m : Int) => ((I (if m < l.length then -1 else m - l.length), []) : X × List Ob)) (deT (xs.getD 0 .top) : List Cls) (deI (xs.getD 1 .top) : Int)⟩
theorem F58_in {xs : List X} (h : F58.pre xs) : ∃ (l : List Cls) (m : Int), xs = [.sl (tR l), I m] ∧ (l.length ≤ 9223372036854775807 ∧ 0 ≤ m ∧ m ≤ 1048576) := ⟨_, _, h.1, h.2⟩
theorem F58_res (l : List Cls) (m : Int) : F58.res [.sl (tR l), I m] = (I (if m < l.length then -1 else m - l.length), []) := by simp [F58]
theorem c58 : GenCA K Tryz.prog 58 F58 := by
  refine contractA Tryz.mix K [] [] (by simp) (by simp) Tryz.func58 rfl (by decide) ?_
  intro xs hxs
  obtain ⟨l, m, rfl, hp⟩ := F58_in hxs
  rw [F58_res]
  refine ⟨by rw [Tryz.ntmps58]; simp, ?_⟩
  have hw : IntKind.i64.wrap (m - l.length) = m - l.length := w64 (by omega) (by omega)
  by_cases h : m < l.length
  · have h' : m - l.length < 0 := by omega
    simp -implicitDefEqProofs [Tryz.f58, List.lookup_cons, eS, hw, h']
    refine fin_pure (by simp) ?_
    simp -implicitDefEqProofs [fS, rn0, pickObs, deI, h]
  · have h' : ¬ m - l.length < 0 := by omega
    simp -implicitDefEqProofs [Tryz.f58, List.lookup_cons, eS, hw, h']
    refine fin_pure (by simp) ?_
    simp -implicitDefEqProofs [fS, rn0, pickObs, deI, h]
def F60 : Fun := ⟨fun xs => xs = [.sl (tR (deT (xs.getD 0 .top) : List Fil)), I (deI (xs.getD 1 .top) : Int)] ∧ (fun (l : List Fil) (m : Int) => (l.length ≤ 9223372036854775807 ∧ 0 ≤ m ∧ m ≤ 1048576)) (deT (xs.getD 0 .top) : List Fil) (deI (xs.getD 1 .top) : Int), fun xs => (fun (l : List Fil) (m : Int) => ((I (if m < l.length then -1 else m - l.length), []) : X × List Ob)) (deT (xs.getD 0 .top) : List Fil) (deI (xs.getD 1 .top) : Int)⟩
theorem F60_in {xs : List X} (h : F60.pre xs) : ∃ (l : List Fil) (m : Int), xs = [.sl (tR l), I m] ∧ (l.length ≤ 9223372036854775807 ∧ 0 ≤ m ∧ m ≤ 1048576) := ⟨_, _, h.1, h.2⟩
theorem F60_res (l : List Fil) (m : Int) : F60.res [.sl (tR l), I m] = (I (if m < l.length then -1 else m - l.length), []) := by simp [F60]
theorem c60 : GenCA K Tryz.prog 60 F60 := by
  refine contractA Tryz.mix K [] [] (by simp) (by simp) Tryz.func60 rfl (by decide) ?_
  intro xs hxs
  obtain ⟨l, m, rfl, hp⟩ := F60_in hxs
  rw [F60_res]
  refine ⟨by rw [Tryz.ntmps60]; simp, ?_⟩
  have hw : IntKind.i64.wrap (m - l.length) = m - l.length := w64 (by omega) (by omega)
  by_cases h : m < l.length
  · have h' : m - l.length < 0 := by omega
    simp -implicitDefEqProofs [Tryz.f60, List.lookup_cons, eS, hw, h']
    refine fin_pure (by simp) ?_
    simp -implicitDefEqProofs [fS, rn0, pickObs, deI, h]
  · have h' : ¬ m - l.length < 0 := by omega
    simp -implicitDefEqProofs [Tryz.f60, List.lookup_cons, eS, hw, h']
    refine fin_pure (by simp) ?_
    simp -implicitDefEqProofs [fS, rn0, pickObs, deI, h]
def obl (obs : List Ob) (i : Nat) : Nat := ((obs[i]?).map fun ob => ob.rows.length).getD 0
end Go.Proofs
namespace Go.Proofs
open Go.Abs
def okL (e : Ldd) : Prop := e.cls.length ≤ 1048576 ∧ e.par.length ≤ 1048576 ∧ e.fst.length ≤ 1048576 ∧ e.nx.length ≤ 1048576 ∧ e.en.length ≤ 1048576 ∧ e.fil.length ≤ 1048576 ∧ e.tgt.length ≤ 1048576
def nilE : Ldd := ⟨⟨#[]⟩, [], [], [], [], [], [], [], 0⟩
theorem okL_nil : okL nilE := by simp [okL, nilE]
def F22 : Fun := ⟨fun xs => ∃ e, xs = [.agg (lX e), .agg (lX e)] ∧ okL e, fun _ => (B true, [])⟩
theorem c22 : GenCA K Tryz.prog 22 F22 := by
  refine contractA Tryz.mix K [(67, F67), (68, F68), (47, F47)] [] (by simp [c67, c68, c47]) (by simp) Tryz.func22 rfl (by decide) ?_
  rintro xs ⟨e, rfl, h1, h2, h3, h4, h5, h6, h7⟩
  have hI : ∀ l : List Int, l.length ≤ 1048576 → F47.pre [.sl (iR l), .sl (iR l)] := fun l h => ⟨l, l, rfl, h⟩
  have hIr : ∀ l : List Int, F47.res [.sl (iR l), .sl (iR l)] = (B true, []) := fun l => by simp [F47]
  refine ⟨by rw [Tryz.ntmps22]; simp, ?_⟩
  simp -implicitDefEqProofs [Tryz.f22, List.lookup_cons, eS, F67, F68, hI, hIr, h1, h2, h3, h4, h5, h6, h7]
  refine fin_pure (by simp) ?_
  simp -implicitDefEqProofs [fS, rn0, pickObs, deI, F22]
def lTot (k : Int) (n : List Nat) : Nat → Int
  | 0 => k
  | 1 => lTot k n 0 + 8 * (n.getD 0 0 : Int)
  | 2 => lTot k n 1 + (n.getD 1 0 : Int)
  | 3 => lTot k n 2 + (n.getD 2 0 : Int)
  | 4 => lTot k n 3 + (n.getD 3 0 : Int)
  | 5 => lTot k n 4 + (n.getD 4 0 : Int)
  | 6 => lTot k n 5 + 5 * (n.getD 5 0 : Int)
  | 7 => lTot k n 6 + (n.getD 6 0 : Int)
  | _ => 0
theorem lT_0 (k : Int) (n : List Nat) : lTot k n 0 = k := by simp only [lTot]
theorem lT_1 (k : Int) (n : List Nat) : lTot k n 1 = lTot k n 0 + 8 * (n.getD 0 0 : Int) := by simp only [lTot]
theorem lT_2 (k : Int) (n : List Nat) : lTot k n 2 = lTot k n 1 + (n.getD 1 0 : Int) := by simp only [lTot]
theorem lT_3 (k : Int) (n : List Nat) : lTot k n 3 = lTot k n 2 + (n.getD 2 0 : Int) := by simp only [lTot]
theorem lT_4 (k : Int) (n : List Nat) : lTot k n 4 = lTot k n 3 + (n.getD 3 0 : Int) := by simp only [lTot]
theorem lT_5 (k : Int) (n : List Nat) : lTot k n 5 = lTot k n 4 + (n.getD 4 0 : Int) := by simp only [lTot]
theorem lT_6 (k : Int) (n : List Nat) : lTot k n 6 = lTot k n 5 + 5 * (n.getD 5 0 : Int) := by simp only [lTot]
theorem lT_7 (k : Int) (n : List Nat) : lTot k n 7 = lTot k n 6 + (n.getD 6 0 : Int) := by simp only [lTot]
def mkE (name : ByteArray) (k : Int) (n : List Nat) (d : Int) : Ldd := ⟨name, Cls.mkL k (n.getD 0 0), upI (lTot k n 1) (n.getD 1 0), upI (lTot k n 2) (n.getD 2 0), upI (lTot k n 3) (n.getD 3 0), upI (lTot k n 4) (n.getD 4 0), Fil.mkL (lTot k n 5) (n.getD 5 0), upI (lTot k n 6) (n.getD 6 0), d⟩
def lLen (e : Ldd) : List Nat := [e.cls.length, e.par.length, e.fst.length, e.nx.length, e.en.length, e.fil.length, e.tgt.length]
def oLen (obs : List Ob) : List Nat := obs.map fun ob => ob.rows.length
theorem oLen_ob (e : Ldd) : oLen (lOb e) = lLen e := by simp [oLen, lOb, lLen, obCls, obFil, iOb]
def M23 : MFun := ⟨[true], fun xs obs => (∃ (e : Ldd) (k : Int), xs = [lO e, I k] ∧ obs = lOb e ∧ okL e ∧ 0 ≤ k ∧ k ≤ 549755813888) ∨ (∃ k : Int, xs = [.agg (lX nilE), I k] ∧ obs = [] ∧ 0 ≤ k ∧ k ≤ 549755813888),
  fun xs obs => match obs with
    | [] => (I (deI (xs.getD 1 .top)), [])
    | o :: os => (I (lTot (deI (xs.getD 1 .top)) (oLen (o :: os)) 7), lOb (mkE ⟨#[]⟩ (deI (xs.getD 1 .top)) (oLen (o :: os)) 0))⟩
theorem mkL_res (e : Ldd) (k : Int) : M23.res [lO e, I k] (lOb e) = (I (lTot k (lLen e) 7), lOb (mkE ⟨#[]⟩ k (lLen e) 0)) := by
  rw [← oLen_ob]
  rfl
theorem m23 : GenMA K Tryz.prog 23 M23 := by
  refine contractMA Tryz.mix K [] [(69, M69), (70, M70), (48, M48)] (by simp) (by simp [m69, m70, m48]) Tryz.func23 rfl (by decide) ?_
  have cmu : M69.mu = [true] := rfl
  have fmu : M70.mu = [true] := rfl
  have imu : M48.mu = [true] := rfl
  rintro xs obs us (⟨e, k, rfl, rfl, hp, hk0, hk1⟩ | ⟨k, rfl, rfl, hk0, hk1⟩) hu
  · obtain ⟨u0, u1, u2, u3, u4, u5, u6, rfl⟩ : ∃ u0 u1 u2 u3 u4 u5 u6, us = [u0, u1, u2, u3, u4, u5, u6] := by
      simp [lOb] at hu
      match us, hu with
      | [a, b, c, d, e, f, g], _ => exact ⟨a, b, c, d, e, f, g, rfl⟩
    rw [mkL_res]
    refine ⟨⟨by rw [Tryz.ntmps23]; simp, by simp, fun i ob hob => ?_⟩, ?_⟩
    · match i, hob with
      | 0, hob => simp [lOb] at hob; subst hob; exact ⟨_, rfl, rfl, rfl, rfl, rfl, rfl⟩
      | 1, hob => simp [lOb] at hob; subst hob; exact ⟨_, rfl, rfl, rfl, rfl, rfl, rfl⟩
      | 2, hob => simp [lOb] at hob; subst hob; exact ⟨_, rfl, rfl, rfl, rfl, rfl, rfl⟩
      | 3, hob => simp [lOb] at hob; subst hob; exact ⟨_, rfl, rfl, rfl, rfl, rfl, rfl⟩
      | 4, hob => simp [lOb] at hob; subst hob; exact ⟨_, rfl, rfl, rfl, rfl, rfl, rfl⟩
      | 5, hob => simp [lOb] at hob; subst hob; exact ⟨_, rfl, rfl, rfl, rfl, rfl, rfl⟩
      | 6, hob => simp [lOb] at hob; subst hob; exact ⟨_, rfl, rfl, rfl, rfl, rfl, rfl⟩
      | i + 7, hob => simp [lOb] at hob
    obtain ⟨h1, h2, h3, h4, h5, h6, h7⟩ := hp
    obtain ⟨N, hN⟩ : ∃ N, lLen e = N := ⟨_, rfl⟩
    have n0 : N.getD 0 0 = e.cls.length := by rw [← hN]; rfl
    have n1 : N.getD 1 0 = e.par.length := by rw [← hN]; rfl
    have n2 : N.getD 2 0 = e.fst.length := by rw [← hN]; rfl
    have n3 : N.getD 3 0 = e.nx.length := by rw [← hN]; rfl
    have n4 : N.getD 4 0 = e.en.length := by rw [← hN]; rfl
    have n5 : N.getD 5 0 = e.fil.length := by rw [← hN]; rfl
    have n6 : N.getD 6 0 = e.tgt.length := by rw [← hN]; rfl
    obtain ⟨k0, hk⟩ : ∃ k0, k = k0 := ⟨_, rfl⟩
    obtain ⟨k1, hk1'⟩ : ∃ k1, lTot k N 1 = k1 := ⟨_, rfl⟩
    have r1 : k1 = k + 8 * (e.cls.length : Int) := by rw [← hk1', lT_1 k N, n0, lT_0 k N]
    obtain ⟨k2, hk2'⟩ : ∃ k2, lTot k N 2 = k2 := ⟨_, rfl⟩
    have r2 : k2 = k1 + (e.par.length : Int) := by rw [← hk2', lT_2 k N, n1, hk1']
    obtain ⟨k3, hk3'⟩ : ∃ k3, lTot k N 3 = k3 := ⟨_, rfl⟩
    have r3 : k3 = k2 + (e.fst.length : Int) := by rw [← hk3', lT_3 k N, n2, hk2']
    obtain ⟨k4, hk4'⟩ : ∃ k4, lTot k N 4 = k4 := ⟨_, rfl⟩
    have r4 : k4 = k3 + (e.nx.length : Int) := by rw [← hk4', lT_4 k N, n3, hk3']
    obtain ⟨k5, hk5'⟩ : ∃ k5, lTot k N 5 = k5 := ⟨_, rfl⟩
    have r5 : k5 = k4 + (e.en.length : Int) := by rw [← hk5', lT_5 k N, n4, hk4']
    obtain ⟨k6, hk6'⟩ : ∃ k6, lTot k N 6 = k6 := ⟨_, rfl⟩
    have r6 : k6 = k5 + 5 * (e.fil.length : Int) := by rw [← hk6', lT_6 k N, n5, hk5']
    obtain ⟨k7, hk7'⟩ : ∃ k7, lTot k N 7 = k7 := ⟨_, rfl⟩
    have r7 : k7 = k6 + (e.tgt.length : Int) := by rw [← hk7', lT_7 k N, n6, hk6']
    have p0 : M69.pre [.osl 0 0, .v (.int .i64 k)] [⟨81, 8, 0, tR (e.cls), false, true, none⟩] := .inl ⟨e.cls, k, rfl, rfl, h1, by omega, by omega⟩
    have q0 : M69.res [.osl 0 0, .v (.int .i64 k)] [⟨81, 8, 0, tR (e.cls), false, true, none⟩] = (I k1, [⟨81, 8, 0, tR (Cls.mkL k e.cls.length), false, true, none⟩]) := by rw [r1]; simp [M69, deI, tOb, iOb]
    have p1 : M48.pre [.osl 0 0, .v (.int .i64 k1)] [⟨3, 1, 0, iR (e.par), false, true, none⟩] := .inl ⟨e.par, k1, rfl, rfl, h2, by omega, by omega⟩
    have q1 : M48.res [.osl 0 0, .v (.int .i64 k1)] [⟨3, 1, 0, iR (e.par), false, true, none⟩] = (I k2, [⟨3, 1, 0, iR (upI k1 e.par.length), false, true, none⟩]) := by rw [r2]; simp [M48, deI, tOb, iOb]
    have p2 : M48.pre [.osl 0 0, .v (.int .i64 k2)] [⟨3, 1, 0, iR (e.fst), false, true, none⟩] := .inl ⟨e.fst, k2, rfl, rfl, h3, by omega, by omega⟩
    have q2 : M48.res [.osl 0 0, .v (.int .i64 k2)] [⟨3, 1, 0, iR (e.fst), false, true, none⟩] = (I k3, [⟨3, 1, 0, iR (upI k2 e.fst.length), false, true, none⟩]) := by rw [r3]; simp [M48, deI, tOb, iOb]
    have p3 : M48.pre [.osl 0 0, .v (.int .i64 k3)] [⟨3, 1, 0, iR (e.nx), false, true, none⟩] := .inl ⟨e.nx, k3, rfl, rfl, h4, by omega, by omega⟩
    have q3 : M48.res [.osl 0 0, .v (.int .i64 k3)] [⟨3, 1, 0, iR (e.nx), false, true, none⟩] = (I k4, [⟨3, 1, 0, iR (upI k3 e.nx.length), false, true, none⟩]) := by rw [r4]; simp [M48, deI, tOb, iOb]
    have p4 : M48.pre [.osl 0 0, .v (.int .i64 k4)] [⟨3, 1, 0, iR (e.en), false, true, none⟩] := .inl ⟨e.en, k4, rfl, rfl, h5, by omega, by omega⟩
    have q4 : M48.res [.osl 0 0, .v (.int .i64 k4)] [⟨3, 1, 0, iR (e.en), false, true, none⟩] = (I k5, [⟨3, 1, 0, iR (upI k4 e.en.length), false, true, none⟩]) := by rw [r5]; simp [M48, deI, tOb, iOb]
    have p5 : M70.pre [.osl 0 0, .v (.int .i64 k5)] [⟨103, 5, 0, tR (e.fil), false, true, none⟩] := .inl ⟨e.fil, k5, rfl, rfl, h6, by omega, by omega⟩
    have q5 : M70.res [.osl 0 0, .v (.int .i64 k5)] [⟨103, 5, 0, tR (e.fil), false, true, none⟩] = (I k6, [⟨103, 5, 0, tR (Fil.mkL k5 e.fil.length), false, true, none⟩]) := by rw [r6]; simp [M70, deI, tOb, iOb]
    have p6 : M48.pre [.osl 0 0, .v (.int .i64 k6)] [⟨3, 1, 0, iR (e.tgt), false, true, none⟩] := .inl ⟨e.tgt, k6, rfl, rfl, h7, by omega, by omega⟩
    have q6 : M48.res [.osl 0 0, .v (.int .i64 k6)] [⟨3, 1, 0, iR (e.tgt), false, true, none⟩] = (I k7, [⟨3, 1, 0, iR (upI k6 e.tgt.length), false, true, none⟩]) := by rw [r7]; simp [M48, deI, tOb, iOb]
    have hmk : lOb (mkE ⟨#[]⟩ k N 0) = [obCls (Cls.mkL k e.cls.length), iOb (upI k1 e.par.length), iOb (upI k2 e.fst.length), iOb (upI k3 e.nx.length), iOb (upI k4 e.en.length), obFil (Fil.mkL k5 e.fil.length), iOb (upI k6 e.tgt.length)] := by
      simp only [lOb, mkE, n0, n1, n2, n3, n4, n5, n6, hk1', hk2', hk3', hk4', hk5', hk6']
    rw [hN, hmk, hk7']
    simp -implicitDefEqProofs [Tryz.f23, List.lookup_cons, eS, rbR_iR, rbR_nil, rbOb_mk, iR_mf, pickOk, -List.all_eq_true, iR_ok, ok0, iR_eq_nil, deIs_nil, lO, lOb, obCls, obFil, iOb, cmu, fmu, imu, p0, q0, p1, q1, p2, q2, p3, q3, p4, q4, p5, q5, p6, q6]
    refine finMs [0, 1, 2, 3, 4, 5, 6] (by simp [pickOk, -List.all_eq_true, tR_ok, iR_ok]) (by simp [pinsM, upd, tl_cons]) ?_
    simp -implicitDefEqProofs [fS, rn0, pickObs, deI, rn2_I]
  · obtain rfl : us = [] := by simpa using hu
    refine ⟨⟨by rw [Tryz.ntmps23]; simp, by simp, by simp⟩, ?_⟩
    have a0 : M69.pre [.sl [], .v (.int .i64 k)] [] := .inr ⟨k, rfl, rfl, by omega, by omega⟩
    have a1 : M69.res [.sl [], .v (.int .i64 k)] [] = (I k, []) := by simp [M69, deI]
    have b0 : M70.pre [.sl [], .v (.int .i64 k)] [] := .inr ⟨k, rfl, rfl, by omega, by omega⟩
    have b1 : M70.res [.sl [], .v (.int .i64 k)] [] = (I k, []) := by simp [M70, deI]
    have i0 : M48.pre [.sl [], .v (.int .i64 k)] [] := .inr ⟨k, rfl, rfl, by omega, by omega⟩
    have i1 : M48.res [.sl [], .v (.int .i64 k)] [] = (I k, []) := by simp [M48, deI]
    have n1 : tR ([] : List Cls) = [] := rfl
    have n2 : tR ([] : List Fil) = [] := rfl
    have n3 : iR [] = [] := rfl
    simp -implicitDefEqProofs [Tryz.f23, List.lookup_cons, eS, rbR_iR, rbR_nil, rbOb_mk, iR_mf, pickOk, -List.all_eq_true, iR_ok, ok0, iR_eq_nil, deIs_nil, nilE, n1, n2, n3, a0, a1, b0, b1, i0, i1, cmu, fmu, imu]
    refine finM0 [] (by simp [pickOk]) ?_
    simp -implicitDefEqProofs [fS, rn0, pickObs, deI, M23, rn2_I, deI]
end Go.Proofs
