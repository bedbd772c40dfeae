/-
  What is proved here: contracts of the law's own functions on configurations. Condition: none.
  What is proved here: contracts of the law's own functions on a loaded configuration. Condition: none.
-/
import Derived.Test.YtdpmlddmdogggaaGreatDoorC2j
import Derived.Test.YtdpmlddmdogggaaGreatDoorLdC
import Derived.Test.YtdpmlddmdogggaaGreatDoorAbsE
set_option linter.unusedVariables false
set_option linter.unusedSimpArgs false
set_option linter.unnecessarySimpa false
set_option maxHeartbeats 16000000
set_option maxRecDepth 20000
namespace Go.Proofs
open Go.Abs
def Cls.mk' (k : Int) : Cls := ⟨k, k + 1, k + 2, k + 3, k + 4, k + 5, k + 6, k + 7⟩
def Cls.mkL (k : Int) (n : Nat) : List Cls := (List.range n).map fun i : Nat => Cls.mk' (k + 8 * (i : Int))
@[simp] theorem Cls.mkL_len (k : Int) (n : Nat) : (Cls.mkL k n).length = n := by simp [Cls.mkL]
@[simp] theorem Cls.mkL_zero (k : Int) : Cls.mkL k 0 = [] := rfl
def Fil.mk' (k : Int) : Fil := ⟨k, k + 1, k + 2, k + 3, k + 4⟩
def Fil.mkL (k : Int) (n : Nat) : List Fil := (List.range n).map fun i : Nat => Fil.mk' (k + 5 * (i : Int))
@[simp] theorem Fil.mkL_len (k : Int) (n : Nat) : (Fil.mkL k n).length = n := by simp [Fil.mkL]
@[simp] theorem Fil.mkL_zero (k : Int) : Fil.mkL k 0 = [] := rfl
def F104 : Fun := ⟨fun xs => xs = [.agg (rX (deA (xs.getD 0 .top) : Cls))] ∧ (fun (e : Cls) => (True)) (deA (xs.getD 0 .top) : Cls), fun xs => (fun (e : Cls) => ((.agg (rX e), []) : X × List Ob)) (deA (xs.getD 0 .top) : Cls)⟩
theorem F104_in {xs : List X} (h : F104.pre xs) : ∃ (e : Cls), xs = [.agg (rX e)] ∧ (True) := ⟨_, h.1, h.2⟩
theorem F104_res (e : Cls) : F104.res [.agg (rX e)] = (.agg (rX e), []) := by simp [F104]
theorem c104 : GenCA K Tryz.prog 104 F104 := by
  refine contractA Tryz.mix K [] [] (by simp) (by simp) Tryz.func104 rfl (by decide) ?_
  intro xs hxs
  obtain ⟨e, rfl, hp⟩ := F104_in hxs
  rw [F104_res]
  refine ⟨by rw [Tryz.ntmps104]; simp, ?_⟩
  simp -implicitDefEqProofs [Tryz.f104, List.lookup_cons, eS]
  refine fin_pure (by simp) ?_
  simp -implicitDefEqProofs [fS, rn0, pickObs, deI]
def F63 : Fun := ⟨fun xs => xs = [.sl (tR (deT (xs.getD 0 .top) : List Cls))] ∧ (fun (l : List Cls) => (l.length ≤ 1048576)) (deT (xs.getD 0 .top) : List Cls), fun xs => (fun (l : List Cls) => ((.osl 0 0, [tOb 81 8 l]) : X × List Ob)) (deT (xs.getD 0 .top) : List Cls)⟩
theorem F63_in {xs : List X} (h : F63.pre xs) : ∃ (l : List Cls), xs = [.sl (tR l)] ∧ (l.length ≤ 1048576) := ⟨_, h.1, h.2⟩
theorem F63_res (l : List Cls) : F63.res [.sl (tR l)] = (.osl 0 0, [tOb 81 8 l]) := by simp [F63]
theorem c63 : GenCA K Tryz.prog 63 F63 := by
  refine contractA Tryz.mix K [(104, F104)] [] (by simp [c104]) (by simp) Tryz.func63 rfl (by decide) ?_
  intro xs hxs
  obtain ⟨l, rfl, hp⟩ := F63_in hxs
  rw [F63_res]
  refine ⟨by rw [Tryz.ntmps63]; simp, ?_⟩
  simp -implicitDefEqProofs [Tryz.f63, F104, List.lookup_cons, eS, eMake]
  refine ⟨by omega, by omega, ?_⟩
  refine loopP_inv (fun k : Nat => ⟨23, tl [(0, .sl (tR l)), (3, .osl 0 0), (4, I k)], [tOb 81 8 (l.take k ++ List.replicate (l.length - k) Cls.z)]⟩) (fun k => k ≤ l.length) (fun k => l.length - k) 0 (Nat.zero_le _) ?_ ?_
  · simp only [tOb, List.take_zero, List.nil_append, Nat.sub_zero, ← tR_replicate]
    exact Wk.tl (by simp [hold, upd, tl_cons])
  intro k hk
  by_cases h : k < l.length
  · have hk' : k < min k l.length + (l.length - k) := by omega
    have hset := tR_set (l.take k ++ List.replicate (l.length - k) Cls.z) k l[k]
    rw [fillT Cls.z l k h] at hset
    simp only [Cls.rXe] at hset
    simp -implicitDefEqProofs [List.lookup_cons, eS, h, F104, hk', tOb]
    refine ⟨k + 1, by omega, by omega, ?_⟩
    rw [hset]
    exact Wk.tl (by simp [hold, upd, tl_cons, w64_nat (show k < 4611686018427387904 by omega)])
  · simp -implicitDefEqProofs [List.lookup_cons, eS, h, tOb]
    have : l.length - k = 0 := by omega
    rw [this, List.take_of_length_le (by omega), List.replicate_zero, List.append_nil]
    refine fin_own [0] (by simp [pickOk, -List.all_eq_true, tR_ok]) ?_
    simp -implicitDefEqProofs [fS, rn0, pickObs, deI, tOb]
def F106 : Fun := ⟨fun xs => xs = [.agg (rX (deA (xs.getD 0 .top) : Cls)), .agg (rX (deA (xs.getD 0 .top) : Cls))], fun _ => (B true, [])⟩
theorem c106 : GenCA K Tryz.prog 106 F106 := by
  refine contractA Tryz.mix K [] [] (by simp []) (by simp) Tryz.func106 rfl (by decide) ?_
  intro xs hxs
  obtain ⟨a, rfl⟩ : ∃ a : Cls, xs = [.agg (rX a), .agg (rX a)] := ⟨_, hxs⟩
  refine ⟨by rw [Tryz.ntmps106]; simp, ?_⟩
  simp -implicitDefEqProofs [Tryz.f106, List.lookup_cons, eS]
  refine fin_pure (by simp) ?_
  simp -implicitDefEqProofs [fS, rn0, pickObs, deI, F106]
def F67 : Fun := ⟨fun xs => xs = [.sl (tR (deT (xs.getD 0 .top) : List Cls)), .sl (tR (deT (xs.getD 0 .top) : List Cls))] ∧ (deT (xs.getD 0 .top) : List Cls).length ≤ 1048576, fun _ => (B true, [])⟩
theorem c67 : GenCA K Tryz.prog 67 F67 := by
  refine contractA Tryz.mix K [(106, F106)] [] (by simp [c106]) (by simp) Tryz.func67 rfl (by decide) ?_
  intro xs hxs
  obtain ⟨l, rfl, hl⟩ : ∃ l : List Cls, xs = [.sl (tR l), .sl (tR l)] ∧ l.length ≤ 1048576 := ⟨_, hxs.1, hxs.2⟩
  refine ⟨by rw [Tryz.ntmps67]; simp, ?_⟩
  simp -implicitDefEqProofs [Tryz.f67, List.lookup_cons, eS]
  refine loopP_inv (fun k : Nat => ⟨27, tl [(0, .sl (tR l)), (1, .sl (tR l)), (5, I k)], []⟩) (fun k => k ≤ l.length) (fun k => l.length - k) 0 (Nat.zero_le _) (Wk.tl (by simp [hold, upd, tl_cons])) ?_
  intro k hk
  by_cases h : k < l.length
  · simp -implicitDefEqProofs [List.lookup_cons, eS, h]
    refine drawP_all _ (by decide) ?_
    simp -implicitDefEqProofs [List.lookup_cons, eS, h, F106]
    refine ⟨k + 1, by omega, by omega, Wk.tl ?_⟩
    simp [hold, upd, tl_cons, w64_nat (show k < 4611686018427387904 by omega)]
  · have e : k = l.length := by omega
    subst e
    simp -implicitDefEqProofs [List.lookup_cons, eS]
    refine fin_pure (by simp) ?_
    simp -implicitDefEqProofs [fS, rn0, pickObs, deI, F67]
def F105 : Fun := ⟨fun xs => xs = [.agg (rX (deA (xs.getD 0 .top) : Fil))] ∧ (fun (e : Fil) => (True)) (deA (xs.getD 0 .top) : Fil), fun xs => (fun (e : Fil) => ((.agg (rX e), []) : X × List Ob)) (deA (xs.getD 0 .top) : Fil)⟩
theorem F105_in {xs : List X} (h : F105.pre xs) : ∃ (e : Fil), xs = [.agg (rX e)] ∧ (True) := ⟨_, h.1, h.2⟩
theorem F105_res (e : Fil) : F105.res [.agg (rX e)] = (.agg (rX e), []) := by simp [F105]
theorem c105 : GenCA K Tryz.prog 105 F105 := by
  refine contractA Tryz.mix K [] [] (by simp) (by simp) Tryz.func105 rfl (by decide) ?_
  intro xs hxs
  obtain ⟨e, rfl, hp⟩ := F105_in hxs
  rw [F105_res]
  refine ⟨by rw [Tryz.ntmps105]; simp, ?_⟩
  simp -implicitDefEqProofs [Tryz.f105, List.lookup_cons, eS]
  refine fin_pure (by simp) ?_
  simp -implicitDefEqProofs [fS, rn0, pickObs, deI]
def F65 : Fun := ⟨fun xs => xs = [.sl (tR (deT (xs.getD 0 .top) : List Fil))] ∧ (fun (l : List Fil) => (l.length ≤ 1048576)) (deT (xs.getD 0 .top) : List Fil), fun xs => (fun (l : List Fil) => ((.osl 0 0, [tOb 103 5 l]) : X × List Ob)) (deT (xs.getD 0 .top) : List Fil)⟩
theorem F65_in {xs : List X} (h : F65.pre xs) : ∃ (l : List Fil), xs = [.sl (tR l)] ∧ (l.length ≤ 1048576) := ⟨_, h.1, h.2⟩
theorem F65_res (l : List Fil) : F65.res [.sl (tR l)] = (.osl 0 0, [tOb 103 5 l]) := by simp [F65]
theorem c65 : GenCA K Tryz.prog 65 F65 := by
  refine contractA Tryz.mix K [(105, F105)] [] (by simp [c105]) (by simp) Tryz.func65 rfl (by decide) ?_
  intro xs hxs
  obtain ⟨l, rfl, hp⟩ := F65_in hxs
  rw [F65_res]
  refine ⟨by rw [Tryz.ntmps65]; simp, ?_⟩
  simp -implicitDefEqProofs [Tryz.f65, F105, List.lookup_cons, eS, eMake]
  refine ⟨by omega, by omega, ?_⟩
  refine loopP_inv (fun k : Nat => ⟨23, tl [(0, .sl (tR l)), (3, .osl 0 0), (4, I k)], [tOb 103 5 (l.take k ++ List.replicate (l.length - k) Fil.z)]⟩) (fun k => k ≤ l.length) (fun k => l.length - k) 0 (Nat.zero_le _) ?_ ?_
  · simp only [tOb, List.take_zero, List.nil_append, Nat.sub_zero, ← tR_replicate]
    exact Wk.tl (by simp [hold, upd, tl_cons])
  intro k hk
  by_cases h : k < l.length
  · have hk' : k < min k l.length + (l.length - k) := by omega
    have hset := tR_set (l.take k ++ List.replicate (l.length - k) Fil.z) k l[k]
    rw [fillT Fil.z l k h] at hset
    simp only [Fil.rXe] at hset
    simp -implicitDefEqProofs [List.lookup_cons, eS, h, F105, hk', tOb]
    refine ⟨k + 1, by omega, by omega, ?_⟩
    rw [hset]
    exact Wk.tl (by simp [hold, upd, tl_cons, w64_nat (show k < 4611686018427387904 by omega)])
  · simp -implicitDefEqProofs [List.lookup_cons, eS, h, tOb]
    have : l.length - k = 0 := by omega
    rw [this, List.take_of_length_le (by omega), List.replicate_zero, List.append_nil]
    refine fin_own [0] (by simp [pickOk, -List.all_eq_true, tR_ok]) ?_
    simp -implicitDefEqProofs [fS, rn0, pickObs, deI, tOb]
def F107 : Fun := ⟨fun xs => xs = [.agg (rX (deA (xs.getD 0 .top) : Fil)), .agg (rX (deA (xs.getD 0 .top) : Fil))], fun _ => (B true, [])⟩
theorem c107 : GenCA K Tryz.prog 107 F107 := by
  refine contractA Tryz.mix K [] [] (by simp []) (by simp) Tryz.func107 rfl (by decide) ?_
  intro xs hxs
  obtain ⟨a, rfl⟩ : ∃ a : Fil, xs = [.agg (rX a), .agg (rX a)] := ⟨_, hxs⟩
  refine ⟨by rw [Tryz.ntmps107]; simp, ?_⟩
  simp -implicitDefEqProofs [Tryz.f107, List.lookup_cons, eS]
  refine fin_pure (by simp) ?_
  simp -implicitDefEqProofs [fS, rn0, pickObs, deI, F107]
def F68 : Fun := ⟨fun xs => xs = [.sl (tR (deT (xs.getD 0 .top) : List Fil)), .sl (tR (deT (xs.getD 0 .top) : List Fil))] ∧ (deT (xs.getD 0 .top) : List Fil).length ≤ 1048576, fun _ => (B true, [])⟩
theorem c68 : GenCA K Tryz.prog 68 F68 := by
  refine contractA Tryz.mix K [(107, F107)] [] (by simp [c107]) (by simp) Tryz.func68 rfl (by decide) ?_
  intro xs hxs
  obtain ⟨l, rfl, hl⟩ : ∃ l : List Fil, xs = [.sl (tR l), .sl (tR l)] ∧ l.length ≤ 1048576 := ⟨_, hxs.1, hxs.2⟩
  refine ⟨by rw [Tryz.ntmps68]; simp, ?_⟩
  simp -implicitDefEqProofs [Tryz.f68, List.lookup_cons, eS]
  refine loopP_inv (fun k : Nat => ⟨27, tl [(0, .sl (tR l)), (1, .sl (tR l)), (5, I k)], []⟩) (fun k => k ≤ l.length) (fun k => l.length - k) 0 (Nat.zero_le _) (Wk.tl (by simp [hold, upd, tl_cons])) ?_
  intro k hk
  by_cases h : k < l.length
  · simp -implicitDefEqProofs [List.lookup_cons, eS, h]
    refine drawP_all _ (by decide) ?_
    simp -implicitDefEqProofs [List.lookup_cons, eS, h, F107]
    refine ⟨k + 1, by omega, by omega, Wk.tl ?_⟩
    simp [hold, upd, tl_cons, w64_nat (show k < 4611686018427387904 by omega)]
  · have e : k = l.length := by omega
    subst e
    simp -implicitDefEqProofs [List.lookup_cons, eS]
    refine fin_pure (by simp) ?_
    simp -implicitDefEqProofs [fS, rn0, pickObs, deI, F68]
def F58 : Fun := ⟨fun xs => xs = [.sl (tR (deT (xs.getD 0 .top) : List Cls)), I (deI (xs.getD 1 .top) : Int)] ∧ (fun (l : List Cls) (m : Int) => (l.length ≤ 9223372036854775807 ∧ 0 ≤ m ∧ m ≤ 1048576)) (deT (xs.getD 0 .top) : List Cls) (deI (xs.getD 1 .top) : Int), fun xs => (fun (l : List Cls) (m : Int) => ((I (if m < l.length then -1 else m - l.length), []) : X × List Ob)) (deT (xs.getD 0 .top) : List Cls) (deI (xs.getD 1 .top) : Int)⟩
theorem F58_in {xs : List X} (h : F58.pre xs) : ∃ (l : List Cls) (m : Int), xs = [.sl (tR l), I m] ∧ (l.length ≤ 9223372036854775807 ∧ 0 ≤ m ∧ m ≤ 1048576) := ⟨_, _, h.1, h.2⟩
theorem F58_res (l : List Cls) (m : Int) : F58.res [.sl (tR l), I m] = (I (if m < l.length then -1 else m - l.length), []) := by simp [F58]
theorem c58 : GenCA K Tryz.prog 58 F58 := by
  refine contractA Tryz.mix K [] [] (by simp) (by simp) Tryz.func58 rfl (by decide) ?_
  intro xs hxs
  obtain ⟨l, m, rfl, hp⟩ := F58_in hxs
  rw [F58_res]
  refine ⟨by rw [Tryz.ntmps58]; simp, ?_⟩
  have hw : IntKind.i64.wrap (m - l.length) = m - l.length := w64 (by omega) (by omega)
  by_cases h : m < l.length
  · have h' : m - l.length < 0 := by omega
    simp -implicitDefEqProofs [Tryz.f58, List.lookup_cons, eS, hw, h']
    refine fin_pure (by simp) ?_
    simp -implicitDefEqProofs [fS, rn0, pickObs, deI, h]
  · have h' : ¬ m - l.length < 0 := by omega
    simp -implicitDefEqProofs [Tryz.f58, List.lookup_cons, eS, hw, h']
    refine fin_pure (by simp) ?_
    simp -implicitDefEqProofs [fS, rn0, pickObs, deI, h]
def F60 : Fun := ⟨fun xs => xs = [.sl (tR (deT (xs.getD 0 .top) : List Fil)), I (deI (xs.getD 1 .top) : Int)] ∧ (fun (l : List Fil) (m : Int) => (l.length ≤ 9223372036854775807 ∧ 0 ≤ m ∧ m ≤ 1048576)) (deT (xs.getD 0 .top) : List Fil) (deI (xs.getD 1 .top) : Int), fun xs => (fun (l : List Fil) (m : Int) => ((I (if m < l.length then -1 else m - l.length), []) : X × List Ob)) (deT (xs.getD 0 .top) : List Fil) (deI (xs.getD 1 .top) : Int)⟩
theorem F60_in {xs : List X} (h : F60.pre xs) : ∃ (l : List Fil) (m : Int), xs = [.sl (tR l), I m] ∧ (l.length ≤ 9223372036854775807 ∧ 0 ≤ m ∧ m ≤ 1048576) := ⟨_, _, h.1, h.2⟩
theorem F60_res (l : List Fil) (m : Int) : F60.res [.sl (tR l), I m] = (I (if m < l.length then -1 else m - l.length), []) := by simp [F60]
theorem c60 : GenCA K Tryz.prog 60 F60 := by
  refine contractA Tryz.mix K [] [] (by simp) (by simp) Tryz.func60 rfl (by decide) ?_
  intro xs hxs
  obtain ⟨l, m, rfl, hp⟩ := F60_in hxs
  rw [F60_res]
  refine ⟨by rw [Tryz.ntmps60]; simp, ?_⟩
  have hw : IntKind.i64.wrap (m - l.length) = m - l.length := w64 (by omega) (by omega)
  by_cases h : m < l.length
  · have h' : m - l.length < 0 := by omega
    simp -implicitDefEqProofs [Tryz.f60, List.lookup_cons, eS, hw, h']
    refine fin_pure (by simp) ?_
    simp -implicitDefEqProofs [fS, rn0, pickObs, deI, h]
  · have h' : ¬ m - l.length < 0 := by omega
    simp -implicitDefEqProofs [Tryz.f60, List.lookup_cons, eS, hw, h']
    refine fin_pure (by simp) ?_
    simp -implicitDefEqProofs [fS, rn0, pickObs, deI, h]
end Go.Proofs
namespace Go.Proofs
open Go.Abs
def okL (e : Ldd) : Prop := e.cls.length ≤ 1048576 ∧ e.par.length ≤ 1048576 ∧ e.fst.length ≤ 1048576 ∧ e.nx.length ≤ 1048576 ∧ e.en.length ≤ 1048576 ∧ e.fil.length ≤ 1048576 ∧ e.tgt.length ≤ 1048576
def nilE : Ldd := ⟨⟨#[]⟩, [], [], [], [], [], [], [], 0⟩
theorem okL_nil : okL nilE := by simp [okL, nilE]
def F22 : Fun := ⟨fun xs => ∃ e, xs = [.agg (lX e), .agg (lX e)] ∧ okL e, fun _ => (B true, [])⟩
theorem c22 : GenCA K Tryz.prog 22 F22 := by
  refine contractA Tryz.mix K [(67, F67), (68, F68), (47, F47)] [] (by simp [c67, c68, c47]) (by simp) Tryz.func22 rfl (by decide) ?_
  rintro xs ⟨e, rfl, h1, h2, h3, h4, h5, h6, h7⟩
  have hI : ∀ l : List Int, l.length ≤ 1048576 → F47.pre [.sl (iR l), .sl (iR l)] := fun l h => ⟨l, l, rfl, h⟩
  have hIr : ∀ l : List Int, F47.res [.sl (iR l), .sl (iR l)] = (B true, []) := fun l => by simp [F47]
  refine ⟨by rw [Tryz.ntmps22]; simp, ?_⟩
  simp -implicitDefEqProofs [Tryz.f22, List.lookup_cons, eS, F67, F68, hI, hIr, h1, h2, h3, h4, h5, h6, h7]
  refine fin_pure (by simp) ?_
  simp -implicitDefEqProofs [fS, rn0, pickObs, deI, F22]
end Go.Proofs
