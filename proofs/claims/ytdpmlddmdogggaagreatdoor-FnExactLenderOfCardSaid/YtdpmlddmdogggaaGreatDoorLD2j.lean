/-
  What is proved here: contracts of the library's product of two words and of its Repeat at whole numbers. Condition: none.
-/
import Derived.Test.YtdpmlddmdogggaaGreatDoorLBN
import Derived.Test.YtdpmlddmdogggaaGreatDoorAbs26
namespace Go.Proofs
open Go.Abs
set_option linter.unusedSimpArgs false
set_option linter.unnecessarySimpa false
set_option linter.unusedVariables false
set_option maxHeartbeats 8000000
set_option maxRecDepth 20000
def FMul : Fun := ⟨fun xs => ∃ n : Nat, n ≤ 24 ∧ xs = [.v (.int .u64 1), .v (.int .u64 n)], fun xs => (.tup [.v (.int .u64 0), xs.getD 1 .top], [])⟩
theorem FMul_pre (n : Nat) (h : n ≤ 24) : FMul.pre [.v (.int .u64 1), .v (.int .u64 n)] := ⟨n, h, rfl⟩
theorem FMul_res (n : Nat) : FMul.res [.v (.int .u64 1), .v (.int .u64 n)] = (.tup [.v (.int .u64 0), .v (.int .u64 n)], []) := rfl
theorem u64n : ∀ n : Nat, n ≤ 24 → IntKind.u64.wrap (n : Int) = n := by decide
theorem cMul64 : GenCA K Tryz.prog 187 FMul := by
  refine contractA Tryz.mix K [] [] (by simp) (by simp) Tryz.func187 rfl (by decide) ?_
  rintro xs ⟨n, hn, rfl⟩
  rw [FMul_res]
  refine ⟨by rw [Tryz.ntmps187]; simp, ?_⟩
  simp -implicitDefEqProofs [Tryz.f187, List.lookup_cons, eS]
  refine fin_pure (by simp) ?_
  simp -implicitDefEqProofs [fS, rn0, pickObs, deI]
  revert n
  decide
theorem cMul : GenCA K Tryz.prog 156 FMul := by
  refine contractA Tryz.mix K [(187, FMul)] [] (by simp [cMul64]) (by simp) Tryz.func156 rfl (by decide) ?_
  rintro xs ⟨n, hn, rfl⟩
  rw [FMul_res]
  have h1 := FMul_pre n hn
  have h2 := FMul_res n
  refine ⟨by rw [Tryz.ntmps156]; simp, ?_⟩
  simp -implicitDefEqProofs [Tryz.f156, List.lookup_cons, eS, h1, h2]
  refine fin_pure (by simp) ?_
  simp -implicitDefEqProofs [fS, rn0, pickObs, deI]
def rpt (n k : Nat) : List Int := List.replicate k (-1) ++ List.replicate (n - k) 0
theorem rpt_len (n k : Nat) (h : k ≤ n) : (rpt n k).length = n := by simp [rpt]; omega
theorem rpt_one (n : Nat) (h : 1 ≤ n) : [-1] ++ (List.replicate n (0 : Int)).drop 1 = rpt n 1 := by simp [rpt]
theorem rpt_end (n : Nat) : rpt n n = List.replicate n (-1) := by simp [rpt]
theorem rpt_step (n k m : Nat) (h : k + m ≤ n) (hm : m ≤ k) : (rpt n k).take k ++ (((rpt n k).take k).take m ++ (rpt n k).drop (k + m)) = rpt n (k + m) := by
  have h1 : (rpt n k).take k = List.replicate k (-1) := by simp [rpt]
  have h2 : (rpt n k).drop (k + m) = List.replicate (n - (k + m)) 0 := by
    simp only [rpt, List.drop_append, List.length_replicate, List.drop_replicate]
    rw [show k - (k + m) = 0 by omega, show k + m - k = m by omega, show n - k - m = n - (k + m) by omega]
    rfl
  rw [h1, h2, List.take_replicate, ← List.append_assoc, List.replicate_append_replicate, Nat.min_eq_left hm]
  rfl
def F121 : Fun := ⟨fun xs => xs = [.sl (iR (deIs (xs.getD 0 .top) : List Int)), I (deI (xs.getD 1 .top) : Int)] ∧ (fun (x : List Int) (n : Int) => (x = [-1] ∧ 1 ≤ n ∧ n ≤ 24)) (deIs (xs.getD 0 .top) : List Int) (deI (xs.getD 1 .top) : Int), fun xs => (fun (x : List Int) (n : Int) => ((.osl 0 0, [iOb (List.replicate n.toNat (-1))]) : X × List Ob)) (deIs (xs.getD 0 .top) : List Int) (deI (xs.getD 1 .top) : Int)⟩
theorem F121_in {xs : List X} (h : F121.pre xs) : ∃ (x : List Int) (n : Int), xs = [.sl (iR x), I n] ∧ (x = [-1] ∧ 1 ≤ n ∧ n ≤ 24) := ⟨_, _, h.1, h.2⟩
theorem F121_res (x : List Int) (n : Int) : F121.res [.sl (iR x), I n] = (.osl 0 0, [iOb (List.replicate n.toNat (-1))]) := by simp [F121]
theorem c121 : GenCA K Tryz.prog 121 F121 := by
  refine contractA Tryz.mix K [(156, FMul)] [] (by simp [cMul]) (by simp) Tryz.func121 rfl (by decide) ?_
  intro xs hxs
  obtain ⟨x, n, rfl, rfl, h1, h2⟩ := F121_in hxs
  rw [F121_res]
  refine ⟨by rw [Tryz.ntmps121]; simp, ?_⟩
  obtain ⟨n, rfl⟩ := Int.eq_ofNat_of_zero_le (show 0 ≤ n by omega)
  have j1 := FMul_pre n (by omega)
  have j2 := FMul_res n
  have hu1 : IntKind.u64.wrap 1 = 1 := by decide
  have hgt : ¬ (9223372036854775807 : Int) < n := by omega
  have hrep : List.replicate n [X.v (Value.int .i64 0)] = iR (List.replicate n 0) := by simp [iR]
  have hmin : min 1 n = 1 := by omega
  have hneg : ¬ (n : Int) < 0 := by omega
  have hw1 : IntKind.u64.wrap (n : Int) = n := u64n n (by omega)
  have hw2 : IntKind.i64.wrap (n : Int) = n := by rw [w64 (by omega) (by omega)]
  simp -implicitDefEqProofs [Tryz.f121, List.lookup_cons, eS, j1, j2, hneg, hgt, hmin, hrep, iR_drop, hu1, hw1, hw2, eMake, eCopy, cpAt, srcRows, srcOk, eConv, ints]
  refine ⟨by omega, by omega, by simp [iR], by omega, ?_⟩
  refine loopP_inv (fun k : Nat => ⟨48, tl [(7, .osl 0 0), (8, I k)], [iOb (rpt n k)]⟩) (fun k => 1 ≤ k ∧ k ≤ n) (fun k => n - k) 1 ⟨by omega, by omega⟩ ?_ ?_
  · have hE : List.take 1 (iR [-1]) ++ (iR (List.replicate n 0)).tail = iR (rpt n 1) := by
      rw [← rpt_one n (by omega), ← iR_append, List.drop_one]
      simp [iR]
    rw [hE]
    simp only [iOb]
    exact Wk.tl (by simp [hold, upd, tl_cons])
  rintro k ⟨hk1, hk2⟩
  obtain ⟨L, hL⟩ : ∃ L, rpt n k = L := ⟨_, rfl⟩
  have hLl : L.length = n := by rw [← hL]; exact rpt_len n k hk2
  rw [hL]
  by_cases h : k < n
  · obtain ⟨m, hm⟩ : ∃ m, min k (n - k) = m := ⟨_, rfl⟩
    have hst := rpt_step n k m (by omega) (by omega)
    rw [hL] at hst
    simp -implicitDefEqProofs [List.lookup_cons, eS, h, hLl, iOb]
    refine drawP_x _ [(1, 0), (2, 0), (3, 0), (4, 0), (5, 0), (6, 0), (7, 0), (0, 0), (8, 1), (9, 1)] [7, 9] (by decide) ?_
    simp -implicitDefEqProofs [List.lookup_cons, eS, h, hLl, iOb, eSlice, bnd, eCopy, cpAt, srcRows, srcOk]
    have hw : IntKind.i64.wrap ((k : Int) + m) = ((k + m : Nat) : Int) := by rw [w64 (by omega) (by omega)]; omega
    rw [hm, hw, iR_take, iR_take, iR_drop, iR_append, iR_append, hst]
    refine ⟨by omega, fun r hr => ?_, by omega, by omega, by omega, k + m, by omega, by omega, by omega, ?_⟩
    · simp only [iR, List.mem_map] at hr
      obtain ⟨_, _, rfl⟩ := hr
      rfl
    exact Wk.tl (by simp [hold, upd, tl_cons])
  · have e : k = n := by omega
    subst e
    rw [rpt_end] at hL
    subst hL
    simp -implicitDefEqProofs [List.lookup_cons, eS, iOb]
    refine fin_own [0] (by simp [pickOk, -List.all_eq_true, iR_ok]) ?_
    simp -implicitDefEqProofs [fS, rn0, pickObs, deI, iOb]
end Go.Proofs
