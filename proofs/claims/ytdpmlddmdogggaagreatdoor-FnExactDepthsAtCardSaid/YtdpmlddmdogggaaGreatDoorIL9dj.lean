/-
  What is proved here: contracts of leaves, depths and what is inside of a loaded configuration. Condition: none.
-/
import Derived.Test.YtdpmlddmdogggaaGreatDoorIL9aj
namespace Go.Proofs
open Go.Abs
set_option linter.unusedSimpArgs false
set_option linter.unnecessarySimpa false
set_option linter.unusedVariables false
set_option maxHeartbeats 16000000
set_option maxRecDepth 20000
def dpK (x : Ldd) (k : Nat) : List Int := (List.range k).map fun i : Nat => ((hop x.par (i : Int)).length : Int)
theorem dpK_succ (x : Ldd) (k : Nat) : dpK x (k + 1) = dpK x k ++ [((hop x.par (k : Int)).length : Int)] := by
  unfold dpK
  rw [List.range_succ, List.map_append]
  rfl
theorem dpK_len (x : Ldd) (k : Nat) : (dpK x k).length = k := by simp [dpK]
def F55 : Fun := ⟨fun xs => xs = [.agg (lX (deL (xs.getD 0 .top) : Ldd))] ∧ (fun (x : Ldd) => (okM x)) (deL (xs.getD 0 .top) : Ldd), fun xs => (fun (x : Ldd) => ((ansI (isLd x) (dpK x x.cls.length)) : X × List Ob)) (deL (xs.getD 0 .top) : Ldd)⟩
theorem F55_in {xs : List X} (h : F55.pre xs) : ∃ (x : Ldd), xs = [.agg (lX x)] ∧ (okM x) := ⟨_, h.1, h.2⟩
theorem F55_res (x : Ldd) : F55.res [.agg (lX x)] = (ansI (isLd x) (dpK x x.cls.length)) := by simp [F55]
theorem F55_mk (x : Ldd) (h : okM x) : F55.pre [.agg (lX x)] := by simpa [F55] using h
theorem c55 : GenCA K Tryz.prog 55 F55 := by
  refine contractA Tryz.mix K [(33, F33), (95, F95)] [] (by simp [c33, c95]) (by simp) Tryz.func55 rfl (by decide) ?_
  intro xs hxs
  obtain ⟨x, rfl, hp⟩ := F55_in hxs
  rw [F55_res]
  refine ⟨by rw [Tryz.ntmps55]; simp, ?_⟩
  cases g : isLd x with
  | false =>
    rw [ansI_f]
    simp -implicitDefEqProofs [Tryz.f55, F33, F95, List.lookup_cons, eS, hp, g]
    refine fin_pure (by simp) ?_
    simp -implicitDefEqProofs [fS, rn0, pickObs, deI]
  | true =>
    rw [ansI_t]
    have G := isLd_G g
    have hn := G.n
    simp -implicitDefEqProofs [Tryz.f55, F33, F95, List.lookup_cons, eS, hp, g, eBuildSlice, srcRows, srcOk, chunk]
    refine loopP_inv (fun k : Nat => ⟨25, tl [(1, .optr 0 0 0 0), (4, .osl 1 0), (12, I x.cls.length), (13, I k)], [⟨35, 9, 0, [[.v (.string x.name), .sl (tR x.cls), .sl (iR x.par), .sl (iR x.fst), .sl (iR x.nx), .sl (iR x.en), .sl (tR x.fil), .sl (iR x.tgt), I x.dflt]], true, true, none⟩, iOb (dpK x k)]⟩) (fun k => k ≤ x.cls.length) (fun k => x.cls.length - k) 0 (Nat.zero_le _) ?_ ?_
    · exact Wk.tl (by simp [hold, upd, tl_cons, iOb, iR_nil, dpK])
    intro k hk
    by_cases h : k < x.cls.length
    · have hw := w64n (show k < 4611686018427387904 by omega)
      have hS := dpK_succ x k
      have hln := dpK_len x k
      obtain ⟨L, hL⟩ : ∃ L, dpK x k = L := ⟨_, rfl⟩
      rw [hL] at hS hln
      rw [hL]
      obtain ⟨w, hww⟩ : ∃ w, hop x.par (k : Int) = w := ⟨_, rfl⟩
      rw [hww] at hS
      simp -implicitDefEqProofs [List.lookup_cons, eS, h, F95, G, hww, iOb, eAppend, eBuildSlice, srcRows, srcOk, chunk]
      refine ⟨by omega, by omega, k + 1, by omega, by omega, ?_⟩
      rw [snocI, hS]
      refine Wk.tlP [0, 1] (by simp [pickOk, -List.all_eq_true, iR_ok, ok0]) ?_ ?_
      · simp [pickObs]
      · simp [hold, upd, tl_cons, rn1, rn0, hw]
        try exact ⟨rfl, rfl⟩
    · have e : k = x.cls.length := by omega
      subst e
      simp -implicitDefEqProofs [List.lookup_cons, eS, iOb]
      refine fin_own [1] (by simp [pickOk, -List.all_eq_true, iR_ok]) ?_
      simp -implicitDefEqProofs [fS, rn0, pickObs, deI, iOb]
theorem c54 : GenCA K Tryz.prog 54 F55 := by
  refine contractA Tryz.mix K [(61, F33), (75, F95)] [] (by simp [c61, c75]) (by simp) Tryz.func54 rfl (by decide) ?_
  intro xs hxs
  obtain ⟨x, rfl, hp⟩ := F55_in hxs
  rw [F55_res]
  refine ⟨by rw [Tryz.ntmps54]; simp, ?_⟩
  cases g : isLd x with
  | false =>
    rw [ansI_f]
    simp -implicitDefEqProofs [Tryz.f54, F33, F95, List.lookup_cons, eS, hp, g]
    refine fin_pure (by simp) ?_
    simp -implicitDefEqProofs [fS, rn0, pickObs, deI]
  | true =>
    rw [ansI_t]
    have G := isLd_G g
    have hn := G.n
    simp -implicitDefEqProofs [Tryz.f54, F33, F95, List.lookup_cons, eS, hp, g, eBuildSlice, srcRows, srcOk, chunk]
    refine loopP_inv (fun k : Nat => ⟨24, tl [(1, .optr 0 0 0 0), (4, .osl 1 0), (11, I x.cls.length), (12, I k)], [⟨35, 9, 0, [[.v (.string x.name), .sl (tR x.cls), .sl (iR x.par), .sl (iR x.fst), .sl (iR x.nx), .sl (iR x.en), .sl (tR x.fil), .sl (iR x.tgt), I x.dflt]], true, true, none⟩, iOb (dpK x k)]⟩) (fun k => k ≤ x.cls.length) (fun k => x.cls.length - k) 0 (Nat.zero_le _) ?_ ?_
    · exact Wk.tlN 3 1 4 (by simp [upd]) (by simp [hold, upd, tl_cons])
    intro k hk
    by_cases h : k < x.cls.length
    · have hw := w64n (show k < 4611686018427387904 by omega)
      have hS := dpK_succ x k
      have hln := dpK_len x k
      obtain ⟨L, hL⟩ : ∃ L, dpK x k = L := ⟨_, rfl⟩
      rw [hL] at hS hln
      rw [hL]
      obtain ⟨w, hww⟩ : ∃ w, hop x.par (k : Int) = w := ⟨_, rfl⟩
      rw [hww] at hS
      simp -implicitDefEqProofs [List.lookup_cons, eS, h, F95, G, hww, iOb, eAppend, eBuildSlice, srcRows, srcOk, chunk]
      refine ⟨by omega, by omega, k + 1, by omega, by omega, ?_⟩
      rw [snocI, hS]
      refine Wk.tlP [0, 1] (by simp [pickOk, -List.all_eq_true, iR_ok, ok0]) ?_ ?_
      · simp [pickObs]
      · simp [hold, upd, tl_cons, rn1, rn0, hw]
        try exact ⟨rfl, rfl⟩
    · have e : k = x.cls.length := by omega
      subst e
      simp -implicitDefEqProofs [List.lookup_cons, eS, iOb]
      refine fin_own [1] (by simp [pickOk, -List.all_eq_true, iR_ok]) ?_
      simp -implicitDefEqProofs [fS, rn0, pickObs, deI, iOb]
end Go.Proofs
