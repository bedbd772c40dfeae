/-
  What is proved here: contracts of leaves, depths and what is inside of a loaded configuration. Condition: none.
-/
import Derived.Test.YtdpmlddmdogggaaGreatDoorIL9fj
namespace Go.Proofs
open Go.Abs
set_option linter.unusedSimpArgs false
set_option linter.unnecessarySimpa false
set_option linter.unusedVariables false
set_option maxHeartbeats 16000000
set_option maxRecDepth 20000
def lvK (x : Ldd) (k : Nat) : List Int := ((List.range k).filter fun i => decide (x.fst.getD i (-1) < 0)).map fun i : Nat => (i : Int)
theorem lvK_succ (x : Ldd) (k : Nat) : lvK x (k + 1) = lvK x k ++ (if x.fst.getD k (-1) < 0 then [(k : Int)] else []) := by
  unfold lvK
  rw [List.range_succ, List.filter_append, List.map_append]
  congr 1
  rw [List.filter_cons]
  by_cases h : x.fst.getD k (-1) < 0
  · rw [if_pos h, if_pos (decide_eq_true h)]; rfl
  · rw [if_neg h, if_neg (by rw [decide_eq_false h]; decide)]; rfl
theorem lvK_len (x : Ldd) (k : Nat) : (lvK x k).length ≤ k := by
  unfold lvK
  rw [List.length_map]
  exact Nat.le_trans (List.length_filter_le _ _) (by simp)
def F97 : Fun := ⟨fun xs => xs = [.agg (lX (deL (xs.getD 0 .top) : Ldd))] ∧ (fun (x : Ldd) => (LdG x)) (deL (xs.getD 0 .top) : Ldd), fun xs => (fun (x : Ldd) => ((.osl 0 0, [iOb (lvK x x.cls.length)]) : X × List Ob)) (deL (xs.getD 0 .top) : Ldd)⟩
theorem F97_in {xs : List X} (h : F97.pre xs) : ∃ (x : Ldd), xs = [.agg (lX x)] ∧ (LdG x) := ⟨_, h.1, h.2⟩
theorem F97_res (x : Ldd) : F97.res [.agg (lX x)] = (.osl 0 0, [iOb (lvK x x.cls.length)]) := by simp [F97]
theorem c97 : GenCA K Tryz.prog 97 F97 := by
  refine contractA Tryz.mix K [] [] (by simp) (by simp) Tryz.func97 rfl (by decide) ?_
  intro xs hxs
  obtain ⟨x, rfl, hp⟩ := F97_in hxs
  rw [F97_res]
  refine ⟨by rw [Tryz.ntmps97]; simp, ?_⟩
  have G := hp
  have hn := G.n
  simp -implicitDefEqProofs [Tryz.f97, List.lookup_cons, eS, eBuildSlice, srcRows, srcOk, chunk]
  refine loopP_inv (fun k : Nat => ⟨24, tl [(1, .optr 0 0 0 0), (3, .osl 1 0), (8, I x.cls.length), (9, I k)], [⟨35, 9, 0, [[.v (.string x.name), .sl (tR x.cls), .sl (iR x.par), .sl (iR x.fst), .sl (iR x.nx), .sl (iR x.en), .sl (tR x.fil), .sl (iR x.tgt), I x.dflt]], true, true, none⟩, iOb (lvK x k)]⟩) (fun k => k ≤ x.cls.length) (fun k => x.cls.length - k) 0 (Nat.zero_le _) ?_ ?_
  · exact Wk.tl (by simp [hold, upd, tl_cons, iOb, iR_nil, lvK])
  intro k hk
  by_cases h : k < x.cls.length
  · have hw := w64n (show k < 4611686018427387904 by omega)
    have hf : k < x.fst.length := by rw [G.lf]; exact h
    have hS := lvK_succ x k
    have hln := lvK_len x k
    rw [getD_at hf] at hS
    obtain ⟨L, hL⟩ : ∃ L, lvK x k = L := ⟨_, rfl⟩
    rw [hL] at hS hln
    rw [hL]
    by_cases he : x.fst[k] < 0
    · rw [if_pos he] at hS
      have he2 : ¬ 0 ≤ x.fst[k] := by omega
      simp -implicitDefEqProofs [List.lookup_cons, eS, h, hf, he, he2, G, iOb, eAppend, eBuildSlice, srcRows, srcOk, chunk]
      refine ⟨by omega, by omega, k + 1, by omega, by omega, ?_⟩
      rw [snocI, hS]
      refine Wk.tlP [0, 1] (by simp [pickOk, -List.all_eq_true, iR_ok, ok0]) ?_ ?_
      · simp [pickObs]
      · simp [hold, upd, tl_cons, rn1, rn0, hw]
        try exact ⟨rfl, rfl⟩
    · rw [if_neg he, List.append_nil] at hS
      have he' : 0 ≤ x.fst[k] := by omega
      simp -implicitDefEqProofs [List.lookup_cons, eS, h, hf, he, he', G, iOb, eAppend, eBuildSlice, srcRows, srcOk, chunk]
      refine ⟨k + 1, by omega, by omega, ?_⟩
      rw [hS]
      exact Wk.tl (by simp [hold, upd, tl_cons, hw])
  · have e : k = x.cls.length := by omega
    subst e
    simp -implicitDefEqProofs [List.lookup_cons, eS, iOb]
    refine fin_own [1] (by simp [pickOk, -List.all_eq_true, iR_ok]) ?_
    simp -implicitDefEqProofs [fS, rn0, pickObs, deI, iOb]
theorem c96 : GenCA K Tryz.prog 96 F97 := by
  refine contractA Tryz.mix K [(109, F109)] [] (by simp [c109]) (by simp) Tryz.func96 rfl (by decide) ?_
  intro xs hxs
  obtain ⟨x, rfl, hp⟩ := F97_in hxs
  rw [F97_res]
  refine ⟨by rw [Tryz.ntmps96]; simp, ?_⟩
  have G := hp
  have hn := G.n
  simp -implicitDefEqProofs [Tryz.f96, F109, List.lookup_cons, eS, eBuildSlice, srcRows, srcOk, chunk]
  refine loopP_inv (fun k : Nat => ⟨20, tl [(1, .optr 0 0 0 0), (3, .osl 1 0), (7, I x.cls.length), (8, I k)], [⟨35, 9, 0, [[.v (.string x.name), .sl (tR x.cls), .sl (iR x.par), .sl (iR x.fst), .sl (iR x.nx), .sl (iR x.en), .sl (tR x.fil), .sl (iR x.tgt), I x.dflt]], true, true, none⟩, iOb (lvK x k)]⟩) (fun k => k ≤ x.cls.length) (fun k => x.cls.length - k) 0 (Nat.zero_le _) ?_ ?_
  · exact Wk.tlN 3 1 3 (by simp [upd]) (by simp [hold, upd, tl_cons])
  intro k hk
  by_cases h : k < x.cls.length
  · have hw := w64n (show k < 4611686018427387904 by omega)
    have hf : k < x.fst.length := by rw [G.lf]; exact h
    have hS := lvK_succ x k
    have hln := lvK_len x k
    rw [getD_at hf] at hS
    obtain ⟨L, hL⟩ : ∃ L, lvK x k = L := ⟨_, rfl⟩
    rw [hL] at hS hln
    rw [hL]
    by_cases he : x.fst[k] < 0
    · rw [if_pos he] at hS
      have he2 : ¬ 0 ≤ x.fst[k] := by omega
      simp -implicitDefEqProofs [List.lookup_cons, eS, h, hf, he, he2, G, F109, iOb, eAppend, eBuildSlice, srcRows, srcOk, chunk]
      refine ⟨by omega, by omega, k + 1, by omega, by omega, ?_⟩
      rw [snocI, hS]
      refine Wk.tlP [0, 1] (by simp [pickOk, -List.all_eq_true, iR_ok, ok0]) ?_ ?_
      · simp [pickObs]
      · simp [hold, upd, tl_cons, rn1, rn0, hw]
        try exact ⟨rfl, rfl⟩
    · rw [if_neg he, List.append_nil] at hS
      have he' : 0 ≤ x.fst[k] := by omega
      simp -implicitDefEqProofs [List.lookup_cons, eS, h, hf, he, he', G, F109, iOb, eAppend, eBuildSlice, srcRows, srcOk, chunk]
      refine ⟨k + 1, by omega, by omega, ?_⟩
      rw [hS]
      exact Wk.tl (by simp [hold, upd, tl_cons, hw])
  · have e : k = x.cls.length := by omega
    subst e
    simp -implicitDefEqProofs [List.lookup_cons, eS, iOb]
    refine fin_own [1] (by simp [pickOk, -List.all_eq_true, iR_ok]) ?_
    simp -implicitDefEqProofs [fS, rn0, pickObs, deI, iOb]
def F53 : Fun := ⟨fun xs => xs = [.agg (lX (deL (xs.getD 0 .top) : Ldd))] ∧ (fun (x : Ldd) => (okM x)) (deL (xs.getD 0 .top) : Ldd), fun xs => (fun (x : Ldd) => ((ansI (isLd x) (lvK x x.cls.length)) : X × List Ob)) (deL (xs.getD 0 .top) : Ldd)⟩
theorem F53_in {xs : List X} (h : F53.pre xs) : ∃ (x : Ldd), xs = [.agg (lX x)] ∧ (okM x) := ⟨_, h.1, h.2⟩
theorem F53_res (x : Ldd) : F53.res [.agg (lX x)] = (ansI (isLd x) (lvK x x.cls.length)) := by simp [F53]
theorem F53_mk (x : Ldd) (h : okM x) : F53.pre [.agg (lX x)] := by simpa [F53] using h
theorem c53 : GenCA K Tryz.prog 53 F53 := by
  refine contractA Tryz.mix K [(33, F33), (97, F97)] [] (by simp [c33, c97]) (by simp) Tryz.func53 rfl (by decide) ?_
  intro xs hxs
  obtain ⟨x, rfl, hp⟩ := F53_in hxs
  rw [F53_res]
  refine ⟨by rw [Tryz.ntmps53]; simp, ?_⟩
  cases g : isLd x with
  | false =>
    rw [ansI_f]
    simp -implicitDefEqProofs [Tryz.f53, F33, F97, List.lookup_cons, eS, hp, g]
    refine fin_pure (by simp) ?_
    simp -implicitDefEqProofs [fS, rn0, pickObs, deI]
  | true =>
    rw [ansI_t]
    have G := isLd_G g
    simp -implicitDefEqProofs [Tryz.f53, F33, F97, List.lookup_cons, eS, hp, g, G, iOb]
    refine fin_own [1] (by simp [pickOk, -List.all_eq_true, iR_ok]) ?_
    simp -implicitDefEqProofs [fS, rn0, pickObs, deI, iOb]
theorem c52 : GenCA K Tryz.prog 52 F53 := by
  refine contractA Tryz.mix K [(61, F33), (96, F97)] [] (by simp [c61, c96]) (by simp) Tryz.func52 rfl (by decide) ?_
  intro xs hxs
  obtain ⟨x, rfl, hp⟩ := F53_in hxs
  rw [F53_res]
  refine ⟨by rw [Tryz.ntmps52]; simp, ?_⟩
  cases g : isLd x with
  | false =>
    rw [ansI_f]
    simp -implicitDefEqProofs [Tryz.f52, F33, F97, List.lookup_cons, eS, hp, g]
    refine fin_pure (by simp) ?_
    simp -implicitDefEqProofs [fS, rn0, pickObs, deI]
  | true =>
    rw [ansI_t]
    have G := isLd_G g
    simp -implicitDefEqProofs [Tryz.f52, F33, F97, List.lookup_cons, eS, hp, g, G, iOb]
    refine fin_own [1] (by simp [pickOk, -List.all_eq_true, iR_ok]) ?_
    simp -implicitDefEqProofs [fS, rn0, pickObs, deI, iOb]
end Go.Proofs
