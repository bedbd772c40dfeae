/-
  What is proved here: contracts of what puts a class or a filter in its place, in the reference; when a configuration is in order. Condition: none.
  What is proved here: contracts of the reference's copy of a configuration, and of both checks of its order. Condition: none.
-/
import Derived.Test.YteleljfnjdlnkaaGreatDoorSoA
import Derived.Test.YteleljfnjdlnkaaGreatDoorSoC
import Derived.Test.YteleljfnjdlnkaaGreatDoorSrt
import Derived.Test.YteleljfnjdlnkaaGreatDoorC2x
namespace Go.Proofs
open Go.Abs Go.Srt
set_option linter.unusedSimpArgs false
set_option linter.unnecessarySimpa false
set_option linter.unusedVariables false
set_option maxHeartbeats 8000000
set_option maxRecDepth 20000


theorem tSCls (l : List Cls) (x : Cls) : tR l ++ [[I x.id, I x.par, I x.rate, I x.ceil, I x.burst, I x.cburst, I x.prio, I x.lim]] = tR (l ++ [x]) := tR_append l [x]
def F57 : Fun := ⟨fun xs => xs = [.sl (tR (deT (xs.getD 0 .top) : List Cls)), .agg (rX (deA (xs.getD 1 .top) : Cls))] ∧ (fun (l : List Cls) (x : Cls) => (l.length ≤ 1048576)) (deT (xs.getD 0 .top) : List Cls) (deA (xs.getD 1 .top) : Cls), fun xs => (fun (l : List Cls) (x : Cls) => ((.osl 0 0, [obCls (insK (fun y : Cls => y.id) x l)]) : X × List Ob)) (deT (xs.getD 0 .top) : List Cls) (deA (xs.getD 1 .top) : Cls)⟩
theorem F57_in {xs : List X} (h : F57.pre xs) : ∃ (l : List Cls) (x : Cls), xs = [.sl (tR l), .agg (rX x)] ∧ (l.length ≤ 1048576) := ⟨_, _, h.1, h.2⟩
theorem F57_res (l : List Cls) (x : Cls) : F57.res [.sl (tR l), .agg (rX x)] = (.osl 0 0, [obCls (insK (fun y : Cls => y.id) x l)]) := by simp [F57]
theorem F57_mk (l : List Cls) (x : Cls) (h : l.length ≤ 1048576) : F57.pre [.sl (tR l), .agg (rX x)] := by simpa [F57] using h
theorem c57 : GenCA K Tryz.prog 57 F57 := by
  refine contractA Tryz.mix K [] [] (by simp) (by simp) Tryz.func57 rfl (by decide) ?_
  intro xs hxs
  obtain ⟨l, x, rfl, hp⟩ := F57_in hxs
  rw [F57_res]
  refine ⟨by rw [Tryz.ntmps57]; simp, ?_⟩
  simp -implicitDefEqProofs [Tryz.f57, List.lookup_cons, and_assoc, pick_and, pick_or, if_and, if_or]
  refine loopP_inv (fun k : Nat => ⟨36, tl [(0, .sl (tR l)), (3, .optr 0 0 0 0), (5, I k)], [⟨58, 8, 0, [rX x], true, true, none⟩]⟩) (fun k => k ≤ l.length ∧ ∀ (j : Nat) (h : j < l.length), j < k → l[j].id < x.id) (fun k => l.length - k) 0 ⟨Nat.zero_le _, fun _ _ h => by omega⟩ (Wk.tl (by simp [hold, upd, tl_cons])) ?_
  rintro k ⟨hk, ha⟩
  have hrg : List.range 8 = [0, 1, 2, 3, 4, 5, 6, 7] := rfl
  have hdk : List.take (l.length - k) (List.drop k l) = List.drop k l := List.take_of_length_le (by simp)
  have fin : (∀ h : k < l.length, ¬ l[k].id < x.id) → posK (fun y : Cls => y.id) x l = k := fun h => posK_of (fun y : Cls => y.id) x l k hk ha h
  by_cases h : k < l.length
  · have hw := w64n (show k < 4611686018427387904 by omega)
    by_cases hlt : l[k].id < x.id
    · simp -implicitDefEqProofs [List.lookup_cons, and_assoc, pick_and, pick_or, if_and, if_or]
      refine drawP_all _ (by decide) ?_
      simp -implicitDefEqProofs [List.lookup_cons, and_assoc, pick_and, pick_or, if_and, if_or, h, hlt, hw]
      refine ⟨k + 1, by omega, fun j hj hjk => ?_, by omega, ?_⟩
      · rcases Nat.lt_or_ge j k with h1 | h1
        · exact ha j hj h1
        · have e : j = k := by omega
          subst e; exact hlt
      · exact Wk.tl (by simp [hold, upd, tl_cons])
    · have hpos := fin fun _ => hlt
      simp -implicitDefEqProofs [List.lookup_cons, and_assoc, pick_and, pick_or, if_and, if_or]
      refine drawP_all _ (by decide) ?_
      simp -implicitDefEqProofs [List.lookup_cons, and_assoc, pick_and, pick_or, if_and, if_or, h, hlt, hw]
      simp [eSlice, bnd, eBuildSlice, eAppend, srcRows, srcOk, chunk, fillX, hk, tR_take, tR_drop]
      refine ⟨tR_rows rfl l, ⟨tR_rows rfl _, by omega, by omega⟩, ?_⟩
      refine drawP_x _ [(0, 0), (1, 0), (2, 0), (3, 0), (4, 0), (5, 0), (6, 0), (7, 1), (8, 2)] [3, 7] (by decide) ?_
      simp -implicitDefEqProofs [List.lookup_cons, and_assoc, pick_and, pick_or, if_and, if_or, eSlice, bnd, eBSD, eBuildSlice, eAppend, srcRows, srcOk, chunk, fillX, isV, hk, tR_take, tR_drop, tSCls, hrg, hdk]
      refine ⟨by omega, by omega, tR_rows rfl l, tR_rows rfl _, by omega, by omega, fin_own [1] (by simp [pickOk, -List.all_eq_true, tR_ok]) ?_⟩
      simp -implicitDefEqProofs [pur2_i, pur2_b, pur2_s, pur2_nil, pur2_sl, pur2_tup, rn2_tup, rn2_agg, rn2_osl, rn1_v, rn1_osl, rn1_agg, rn0_v, rn0_sl, rn0, pickObs, pur_v, pur_b, pur_s, pur_nil, pur_sl, deI, deIs_sl, obCls, insK, hpos]
  · have hkl : k = l.length := by omega
    have hpos := fin fun h' => absurd h' h
    simp -implicitDefEqProofs [List.lookup_cons, and_assoc, pick_and, pick_or, if_and, if_or]
    refine drawP_all _ (by decide) ?_
    simp -implicitDefEqProofs [List.lookup_cons, and_assoc, pick_and, pick_or, if_and, if_or, h]
    simp [eSlice, bnd, eBuildSlice, eAppend, srcRows, srcOk, chunk, fillX, hk, tR_take, tR_drop]
    refine ⟨tR_rows rfl l, ⟨tR_rows rfl _, by omega, by omega⟩, ?_⟩
    refine drawP_x _ [(0, 0), (1, 0), (2, 0), (3, 0), (4, 0), (5, 0), (6, 0), (7, 1), (8, 2)] [3, 7] (by decide) ?_
    simp -implicitDefEqProofs [List.lookup_cons, and_assoc, pick_and, pick_or, if_and, if_or, eSlice, bnd, eBSD, eBuildSlice, eAppend, srcRows, srcOk, chunk, fillX, isV, hk, tR_take, tR_drop, tSCls, hrg, hdk]
    refine ⟨by omega, by omega, tR_rows rfl l, tR_rows rfl _, by omega, by omega, fin_own [1] (by simp [pickOk, -List.all_eq_true, tR_ok]) ?_⟩
    simp -implicitDefEqProofs [pur2_i, pur2_b, pur2_s, pur2_nil, pur2_sl, pur2_tup, rn2_tup, rn2_agg, rn2_osl, rn1_v, rn1_osl, rn1_agg, rn0_v, rn0_sl, rn0, pickObs, pur_v, pur_b, pur_s, pur_nil, pur_sl, deI, deIs_sl, obCls, insK, hpos]

theorem tSFil (l : List Fil) (x : Fil) : tR l ++ [[I x.prio, I x.field, I x.mask, I x.value, I x.target]] = tR (l ++ [x]) := tR_append l [x]
def F55 : Fun := ⟨fun xs => xs = [.sl (tR (deT (xs.getD 0 .top) : List Fil)), .agg (rX (deA (xs.getD 1 .top) : Fil))] ∧ (fun (l : List Fil) (x : Fil) => (l.length ≤ 1048576)) (deT (xs.getD 0 .top) : List Fil) (deA (xs.getD 1 .top) : Fil), fun xs => (fun (l : List Fil) (x : Fil) => ((.osl 0 0, [obFil (insK (fun y : Fil => y.prio) x l)]) : X × List Ob)) (deT (xs.getD 0 .top) : List Fil) (deA (xs.getD 1 .top) : Fil)⟩
theorem F55_in {xs : List X} (h : F55.pre xs) : ∃ (l : List Fil) (x : Fil), xs = [.sl (tR l), .agg (rX x)] ∧ (l.length ≤ 1048576) := ⟨_, _, h.1, h.2⟩
theorem F55_res (l : List Fil) (x : Fil) : F55.res [.sl (tR l), .agg (rX x)] = (.osl 0 0, [obFil (insK (fun y : Fil => y.prio) x l)]) := by simp [F55]
theorem F55_mk (l : List Fil) (x : Fil) (h : l.length ≤ 1048576) : F55.pre [.sl (tR l), .agg (rX x)] := by simpa [F55] using h
theorem c55 : GenCA K Tryz.prog 55 F55 := by
  refine contractA Tryz.mix K [] [] (by simp) (by simp) Tryz.func55 rfl (by decide) ?_
  intro xs hxs
  obtain ⟨l, x, rfl, hp⟩ := F55_in hxs
  rw [F55_res]
  refine ⟨by rw [Tryz.ntmps55]; simp, ?_⟩
  simp -implicitDefEqProofs [Tryz.f55, List.lookup_cons, and_assoc, pick_and, pick_or, if_and, if_or]
  refine loopP_inv (fun k : Nat => ⟨36, tl [(0, .sl (tR l)), (3, .optr 0 0 0 0), (5, I k)], [⟨59, 5, 0, [rX x], true, true, none⟩]⟩) (fun k => k ≤ l.length ∧ ∀ (j : Nat) (h : j < l.length), j < k → l[j].prio < x.prio) (fun k => l.length - k) 0 ⟨Nat.zero_le _, fun _ _ h => by omega⟩ (Wk.tl (by simp [hold, upd, tl_cons])) ?_
  rintro k ⟨hk, ha⟩
  have hrg : List.range 5 = [0, 1, 2, 3, 4] := rfl
  have hdk : List.take (l.length - k) (List.drop k l) = List.drop k l := List.take_of_length_le (by simp)
  have fin : (∀ h : k < l.length, ¬ l[k].prio < x.prio) → posK (fun y : Fil => y.prio) x l = k := fun h => posK_of (fun y : Fil => y.prio) x l k hk ha h
  by_cases h : k < l.length
  · have hw := w64n (show k < 4611686018427387904 by omega)
    by_cases hlt : l[k].prio < x.prio
    · simp -implicitDefEqProofs [List.lookup_cons, and_assoc, pick_and, pick_or, if_and, if_or]
      refine drawP_all _ (by decide) ?_
      simp -implicitDefEqProofs [List.lookup_cons, and_assoc, pick_and, pick_or, if_and, if_or, h, hlt, hw]
      refine ⟨k + 1, by omega, fun j hj hjk => ?_, by omega, ?_⟩
      · rcases Nat.lt_or_ge j k with h1 | h1
        · exact ha j hj h1
        · have e : j = k := by omega
          subst e; exact hlt
      · exact Wk.tl (by simp [hold, upd, tl_cons])
    · have hpos := fin fun _ => hlt
      simp -implicitDefEqProofs [List.lookup_cons, and_assoc, pick_and, pick_or, if_and, if_or]
      refine drawP_all _ (by decide) ?_
      simp -implicitDefEqProofs [List.lookup_cons, and_assoc, pick_and, pick_or, if_and, if_or, h, hlt, hw]
      simp [eSlice, bnd, eBuildSlice, eAppend, srcRows, srcOk, chunk, fillX, hk, tR_take, tR_drop]
      refine ⟨tR_rows rfl l, ⟨tR_rows rfl _, by omega, by omega⟩, ?_⟩
      refine drawP_x _ [(0, 0), (1, 0), (2, 0), (3, 0), (4, 0), (5, 0), (6, 0), (7, 1), (8, 2)] [3, 7] (by decide) ?_
      simp -implicitDefEqProofs [List.lookup_cons, and_assoc, pick_and, pick_or, if_and, if_or, eSlice, bnd, eBSD, eBuildSlice, eAppend, srcRows, srcOk, chunk, fillX, isV, hk, tR_take, tR_drop, tSFil, hrg, hdk]
      refine ⟨by omega, by omega, tR_rows rfl l, tR_rows rfl _, by omega, by omega, fin_own [1] (by simp [pickOk, -List.all_eq_true, tR_ok]) ?_⟩
      simp -implicitDefEqProofs [pur2_i, pur2_b, pur2_s, pur2_nil, pur2_sl, pur2_tup, rn2_tup, rn2_agg, rn2_osl, rn1_v, rn1_osl, rn1_agg, rn0_v, rn0_sl, rn0, pickObs, pur_v, pur_b, pur_s, pur_nil, pur_sl, deI, deIs_sl, obFil, insK, hpos]
  · have hkl : k = l.length := by omega
    have hpos := fin fun h' => absurd h' h
    simp -implicitDefEqProofs [List.lookup_cons, and_assoc, pick_and, pick_or, if_and, if_or]
    refine drawP_all _ (by decide) ?_
    simp -implicitDefEqProofs [List.lookup_cons, and_assoc, pick_and, pick_or, if_and, if_or, h]
    simp [eSlice, bnd, eBuildSlice, eAppend, srcRows, srcOk, chunk, fillX, hk, tR_take, tR_drop]
    refine ⟨tR_rows rfl l, ⟨tR_rows rfl _, by omega, by omega⟩, ?_⟩
    refine drawP_x _ [(0, 0), (1, 0), (2, 0), (3, 0), (4, 0), (5, 0), (6, 0), (7, 1), (8, 2)] [3, 7] (by decide) ?_
    simp -implicitDefEqProofs [List.lookup_cons, and_assoc, pick_and, pick_or, if_and, if_or, eSlice, bnd, eBSD, eBuildSlice, eAppend, srcRows, srcOk, chunk, fillX, isV, hk, tR_take, tR_drop, tSFil, hrg, hdk]
    refine ⟨by omega, by omega, tR_rows rfl l, tR_rows rfl _, by omega, by omega, fin_own [1] (by simp [pickOk, -List.all_eq_true, tR_ok]) ?_⟩
    simp -implicitDefEqProofs [pur2_i, pur2_b, pur2_s, pur2_nil, pur2_sl, pur2_tup, rn2_tup, rn2_agg, rn2_osl, rn1_v, rn1_osl, rn1_agg, rn0_v, rn0_sl, rn0, pickObs, pur_v, pur_b, pur_s, pur_nil, pur_sl, deI, deIs_sl, obFil, insK, hpos]
end Go.Proofs

namespace Go.Proofs
open Go.Abs Go.Srt
set_option linter.unusedSimpArgs false
set_option linter.unnecessarySimpa false
set_option linter.unusedVariables false
set_option maxHeartbeats 8000000
set_option maxRecDepth 20000

def F53 : Fun := ⟨fun xs => xs = [.agg (cX (deC (xs.getD 0 .top) : Cfg))] ∧ (fun (c : Cfg) => (okC c)) (deC (xs.getD 0 .top) : Cfg), fun xs => (fun (c : Cfg) => ((.agg (cX c), []) : X × List Ob)) (deC (xs.getD 0 .top) : Cfg)⟩
theorem F53_in {xs : List X} (h : F53.pre xs) : ∃ (c : Cfg), xs = [.agg (cX c)] ∧ (okC c) := ⟨_, h.1, h.2⟩
theorem F53_res (c : Cfg) : F53.res [.agg (cX c)] = (.agg (cX c), []) := by simp [F53]
theorem F53_mk (c : Cfg) (h : okC c) : F53.pre [.agg (cX c)] := by simpa [F53] using h
theorem c53 : GenCA K Tryz.prog 53 F53 := by
  refine contractA Tryz.mix K [] [] (by simp) (by simp) Tryz.func53 rfl (by decide) ?_
  intro xs hxs
  obtain ⟨c, rfl, hp⟩ := F53_in hxs
  rw [F53_res]
  refine ⟨by rw [Tryz.ntmps53]; simp, ?_⟩
  obtain ⟨h1, h2, h3⟩ := hp
  simp -implicitDefEqProofs [Tryz.f53, List.lookup_cons, and_assoc, pick_and, pick_or, if_and, if_or]
  refine drawP_cut _ 13 (by decide) ?_
  simp -implicitDefEqProofs [List.lookup_cons, and_assoc, pick_and, pick_or, if_and, if_or, eBSD, eAppend0, fillX, chunk]
  refine ⟨tR_rows rfl _, by omega, by omega, tR_rows rfl _, by omega, by omega, ?_⟩
  refine fin_pure (by simp) ?_
  simp -implicitDefEqProofs [pur2_i, pur2_b, pur2_s, pur2_nil, pur2_sl, pur2_tup, rn2_tup, rn2_agg, rn2_osl, rn1_v, rn1_osl, rn1_agg, rn0_v, rn0_sl, rn0, pickObs, pur_v, pur_b, pur_s, pur_nil, pur_sl, deI, deIs_sl]
def upI_ (l : List Cls) (i : Nat) : Bool := decide (i = 0) || decide ((atC l (i - 1)).id < (atC l i).id)
def upP_ (l : List Fil) (i : Nat) : Bool := decide (i = 0) || decide ((atF l (i - 1)).prio < (atF l i).prio)
def ordB (c : Cfg) : Bool := (List.range c.cls.length).all (upI_ c.cls) && (List.range c.fil.length).all (upP_ c.fil) && decide (c.cls.length ≤ 24) && decide (c.fil.length ≤ 16)
theorem all_stepR (p : Nat → Bool) (k : Nat) (h1 : (List.range k).all p = true) (h2 : p k = true) : (List.range (k + 1)).all p = true := by
  rw [List.range_succ, List.all_append, h1]; simp [h2]
theorem all_badR (p : Nat → Bool) (n k : Nat) (hk : k < n) (h2 : p k = false) : (List.range n).all p = false := by
  rw [List.all_eq_false]
  exact ⟨k, List.mem_range.2 hk, by simp [h2]⟩
def F58 : Fun := ⟨fun xs => xs = [.agg (cX (deC (xs.getD 0 .top) : Cfg))] ∧ (fun (c : Cfg) => (okC c)) (deC (xs.getD 0 .top) : Cfg), fun xs => (fun (c : Cfg) => ((B (ordB c), []) : X × List Ob)) (deC (xs.getD 0 .top) : Cfg)⟩
theorem F58_in {xs : List X} (h : F58.pre xs) : ∃ (c : Cfg), xs = [.agg (cX c)] ∧ (okC c) := ⟨_, h.1, h.2⟩
theorem F58_res (c : Cfg) : F58.res [.agg (cX c)] = (B (ordB c), []) := by simp [F58]
theorem F58_mk (c : Cfg) (h : okC c) : F58.pre [.agg (cX c)] := by simpa [F58] using h
theorem c58 : GenCA K Tryz.prog 58 F58 := by
  refine contractA Tryz.mix K [] [] (by simp) (by simp) Tryz.func58 rfl (by decide) ?_
  intro xs hxs
  obtain ⟨c, rfl, hp⟩ := F58_in hxs
  rw [F58_res]
  refine ⟨by rw [Tryz.ntmps58]; simp, ?_⟩
  obtain ⟨hz1, hz2, hz3⟩ := hp
  simp -implicitDefEqProofs [Tryz.f58, List.lookup_cons, and_assoc, pick_and, pick_or, if_and, if_or]
  refine loopP_inv (fun k : Nat => ⟨63, tl [(1, .optr 0 0 0 0), (8, .sl (tR c.cls)), (9, I c.cls.length), (10, I k)], [cBx c]⟩) (fun k => k ≤ c.cls.length ∧ (List.range k).all (upI_ c.cls) = true) (fun k => c.cls.length - k) 0 ⟨Nat.zero_le _, rfl⟩ (Wk.tl (by simp [hold, upd, tl_cons, cBx])) ?_
  rintro k ⟨hk, ha⟩
  by_cases h : k < c.cls.length
  · have hw := w64n (show k < 4611686018427387904 by omega)
    simp -implicitDefEqProofs [List.lookup_cons, and_assoc, pick_and, pick_or, if_and, if_or, h, cBx]
    refine drawP_all _ (by decide) ?_
    rcases Nat.eq_zero_or_pos k with rfl | hpos
    · have hs := all_stepR (upI_ c.cls) 0 ha rfl
      simp -implicitDefEqProofs [List.lookup_cons, and_assoc, pick_and, pick_or, if_and, if_or, h, hw]
      refine ⟨1, by omega, by simpa using hs, by omega, ?_⟩
      exact Wk.tlD (m := 1) rfl (by simp [hold, upd, tl_cons]; decide) (by simp [okL_cons, okL_nil, ok1, ok0]) (okH_cBx _ _ _ (by simp [okH_nil]))
    · obtain ⟨q, hq⟩ : ∃ q, q = k - 1 := ⟨_, rfl⟩
      have hqk : q < c.cls.length := by omega
      have v1 : IntKind.i64.wrap ((k : Int) - 1) = (q : Int) := by rw [w64 (by omega) (by omega)]; omega
      have hk0 : (0 : Int) < k := by omega
      by_cases hlt : c.cls[q].id < c.cls[k].id
      · have hs := all_stepR (upI_ c.cls) k ha (by simp [upI_, ← hq, atC_eq h, atC_eq hqk, hlt])
        have hn : ¬ c.cls[k].id ≤ c.cls[q].id := by omega
        simp -implicitDefEqProofs [List.lookup_cons, and_assoc, pick_and, pick_or, if_and, if_or, h, hw, v1, hpos, hqk, hlt, hn]
        refine ⟨k + 1, by omega, by simpa using hs, by omega, ?_⟩
        exact Wk.tlD (m := 1) rfl (by simp [hold, upd, tl_cons]) (by simp [okL_cons, okL_nil, ok1, ok0]) (okH_cBx _ _ _ (by simp [okH_nil]))
      · have hs := all_badR (upI_ c.cls) c.cls.length k h (by simp [upI_, ← hq, atC_eq h, atC_eq hqk]; omega)
        have hn : c.cls[k].id ≤ c.cls[q].id := by omega
        simp -implicitDefEqProofs [List.lookup_cons, and_assoc, pick_and, pick_or, if_and, if_or, h, hw, v1, hpos, hqk, hlt, hn]
        refine fin_pure (by simp) ?_
        simp -implicitDefEqProofs [pur2_i, pur2_b, pur2_s, pur2_nil, pur2_sl, pur2_tup, rn2_tup, rn2_agg, rn2_osl, rn1_v, rn1_osl, rn1_agg, rn0_v, rn0_sl, rn0, pickObs, pur_v, pur_b, pur_s, pur_nil, pur_sl, deI, deIs_sl, ordB, hs]
  have ek : k = c.cls.length := by omega
  subst ek
  simp -implicitDefEqProofs [List.lookup_cons, and_assoc, pick_and, pick_or, if_and, if_or, h, cBx]
  refine loopP_inv (fun k : Nat => ⟨63, tl [(1, .optr 0 0 0 0), (31, .sl (tR c.fil)), (32, I c.fil.length), (33, I k)], [cBx c]⟩) (fun k => k ≤ c.fil.length ∧ (List.range k).all (upP_ c.fil) = true) (fun k => c.fil.length - k) 0 ⟨Nat.zero_le _, rfl⟩ (Wk.tl (by simp [hold, upd, tl_cons, cBx])) ?_
  rintro k ⟨hk2, hb⟩
  by_cases h : k < c.fil.length
  · have hw := w64n (show k < 4611686018427387904 by omega)
    simp -implicitDefEqProofs [List.lookup_cons, and_assoc, pick_and, pick_or, if_and, if_or, h, cBx]
    refine drawP_all _ (by decide) ?_
    rcases Nat.eq_zero_or_pos k with rfl | hpos
    · have hs := all_stepR (upP_ c.fil) 0 hb rfl
      simp -implicitDefEqProofs [List.lookup_cons, and_assoc, pick_and, pick_or, if_and, if_or, h, hw]
      refine ⟨1, by omega, by simpa using hs, by omega, ?_⟩
      exact Wk.tlD (m := 1) rfl (by simp [hold, upd, tl_cons]; decide) (by simp [okL_cons, okL_nil, ok1, ok0]) (okH_cBx _ _ _ (by simp [okH_nil]))
    · obtain ⟨q, hq⟩ : ∃ q, q = k - 1 := ⟨_, rfl⟩
      have hqk : q < c.fil.length := by omega
      have v1 : IntKind.i64.wrap ((k : Int) - 1) = (q : Int) := by rw [w64 (by omega) (by omega)]; omega
      have hk0 : (0 : Int) < k := by omega
      by_cases hlt : c.fil[q].prio < c.fil[k].prio
      · have hs := all_stepR (upP_ c.fil) k hb (by simp [upP_, ← hq, atF_eq h, atF_eq hqk, hlt])
        have hn : ¬ c.fil[k].prio ≤ c.fil[q].prio := by omega
        simp -implicitDefEqProofs [List.lookup_cons, and_assoc, pick_and, pick_or, if_and, if_or, h, hw, v1, hpos, hqk, hlt, hn]
        refine ⟨k + 1, by omega, by simpa using hs, by omega, ?_⟩
        exact Wk.tlD (m := 1) rfl (by simp [hold, upd, tl_cons]) (by simp [okL_cons, okL_nil, ok1, ok0]) (okH_cBx _ _ _ (by simp [okH_nil]))
      · have hs := all_badR (upP_ c.fil) c.fil.length k h (by simp [upP_, ← hq, atF_eq h, atF_eq hqk]; omega)
        have hn : c.fil[k].prio ≤ c.fil[q].prio := by omega
        simp -implicitDefEqProofs [List.lookup_cons, and_assoc, pick_and, pick_or, if_and, if_or, h, hw, v1, hpos, hqk, hlt, hn]
        refine fin_pure (by simp) ?_
        simp -implicitDefEqProofs [pur2_i, pur2_b, pur2_s, pur2_nil, pur2_sl, pur2_tup, rn2_tup, rn2_agg, rn2_osl, rn1_v, rn1_osl, rn1_agg, rn0_v, rn0_sl, rn0, pickObs, pur_v, pur_b, pur_s, pur_nil, pur_sl, deI, deIs_sl, ordB, hs]
  have ek : k = c.fil.length := by omega
  subst ek
  simp -implicitDefEqProofs [List.lookup_cons, and_assoc, pick_and, pick_or, if_and, if_or, h, cBx]
  by_cases l1 : c.cls.length ≤ 24
  · have l1' : (c.cls.length : Int) ≤ 24 := by omega
    simp -implicitDefEqProofs [List.lookup_cons, and_assoc, pick_and, pick_or, if_and, if_or, l1, l1']
    refine fin_pure (by simp) ?_
    simp -implicitDefEqProofs [pur2_i, pur2_b, pur2_s, pur2_nil, pur2_sl, pur2_tup, rn2_tup, rn2_agg, rn2_osl, rn1_v, rn1_osl, rn1_agg, rn0_v, rn0_sl, rn0, pickObs, pur_v, pur_b, pur_s, pur_nil, pur_sl, deI, deIs_sl, ordB, ha, hb, l1]
    omega
  · have l1' : ¬ (c.cls.length : Int) ≤ 24 := by omega
    simp -implicitDefEqProofs [List.lookup_cons, and_assoc, pick_and, pick_or, if_and, if_or, l1, l1']
    refine fin_pure (by simp) ?_
    simp -implicitDefEqProofs [pur2_i, pur2_b, pur2_s, pur2_nil, pur2_sl, pur2_tup, rn2_tup, rn2_agg, rn2_osl, rn1_v, rn1_osl, rn1_agg, rn0_v, rn0_sl, rn0, pickObs, pur_v, pur_b, pur_s, pur_nil, pur_sl, deI, deIs_sl, ordB, ha, hb, l1]
end Go.Proofs
