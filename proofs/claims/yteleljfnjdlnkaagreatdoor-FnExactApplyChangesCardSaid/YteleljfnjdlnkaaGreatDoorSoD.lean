/-
  What is proved here: contracts of the library's Clone and Delete at Cls. Condition: none.
  What is proved here: contracts of the library's Clone and Delete at Fil. Condition: none.
-/
import Derived.Test.YteleljfnjdlnkaaGreatDoorSoA
import Derived.Test.YteleljfnjdlnkaaGreatDoorSoC
namespace Go.Proofs
open Go.Abs Go.Srt
set_option linter.unusedSimpArgs false
set_option linter.unnecessarySimpa false
set_option linter.unusedVariables false
set_option maxHeartbeats 8000000
set_option maxRecDepth 20000

def F63 : Fun := ⟨fun xs => xs = [.sl (tR (deT (xs.getD 0 .top) : List Cls))] ∧ (fun (l : List Cls) => (l.length ≤ 1048576)) (deT (xs.getD 0 .top) : List Cls), fun xs => (fun (l : List Cls) => ((.osl 0 0, [obCls l]) : X × List Ob)) (deT (xs.getD 0 .top) : List Cls)⟩
theorem F63_in {xs : List X} (h : F63.pre xs) : ∃ (l : List Cls), xs = [.sl (tR l)] ∧ (l.length ≤ 1048576) := ⟨_, h.1, h.2⟩
theorem F63_res (l : List Cls) : F63.res [.sl (tR l)] = (.osl 0 0, [obCls l]) := by simp [F63]
theorem F63_mk (l : List Cls) (h : l.length ≤ 1048576) : F63.pre [.sl (tR l)] := by simpa [F63] using h
theorem c63 : GenCA K Tryz.prog 63 F63 := by
  refine contractAS Tryz.mix K [] [] [] (by simp) (by simp) (by simp) Tryz.func63 rfl (by decide) ?_
  intro xs hxs
  obtain ⟨l, rfl, hp⟩ := F63_in hxs
  rw [F63_res]
  refine ⟨by rw [Tryz.ntmps63]; simp, ?_⟩
  simp only [Tryz.f63, bodyOf, Option.getD_some]
  refine Snd.cut (fun s => s = ⟨8, tl [(0, .sl (tR l)), (2, .v (.slice none 0 0))], []⟩) ?_ ?_
  · simp -implicitDefEqProofs [List.lookup_cons, and_assoc, pick_and, pick_or, if_and, if_or]
    exact Wk.tl (by simp [hold, upd, tl_cons])
  rintro s rfl
  refine Snd.seq (Snd.seq (Snd.nilq (rows := tR l) rfl rfl (by simp) (by simp) rfl fun b hb => ?_))
  refine Snd.cond (b := b) rfl (fun h => ?_) (fun h => ?_)
  · have hl : l = [] := by
      rcases l with _ | ⟨x, l⟩
      · rfl
      · have := hb (by simp [tR]); rw [h] at this; cases this
    subst hl
    refine Snd.cut (fun s => s = ⟨8, tl [(2, .osl 0 0)], [obCls []]⟩) ?_ ?_
    · simp -implicitDefEqProofs [List.lookup_cons, and_assoc, pick_and, pick_or, if_and, if_or]
      exact Wk.tlN 58 8 2 (by simp [upd]) (by simp [hold, upd, tl_cons])
    rintro s rfl
    refine Snd.of ?_
    simp -implicitDefEqProofs [List.lookup_cons, and_assoc, pick_and, pick_or, if_and, if_or, obCls]
    refine fin_own [0] (by simp [pickOk, -List.all_eq_true, tR_ok]) ?_
    simp -implicitDefEqProofs [pur2_i, pur2_b, pur2_s, pur2_nil, pur2_sl, pur2_tup, rn2_tup, rn2_agg, rn2_osl, rn1_v, rn1_osl, rn1_agg, rn0_v, rn0_sl, rn0, pickObs, pur_v, pur_b, pur_s, pur_nil, pur_sl, deI, deIs_sl, obCls]
  · refine Snd.of ?_
    simp only [awp_skip, thenP_normal]
    refine Snd.of ?_
    simp -implicitDefEqProofs [List.lookup_cons, and_assoc, pick_and, pick_or, if_and, if_or, eBuildSlice, eAppend, srcRows, srcOk, chunk, put_some]
    refine ⟨tR_rows rfl l, by omega, by omega, fin_own [0] (by simp [pickOk, -List.all_eq_true, tR_ok]) ?_⟩
    simp -implicitDefEqProofs [pur2_i, pur2_b, pur2_s, pur2_nil, pur2_sl, pur2_tup, rn2_tup, rn2_agg, rn2_osl, rn1_v, rn1_osl, rn1_agg, rn0_v, rn0_sl, rn0, pickObs, pur_v, pur_b, pur_s, pur_nil, pur_sl, deI, deIs_sl, obCls]
def M68 : MFun := ⟨[true, false, false], fun xs obs => ∃ (l : List Cls) (i : Nat), xs = [.osl 0 0, I i, I (i + 1)] ∧ obs = [obCls l] ∧ i < l.length ∧ l.length ≤ 1048576,
  fun xs obs => (.osl 0 1, [⟨58, 8, 1, tR ((lOCls obs).eraseIdx (nACls xs 1)), false, true, none⟩])⟩
theorem n68 : GenNA K Tryz.prog 68 M68 := by
  refine contractNA Tryz.mix K [] [] [] (by simp) (by simp) (by simp) Tryz.func68 rfl (by decide) ?_
  rintro xs obs us ⟨l, i, rfl, rfl, h1, h2⟩ hu
  obtain ⟨u, rfl⟩ : ∃ u, us = [u] := by simpa [List.length_eq_one_iff] using hu
  refine ⟨⟨by rw [Tryz.ntmps68]; simp, by simp, fun k ob hob => ?_⟩, ?_⟩
  · obtain ⟨rfl, rfl⟩ := oneCls l k ob hob
    exact ⟨_, rfl, rfl, rfl, rfl, rfl⟩
  have hne : ¬ (i : Int) = i + 1 := by omega
  have hle : (i : Int) ≤ i + 1 := by omega
  obtain ⟨n, hn⟩ : ∃ n, n = l.length := ⟨_, rfl⟩
  obtain ⟨q, hq⟩ : ∃ q, q = n - (i + 1) := ⟨_, rfl⟩
  obtain ⟨m, hm⟩ : ∃ m, m = i + q := ⟨_, rfl⟩
  have hle2 : (i : Int) + 1 ≤ n := by omega
  have ht : ((i : Int) + 1).toNat = i + 1 := by omega
  have hmc : (i : Int) + q = m := by omega
  have hin : i ≤ n := by omega
  have h0 : (0 : Int) ≤ i + 1 := by omega
  have hf1 : i + 1 + q ≤ n := by omega
  have hf2 : m ≤ n := by omega
  have hf3 : ¬ (n : Int) ≤ m := by omega
  have hf4 : (m : Int) ≤ n := by omega
  have hf5 : n - m = 1 := by omega
  have hR1 : List.take q (List.drop (i + 1) (tR l)) = tR (l.drop (i + 1)) := by
    rw [tR_drop, tR_take, List.take_of_length_le (by simp; omega)]
  obtain ⟨R, hR⟩ : ∃ R, R = l.take i ++ l.drop (i + 1) := ⟨_, rfl⟩
  have hRl : R.length = m := by rw [hR]; simp; omega
  obtain ⟨D, hD⟩ : ∃ D, D = l.drop m := ⟨_, rfl⟩
  have hDl : D.length = 1 := by rw [hD]; simp; omega
  have hR2 : List.take i (tR l) ++ (tR (l.drop (i + 1)) ++ List.drop m (tR l)) = tR (R ++ D) := by
    rw [tR_take, tR_drop, hR, hD, ← tR_append, ← tR_append, List.append_assoc]
  have hRR : ∀ r ∈ tR (l.drop (i + 1)), r.length = 8 := tR_rows rfl _
  have hT1 : List.take m (tR (R ++ D)) = tR R := by rw [tR_take, ← hRl, List.take_left]
  have hT2 : List.drop (m + 1) (tR (R ++ D)) = [] := by rw [tR_drop, List.drop_of_length_le (by simp; omega)]; rfl
  have hT3 : ∀ Z : List (List X), List.take m (tR R ++ Z) = tR R := fun Z => by
    rw [List.take_append_of_le_length (by simp [hRl]), tR_take, List.take_of_length_le (by omega)]
  have hE : l.eraseIdx i = R := by rw [hR, List.eraseIdx_eq_take_drop_succ]
  simp -implicitDefEqProofs [Tryz.f68, List.lookup_cons, and_assoc, pick_and, pick_or, if_and, if_or, obCls, eSlice, bnd, hne, hle, ← hn, hle2]
  refine drawP_cut _ 6 (by decide) ?_
  simp -implicitDefEqProofs [List.lookup_cons, and_assoc, pick_and, pick_or, if_and, if_or, obCls, eSlice, bnd, eAppend, srcRows, srcOk, ht, ← hn, ← hq, ← hm, hmc, hle, hle2, hin, h0, hf1, hf2, hf3, hf4, hf5, hR1, hR2, hRR, hRl, hDl]
  simp [eClear, hT1, hT2, hRl, hDl]
  refine ⟨hRR, by omega, finNT [0] [1] _ rfl rfl rfl rfl (by simp) (by simp; omega) (by simp [pickOkN]) (by simp) ?_⟩
  simp [M68, obCls, nACls, lOCls, hT3, hE, deT_tR]
end Go.Proofs

namespace Go.Proofs
open Go.Abs Go.Srt
set_option linter.unusedSimpArgs false
set_option linter.unnecessarySimpa false
set_option linter.unusedVariables false
set_option maxHeartbeats 8000000
set_option maxRecDepth 20000

def F64 : Fun := ⟨fun xs => xs = [.sl (tR (deT (xs.getD 0 .top) : List Fil))] ∧ (fun (l : List Fil) => (l.length ≤ 1048576)) (deT (xs.getD 0 .top) : List Fil), fun xs => (fun (l : List Fil) => ((.osl 0 0, [obFil l]) : X × List Ob)) (deT (xs.getD 0 .top) : List Fil)⟩
theorem F64_in {xs : List X} (h : F64.pre xs) : ∃ (l : List Fil), xs = [.sl (tR l)] ∧ (l.length ≤ 1048576) := ⟨_, h.1, h.2⟩
theorem F64_res (l : List Fil) : F64.res [.sl (tR l)] = (.osl 0 0, [obFil l]) := by simp [F64]
theorem F64_mk (l : List Fil) (h : l.length ≤ 1048576) : F64.pre [.sl (tR l)] := by simpa [F64] using h
theorem c64 : GenCA K Tryz.prog 64 F64 := by
  refine contractAS Tryz.mix K [] [] [] (by simp) (by simp) (by simp) Tryz.func64 rfl (by decide) ?_
  intro xs hxs
  obtain ⟨l, rfl, hp⟩ := F64_in hxs
  rw [F64_res]
  refine ⟨by rw [Tryz.ntmps64]; simp, ?_⟩
  simp only [Tryz.f64, bodyOf, Option.getD_some]
  refine Snd.cut (fun s => s = ⟨8, tl [(0, .sl (tR l)), (2, .v (.slice none 0 0))], []⟩) ?_ ?_
  · simp -implicitDefEqProofs [List.lookup_cons, and_assoc, pick_and, pick_or, if_and, if_or]
    exact Wk.tl (by simp [hold, upd, tl_cons])
  rintro s rfl
  refine Snd.seq (Snd.seq (Snd.nilq (rows := tR l) rfl rfl (by simp) (by simp) rfl fun b hb => ?_))
  refine Snd.cond (b := b) rfl (fun h => ?_) (fun h => ?_)
  · have hl : l = [] := by
      rcases l with _ | ⟨x, l⟩
      · rfl
      · have := hb (by simp [tR]); rw [h] at this; cases this
    subst hl
    refine Snd.cut (fun s => s = ⟨8, tl [(2, .osl 0 0)], [obFil []]⟩) ?_ ?_
    · simp -implicitDefEqProofs [List.lookup_cons, and_assoc, pick_and, pick_or, if_and, if_or]
      exact Wk.tlN 59 5 2 (by simp [upd]) (by simp [hold, upd, tl_cons])
    rintro s rfl
    refine Snd.of ?_
    simp -implicitDefEqProofs [List.lookup_cons, and_assoc, pick_and, pick_or, if_and, if_or, obFil]
    refine fin_own [0] (by simp [pickOk, -List.all_eq_true, tR_ok]) ?_
    simp -implicitDefEqProofs [pur2_i, pur2_b, pur2_s, pur2_nil, pur2_sl, pur2_tup, rn2_tup, rn2_agg, rn2_osl, rn1_v, rn1_osl, rn1_agg, rn0_v, rn0_sl, rn0, pickObs, pur_v, pur_b, pur_s, pur_nil, pur_sl, deI, deIs_sl, obFil]
  · refine Snd.of ?_
    simp only [awp_skip, thenP_normal]
    refine Snd.of ?_
    simp -implicitDefEqProofs [List.lookup_cons, and_assoc, pick_and, pick_or, if_and, if_or, eBuildSlice, eAppend, srcRows, srcOk, chunk, put_some]
    refine ⟨tR_rows rfl l, by omega, by omega, fin_own [0] (by simp [pickOk, -List.all_eq_true, tR_ok]) ?_⟩
    simp -implicitDefEqProofs [pur2_i, pur2_b, pur2_s, pur2_nil, pur2_sl, pur2_tup, rn2_tup, rn2_agg, rn2_osl, rn1_v, rn1_osl, rn1_agg, rn0_v, rn0_sl, rn0, pickObs, pur_v, pur_b, pur_s, pur_nil, pur_sl, deI, deIs_sl, obFil]
def M66 : MFun := ⟨[true, false, false], fun xs obs => ∃ (l : List Fil) (i : Nat), xs = [.osl 0 0, I i, I (i + 1)] ∧ obs = [obFil l] ∧ i < l.length ∧ l.length ≤ 1048576,
  fun xs obs => (.osl 0 1, [⟨59, 5, 1, tR ((lOFil obs).eraseIdx (nAFil xs 1)), false, true, none⟩])⟩
theorem n66 : GenNA K Tryz.prog 66 M66 := by
  refine contractNA Tryz.mix K [] [] [] (by simp) (by simp) (by simp) Tryz.func66 rfl (by decide) ?_
  rintro xs obs us ⟨l, i, rfl, rfl, h1, h2⟩ hu
  obtain ⟨u, rfl⟩ : ∃ u, us = [u] := by simpa [List.length_eq_one_iff] using hu
  refine ⟨⟨by rw [Tryz.ntmps66]; simp, by simp, fun k ob hob => ?_⟩, ?_⟩
  · obtain ⟨rfl, rfl⟩ := oneFil l k ob hob
    exact ⟨_, rfl, rfl, rfl, rfl, rfl⟩
  have hne : ¬ (i : Int) = i + 1 := by omega
  have hle : (i : Int) ≤ i + 1 := by omega
  obtain ⟨n, hn⟩ : ∃ n, n = l.length := ⟨_, rfl⟩
  obtain ⟨q, hq⟩ : ∃ q, q = n - (i + 1) := ⟨_, rfl⟩
  obtain ⟨m, hm⟩ : ∃ m, m = i + q := ⟨_, rfl⟩
  have hle2 : (i : Int) + 1 ≤ n := by omega
  have ht : ((i : Int) + 1).toNat = i + 1 := by omega
  have hmc : (i : Int) + q = m := by omega
  have hin : i ≤ n := by omega
  have h0 : (0 : Int) ≤ i + 1 := by omega
  have hf1 : i + 1 + q ≤ n := by omega
  have hf2 : m ≤ n := by omega
  have hf3 : ¬ (n : Int) ≤ m := by omega
  have hf4 : (m : Int) ≤ n := by omega
  have hf5 : n - m = 1 := by omega
  have hR1 : List.take q (List.drop (i + 1) (tR l)) = tR (l.drop (i + 1)) := by
    rw [tR_drop, tR_take, List.take_of_length_le (by simp; omega)]
  obtain ⟨R, hR⟩ : ∃ R, R = l.take i ++ l.drop (i + 1) := ⟨_, rfl⟩
  have hRl : R.length = m := by rw [hR]; simp; omega
  obtain ⟨D, hD⟩ : ∃ D, D = l.drop m := ⟨_, rfl⟩
  have hDl : D.length = 1 := by rw [hD]; simp; omega
  have hR2 : List.take i (tR l) ++ (tR (l.drop (i + 1)) ++ List.drop m (tR l)) = tR (R ++ D) := by
    rw [tR_take, tR_drop, hR, hD, ← tR_append, ← tR_append, List.append_assoc]
  have hRR : ∀ r ∈ tR (l.drop (i + 1)), r.length = 5 := tR_rows rfl _
  have hT1 : List.take m (tR (R ++ D)) = tR R := by rw [tR_take, ← hRl, List.take_left]
  have hT2 : List.drop (m + 1) (tR (R ++ D)) = [] := by rw [tR_drop, List.drop_of_length_le (by simp; omega)]; rfl
  have hT3 : ∀ Z : List (List X), List.take m (tR R ++ Z) = tR R := fun Z => by
    rw [List.take_append_of_le_length (by simp [hRl]), tR_take, List.take_of_length_le (by omega)]
  have hE : l.eraseIdx i = R := by rw [hR, List.eraseIdx_eq_take_drop_succ]
  simp -implicitDefEqProofs [Tryz.f66, List.lookup_cons, and_assoc, pick_and, pick_or, if_and, if_or, obFil, eSlice, bnd, hne, hle, ← hn, hle2]
  refine drawP_cut _ 6 (by decide) ?_
  simp -implicitDefEqProofs [List.lookup_cons, and_assoc, pick_and, pick_or, if_and, if_or, obFil, eSlice, bnd, eAppend, srcRows, srcOk, ht, ← hn, ← hq, ← hm, hmc, hle, hle2, hin, h0, hf1, hf2, hf3, hf4, hf5, hR1, hR2, hRR, hRl, hDl]
  simp [eClear, hT1, hT2, hRl, hDl]
  refine ⟨hRR, by omega, finNT [0] [1] _ rfl rfl rfl rfl (by simp) (by simp; omega) (by simp [pickOkN]) (by simp) ?_⟩
  simp [M66, obFil, nAFil, lOFil, hT3, hE, deT_tR]
end Go.Proofs
