/-
  What is proved here: contracts of the library's Clone at classes and at filters. Condition: none.
-/
import Derived.Test.YtflhbkcjfmajeaaGreatDoorC0z
import Derived.Test.YtflhbkcjfmajeaaGreatDoorAbs26
namespace Go.Proofs
open Go.Abs
set_option linter.unusedSimpArgs false
set_option linter.unnecessarySimpa false
set_option linter.unusedVariables false
set_option maxHeartbeats 8000000
set_option maxRecDepth 20000

def obCls (l : List Cls) : Ob := ⟨63, 8, 0, tR l, false, true, none⟩
def obFil (l : List Fil) : Ob := ⟨70, 5, 0, tR l, false, true, none⟩
def F60 : Fun := ⟨fun xs => xs = [.sl (tR (deT (xs.getD 0 .top) : List Cls))] ∧ (fun (l : List Cls) => (l.length ≤ 1048576)) (deT (xs.getD 0 .top) : List Cls), fun xs => (fun (l : List Cls) => ((.osl 0 0, [obCls l]) : X × List Ob)) (deT (xs.getD 0 .top) : List Cls)⟩
theorem F60_in {xs : List X} (h : F60.pre xs) : ∃ (l : List Cls), xs = [.sl (tR l)] ∧ (l.length ≤ 1048576) := ⟨_, h.1, h.2⟩
theorem F60_res (l : List Cls) : F60.res [.sl (tR l)] = (.osl 0 0, [obCls l]) := by simp [F60]
theorem F60_mk (l : List Cls) (h : l.length ≤ 1048576) : F60.pre [.sl (tR l)] := by simpa [F60] using h
theorem c60 : GenCA K Tryz.prog 60 F60 := by
  refine contractAS Tryz.mix K [] [] [] (by simp) (by simp) (by simp) Tryz.func60 rfl (by decide) ?_
  intro xs hxs
  obtain ⟨l, rfl, hp⟩ := F60_in hxs
  rw [F60_res]
  refine ⟨by rw [Tryz.ntmps60]; simp, ?_⟩
  simp only [Tryz.f60, bodyOf, Option.getD_some]
  refine Snd.cut (fun s => s = ⟨8, tl [(0, .sl (tR l)), (2, .v (.slice none 0 0))], []⟩) ?_ ?_
  · simp -implicitDefEqProofs [List.lookup_cons, and_assoc, pick_and, pick_or, if_and, if_or]
    exact Wk.tl (by simp [hold, upd, tl_cons])
  rintro s rfl
  refine Snd.seq (Snd.seq (Snd.nilq (rows := tR l) rfl rfl (by simp) (by simp) rfl fun b hb => ?_))
  refine Snd.cond (b := b) rfl (fun h => ?_) (fun h => ?_)
  · have hl : l = [] := by
      rcases l with _ | ⟨x, l⟩
      · rfl
      · have := hb (by simp [tR]); rw [h] at this; cases this
    subst hl
    refine Snd.cut (fun s => s = ⟨8, tl [(2, .osl 0 0)], [obCls []]⟩) ?_ ?_
    · simp -implicitDefEqProofs [List.lookup_cons, and_assoc, pick_and, pick_or, if_and, if_or]
      exact Wk.tlN 63 8 2 (by simp [upd]) (by simp [hold, upd, tl_cons])
    rintro s rfl
    refine Snd.of ?_
    simp -implicitDefEqProofs [List.lookup_cons, and_assoc, pick_and, pick_or, if_and, if_or, obCls]
    refine fin_own [0] (by simp [pickOk, -List.all_eq_true, tR_ok]) ?_
    simp -implicitDefEqProofs [pur2_i, pur2_b, pur2_s, pur2_nil, pur2_sl, pur2_tup, rn2_tup, rn2_agg, rn2_osl, rn1_v, rn1_osl, rn1_agg, rn0_v, rn0_sl, rn0, pickObs, pur_v, pur_b, pur_s, pur_nil, pur_sl, deI, deIs_sl, obCls]
  · refine Snd.of ?_
    simp only [awp_skip, thenP_normal]
    refine Snd.of ?_
    simp -implicitDefEqProofs [List.lookup_cons, and_assoc, pick_and, pick_or, if_and, if_or, eBuildSlice, eAppend, srcRows, srcOk, chunk, put_some]
    refine ⟨tR_rows rfl l, by omega, by omega, fin_own [0] (by simp [pickOk, -List.all_eq_true, tR_ok]) ?_⟩
    simp -implicitDefEqProofs [pur2_i, pur2_b, pur2_s, pur2_nil, pur2_sl, pur2_tup, rn2_tup, rn2_agg, rn2_osl, rn1_v, rn1_osl, rn1_agg, rn0_v, rn0_sl, rn0, pickObs, pur_v, pur_b, pur_s, pur_nil, pur_sl, deI, deIs_sl, obCls]
def F53 : Fun := ⟨fun xs => xs = [.sl (tR (deT (xs.getD 0 .top) : List Fil))] ∧ (fun (l : List Fil) => (l.length ≤ 1048576)) (deT (xs.getD 0 .top) : List Fil), fun xs => (fun (l : List Fil) => ((.osl 0 0, [obFil l]) : X × List Ob)) (deT (xs.getD 0 .top) : List Fil)⟩
theorem F53_in {xs : List X} (h : F53.pre xs) : ∃ (l : List Fil), xs = [.sl (tR l)] ∧ (l.length ≤ 1048576) := ⟨_, h.1, h.2⟩
theorem F53_res (l : List Fil) : F53.res [.sl (tR l)] = (.osl 0 0, [obFil l]) := by simp [F53]
theorem F53_mk (l : List Fil) (h : l.length ≤ 1048576) : F53.pre [.sl (tR l)] := by simpa [F53] using h
theorem c53 : GenCA K Tryz.prog 53 F53 := by
  refine contractAS Tryz.mix K [] [] [] (by simp) (by simp) (by simp) Tryz.func53 rfl (by decide) ?_
  intro xs hxs
  obtain ⟨l, rfl, hp⟩ := F53_in hxs
  rw [F53_res]
  refine ⟨by rw [Tryz.ntmps53]; simp, ?_⟩
  simp only [Tryz.f53, bodyOf, Option.getD_some]
  refine Snd.cut (fun s => s = ⟨8, tl [(0, .sl (tR l)), (2, .v (.slice none 0 0))], []⟩) ?_ ?_
  · simp -implicitDefEqProofs [List.lookup_cons, and_assoc, pick_and, pick_or, if_and, if_or]
    exact Wk.tl (by simp [hold, upd, tl_cons])
  rintro s rfl
  refine Snd.seq (Snd.seq (Snd.nilq (rows := tR l) rfl rfl (by simp) (by simp) rfl fun b hb => ?_))
  refine Snd.cond (b := b) rfl (fun h => ?_) (fun h => ?_)
  · have hl : l = [] := by
      rcases l with _ | ⟨x, l⟩
      · rfl
      · have := hb (by simp [tR]); rw [h] at this; cases this
    subst hl
    refine Snd.cut (fun s => s = ⟨8, tl [(2, .osl 0 0)], [obFil []]⟩) ?_ ?_
    · simp -implicitDefEqProofs [List.lookup_cons, and_assoc, pick_and, pick_or, if_and, if_or]
      exact Wk.tlN 70 5 2 (by simp [upd]) (by simp [hold, upd, tl_cons])
    rintro s rfl
    refine Snd.of ?_
    simp -implicitDefEqProofs [List.lookup_cons, and_assoc, pick_and, pick_or, if_and, if_or, obFil]
    refine fin_own [0] (by simp [pickOk, -List.all_eq_true, tR_ok]) ?_
    simp -implicitDefEqProofs [pur2_i, pur2_b, pur2_s, pur2_nil, pur2_sl, pur2_tup, rn2_tup, rn2_agg, rn2_osl, rn1_v, rn1_osl, rn1_agg, rn0_v, rn0_sl, rn0, pickObs, pur_v, pur_b, pur_s, pur_nil, pur_sl, deI, deIs_sl, obFil]
  · refine Snd.of ?_
    simp only [awp_skip, thenP_normal]
    refine Snd.of ?_
    simp -implicitDefEqProofs [List.lookup_cons, and_assoc, pick_and, pick_or, if_and, if_or, eBuildSlice, eAppend, srcRows, srcOk, chunk, put_some]
    refine ⟨tR_rows rfl l, by omega, by omega, fin_own [0] (by simp [pickOk, -List.all_eq_true, tR_ok]) ?_⟩
    simp -implicitDefEqProofs [pur2_i, pur2_b, pur2_s, pur2_nil, pur2_sl, pur2_tup, rn2_tup, rn2_agg, rn2_osl, rn1_v, rn1_osl, rn1_agg, rn0_v, rn0_sl, rn0, pickObs, pur_v, pur_b, pur_s, pur_nil, pur_sl, deI, deIs_sl, obFil]
end Go.Proofs
