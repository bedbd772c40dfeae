/-
  What is proved here: contracts of the library's Clone at classes and at filters. Condition: none.
-/
import Derived.Test.YtdpmlddmdogggaaGreatDoorC0j
import Derived.Test.YtdpmlddmdogggaaGreatDoorAbs26
namespace Go.Proofs
open Go.Abs
set_option linter.unusedSimpArgs false
set_option linter.unnecessarySimpa false
set_option linter.unusedVariables false
set_option maxHeartbeats 8000000
set_option maxRecDepth 20000
def obCls (l : List Cls) : Ob := ⟨81, 8, 0, tR l, false, true, none⟩
def obFil (l : List Fil) : Ob := ⟨103, 5, 0, tR l, false, true, none⟩
def F114 : Fun := ⟨fun xs => xs = [.sl (tR (deT (xs.getD 0 .top) : List Cls))] ∧ (fun (l : List Cls) => (l.length ≤ 1048576)) (deT (xs.getD 0 .top) : List Cls), fun xs => (fun (l : List Cls) => ((.osl 0 0, [obCls l]) : X × List Ob)) (deT (xs.getD 0 .top) : List Cls)⟩
theorem F114_in {xs : List X} (h : F114.pre xs) : ∃ (l : List Cls), xs = [.sl (tR l)] ∧ (l.length ≤ 1048576) := ⟨_, h.1, h.2⟩
theorem F114_res (l : List Cls) : F114.res [.sl (tR l)] = (.osl 0 0, [obCls l]) := by simp [F114]
theorem c114 : GenCA K Tryz.prog 114 F114 := by
  refine contractAS Tryz.mix K [] [] [] (by simp) (by simp) (by simp) Tryz.func114 rfl (by decide) ?_
  intro xs hxs
  obtain ⟨l, rfl, hp⟩ := F114_in hxs
  rw [F114_res]
  refine ⟨by rw [Tryz.ntmps114]; simp, ?_⟩
  simp only [Tryz.f114, bodyOf, Option.getD_some]
  refine Snd.cut (fun s => s = ⟨8, tl [(0, .sl (tR l)), (2, .v (.slice none 0 0))], []⟩) ?_ ?_
  · simp -implicitDefEqProofs [List.lookup_cons, eS]
    exact Wk.tl (by simp [hold, upd, tl_cons])
  rintro s rfl
  refine Snd.seq (Snd.seq (Snd.nilq (rows := tR l) rfl rfl (by simp) (by simp) rfl fun b hb => ?_))
  refine Snd.cond (b := b) rfl (fun h => ?_) (fun h => ?_)
  · have hl : l = [] := by
      rcases l with _ | ⟨x, l⟩
      · rfl
      · have := hb (by simp [tR]); rw [h] at this; cases this
    subst hl
    refine Snd.cut (fun s => s = ⟨8, tl [(2, .osl 0 0)], [obCls []]⟩) ?_ ?_
    · simp -implicitDefEqProofs [List.lookup_cons, eS]
      exact Wk.tlN 81 8 2 (by simp [upd]) (by simp [hold, upd, tl_cons])
    rintro s rfl
    refine Snd.of ?_
    simp -implicitDefEqProofs [List.lookup_cons, eS, obCls]
    refine fin_own [0] (by simp [pickOk, -List.all_eq_true, tR_ok]) ?_
    simp -implicitDefEqProofs [fS, rn0, pickObs, deI, obCls]
  · refine Snd.of ?_
    simp only [awp_skip, thenP_normal]
    refine Snd.of ?_
    simp -implicitDefEqProofs [List.lookup_cons, eS, eBuildSlice, eAppend, srcRows, srcOk, chunk, put_some]
    refine ⟨tR_rows rfl l, by omega, by omega, fin_own [0] (by simp [pickOk, -List.all_eq_true, tR_ok]) ?_⟩
    simp -implicitDefEqProofs [fS, rn0, pickObs, deI, obCls]
def F115 : Fun := ⟨fun xs => xs = [.sl (tR (deT (xs.getD 0 .top) : List Fil))] ∧ (fun (l : List Fil) => (l.length ≤ 1048576)) (deT (xs.getD 0 .top) : List Fil), fun xs => (fun (l : List Fil) => ((.osl 0 0, [obFil l]) : X × List Ob)) (deT (xs.getD 0 .top) : List Fil)⟩
theorem F115_in {xs : List X} (h : F115.pre xs) : ∃ (l : List Fil), xs = [.sl (tR l)] ∧ (l.length ≤ 1048576) := ⟨_, h.1, h.2⟩
theorem F115_res (l : List Fil) : F115.res [.sl (tR l)] = (.osl 0 0, [obFil l]) := by simp [F115]
theorem c115 : GenCA K Tryz.prog 115 F115 := by
  refine contractAS Tryz.mix K [] [] [] (by simp) (by simp) (by simp) Tryz.func115 rfl (by decide) ?_
  intro xs hxs
  obtain ⟨l, rfl, hp⟩ := F115_in hxs
  rw [F115_res]
  refine ⟨by rw [Tryz.ntmps115]; simp, ?_⟩
  simp only [Tryz.f115, bodyOf, Option.getD_some]
  refine Snd.cut (fun s => s = ⟨8, tl [(0, .sl (tR l)), (2, .v (.slice none 0 0))], []⟩) ?_ ?_
  · simp -implicitDefEqProofs [List.lookup_cons, eS]
    exact Wk.tl (by simp [hold, upd, tl_cons])
  rintro s rfl
  refine Snd.seq (Snd.seq (Snd.nilq (rows := tR l) rfl rfl (by simp) (by simp) rfl fun b hb => ?_))
  refine Snd.cond (b := b) rfl (fun h => ?_) (fun h => ?_)
  · have hl : l = [] := by
      rcases l with _ | ⟨x, l⟩
      · rfl
      · have := hb (by simp [tR]); rw [h] at this; cases this
    subst hl
    refine Snd.cut (fun s => s = ⟨8, tl [(2, .osl 0 0)], [obFil []]⟩) ?_ ?_
    · simp -implicitDefEqProofs [List.lookup_cons, eS]
      exact Wk.tlN 103 5 2 (by simp [upd]) (by simp [hold, upd, tl_cons])
    rintro s rfl
    refine Snd.of ?_
    simp -implicitDefEqProofs [List.lookup_cons, eS, obFil]
    refine fin_own [0] (by simp [pickOk, -List.all_eq_true, tR_ok]) ?_
    simp -implicitDefEqProofs [fS, rn0, pickObs, deI, obFil]
  · refine Snd.of ?_
    simp only [awp_skip, thenP_normal]
    refine Snd.of ?_
    simp -implicitDefEqProofs [List.lookup_cons, eS, eBuildSlice, eAppend, srcRows, srcOk, chunk, put_some]
    refine ⟨tR_rows rfl l, by omega, by omega, fin_own [0] (by simp [pickOk, -List.all_eq_true, tR_ok]) ?_⟩
    simp -implicitDefEqProofs [fS, rn0, pickObs, deI, obFil]
end Go.Proofs
