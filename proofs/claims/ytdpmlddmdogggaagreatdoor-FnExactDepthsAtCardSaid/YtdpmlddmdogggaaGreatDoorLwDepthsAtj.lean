/-
  What is proved here: the law of DepthsAt. Condition: none.
-/
import Derived.Test.YtdpmlddmdogggaaGreatDoorIL9dj
import Derived.Test.YtdpmlddmdogggaaGreatDoorIL8j
namespace Go.Proofs
open Go.Abs
set_option linter.unusedSimpArgs false
set_option linter.unnecessarySimpa false
set_option linter.unusedVariables false
set_option maxHeartbeats 16000000
set_option maxRecDepth 20000
def mkeT (e : Ldd) : Ldd := mkE e.name 1 (lLen e) e.dflt
theorem pl2T (h : List Ob) (k ver : Nat) : purN h 2 (.osl k ver) = (match h[k]? with
    | some ob => if ob.ver = ver ∧ ob.bx = false then .sl (ob.rows.map fun r => r.map (purN h 1)) else .top
    | none => .top) := rfl
theorem pnT (h : List Ob) : purN h 2 (.v (.slice none 0 0)) = .sl [] := rfl
def F15 : Fun := ⟨fun xs => xs = [.agg (lX (deL (xs.getD 0 .top) : Ldd))] ∧ (fun (x : Ldd) => (bigL x)) (deL (xs.getD 0 .top) : Ldd), fun xs => (fun (x : Ldd) => ((B true, []) : X × List Ob)) (deL (xs.getD 0 .top) : Ldd)⟩
theorem F15_in {xs : List X} (h : F15.pre xs) : ∃ (x : Ldd), xs = [.agg (lX x)] ∧ (bigL x) := ⟨_, h.1, h.2⟩
theorem F15_res (x : Ldd) : F15.res [.agg (lX x)] = (B true, []) := by simp [F15]
theorem F15_mk (x : Ldd) (h : bigL x) : F15.pre [.agg (lX x)] := by simpa [F15] using h
theorem c15 : GenCA K Tryz.prog 15 F15 := by
  refine contractAS Tryz.mix K [(17, F17), (19, F19), (22, F22), (47, F47), (49, F49), (54, F55), (55, F55)] [(23, M23), (48, M48)] [] (by simp [c17, c19, c22, c47, c49, c54, c55]) (by simp [m23, m48]) (by simp) Tryz.func15 rfl (by decide) ?_
  intro xs hxs
  obtain ⟨x, rfl, hp⟩ := F15_in hxs
  rw [F15_res]
  refine ⟨by rw [Tryz.ntmps15]; simp, ?_⟩
  have hb : bigL x := hp
  have hz1 : 0 ≤ lSz x := by unfold lSz; omega
  have hm0 : (0 : Int) ≤ 1048576 := by decide
  have hm1 : (1048576 : Int) ≤ 1048576 := by decide
  have hPz : F17.pre [.agg [.v (.string x.name), .sl (tR x.cls), .sl (iR x.par), .sl (iR x.fst), .sl (iR x.nx), .sl (iR x.en), .sl (tR x.fil), .sl (iR x.tgt), I x.dflt], .v (.int .i64 1048576)] := F17_mk x 1048576 ⟨hb, hm0, hm1⟩
  have hRz0 : F17.res [.agg [.v (.string x.name), .sl (tR x.cls), .sl (iR x.par), .sl (iR x.fst), .sl (iR x.nx), .sl (iR x.en), .sl (tR x.fil), .sl (iR x.tgt), I x.dflt], .v (.int .i64 1048576)] = (I (if (1048576 : Int) < lSz x then -1 else 1048576 - lSz x), []) := F17_res x 1048576
  by_cases h1 : (1048576 : Int) < lSz x
  · have hRz : F17.res [.agg [.v (.string x.name), .sl (tR x.cls), .sl (iR x.par), .sl (iR x.fst), .sl (iR x.nx), .sl (iR x.en), .sl (tR x.fil), .sl (iR x.tgt), I x.dflt], .v (.int .i64 1048576)] = (I (-1), []) := by rw [hRz0, if_pos h1]
    refine Snd.of ?_
    simp -implicitDefEqProofs [Tryz.f15, List.lookup_cons, eS, hPz, hRz]
    refine fin_pure (by simp) ?_
    simp -implicitDefEqProofs [fS, rn0, pickObs, deI]
  have hRz : F17.res [.agg [.v (.string x.name), .sl (tR x.cls), .sl (iR x.par), .sl (iR x.fst), .sl (iR x.nx), .sl (iR x.en), .sl (tR x.fil), .sl (iR x.tgt), I x.dflt], .v (.int .i64 1048576)] = (I (1048576 - lSz x), []) := by rw [hRz0, if_neg h1]
  have e1 : ¬ (1048576 : Int) - lSz x < 0 := by omega
  have e1' : lSz x ≤ 1048576 := by omega
  have hok : okM x := okM_of h1 (Int.le_refl _)
  have oe := hok.1
  have hPt : F19.pre [.agg [.v (.string x.name), .sl (tR x.cls), .sl (iR x.par), .sl (iR x.fst), .sl (iR x.nx), .sl (iR x.en), .sl (tR x.fil), .sl (iR x.tgt), I x.dflt]] := F19_mk x oe
  have hRt : F19.res [.agg [.v (.string x.name), .sl (tR x.cls), .sl (iR x.par), .sl (iR x.fst), .sl (iR x.nx), .sl (iR x.en), .sl (tR x.fil), .sl (iR x.tgt), I x.dflt]] = (lO x, lOb x) := F19_res x
  have hPe : F22.pre [.agg [.v (.string x.name), .sl (tR x.cls), .sl (iR x.par), .sl (iR x.fst), .sl (iR x.nx), .sl (iR x.en), .sl (tR x.fil), .sl (iR x.tgt), I x.dflt], .agg [.v (.string x.name), .sl (tR x.cls), .sl (iR x.par), .sl (iR x.fst), .sl (iR x.nx), .sl (iR x.en), .sl (tR x.fil), .sl (iR x.tgt), I x.dflt]] := ⟨x, rfl, oe⟩
  have hRe : F22.res [.agg [.v (.string x.name), .sl (tR x.cls), .sl (iR x.par), .sl (iR x.fst), .sl (iR x.nx), .sl (iR x.en), .sl (tR x.fil), .sl (iR x.tgt), I x.dflt], .agg [.v (.string x.name), .sl (tR x.cls), .sl (iR x.par), .sl (iR x.fst), .sl (iR x.nx), .sl (iR x.en), .sl (tR x.fil), .sl (iR x.tgt), I x.dflt]] = (B true, []) := rfl
  have hPi : F55.pre [.agg [.v (.string x.name), .sl (tR x.cls), .sl (iR x.par), .sl (iR x.fst), .sl (iR x.nx), .sl (iR x.en), .sl (tR x.fil), .sl (iR x.tgt), I x.dflt]] := F55_mk x hok
  have hml : M23.mu = [true] := rfl
  have hp1 : M23.pre [.agg [.v (.string x.name), .osl 0 0, .osl 1 0, .osl 2 0, .osl 3 0, .osl 4 0, .osl 5 0, .osl 6 0, I x.dflt], .v (.int .i64 1)] [⟨81, 8, 0, tR x.cls, false, true, none⟩, ⟨3, 1, 0, iR x.par, false, true, none⟩, ⟨3, 1, 0, iR x.fst, false, true, none⟩, ⟨3, 1, 0, iR x.nx, false, true, none⟩, ⟨3, 1, 0, iR x.en, false, true, none⟩, ⟨103, 5, 0, tR x.fil, false, true, none⟩, ⟨3, 1, 0, iR x.tgt, false, true, none⟩] := .inl ⟨x, 1, rfl, rfl, oe, by omega, by omega⟩
  have hr1 : M23.res [.agg [.v (.string x.name), .osl 0 0, .osl 1 0, .osl 2 0, .osl 3 0, .osl 4 0, .osl 5 0, .osl 6 0, I x.dflt], .v (.int .i64 1)] [⟨81, 8, 0, tR x.cls, false, true, none⟩, ⟨3, 1, 0, iR x.par, false, true, none⟩, ⟨3, 1, 0, iR x.fst, false, true, none⟩, ⟨3, 1, 0, iR x.nx, false, true, none⟩, ⟨3, 1, 0, iR x.en, false, true, none⟩, ⟨103, 5, 0, tR x.fil, false, true, none⟩, ⟨3, 1, 0, iR x.tgt, false, true, none⟩] = (I (lTot 1 (lLen x) 7), [⟨81, 8, 0, tR (mkeT x).cls, false, true, none⟩, ⟨3, 1, 0, iR (mkeT x).par, false, true, none⟩, ⟨3, 1, 0, iR (mkeT x).fst, false, true, none⟩, ⟨3, 1, 0, iR (mkeT x).nx, false, true, none⟩, ⟨3, 1, 0, iR (mkeT x).en, false, true, none⟩, ⟨103, 5, 0, tR (mkeT x).fil, false, true, none⟩, ⟨3, 1, 0, iR (mkeT x).tgt, false, true, none⟩]) := mkL_res x 1
  have hT : ¬ lTot 1 (lLen x) 7 < 0 := by
    simp only [lTot]
    omega
  obtain ⟨Y, hY⟩ : ∃ Y, mkeT x = Y := ⟨_, rfl⟩
  obtain ⟨T, hTT⟩ : ∃ T, lTot 1 (lLen x) 7 = T := ⟨_, rfl⟩
  rw [hY, hTT] at hr1
  rw [hTT] at hT
  have hT' : 0 ≤ T := by omega
  have im1 := iR_mf x.par
  have im2 := iR_mf x.fst
  have im3 := iR_mf x.nx
  have im4 := iR_mf x.en
  have im5 := iR_mf x.tgt
  have hmi : M48.mu = [true] := rfl
  have hpi0 : M48.pre [.sl [], .v (.int .i64 1)] [] := .inr ⟨1, rfl, rfl, by omega, by omega⟩
  have hri0 : M48.res [.sl [], .v (.int .i64 1)] [] = (I 1, []) := rfl
  have hpi1 : ∀ L : List Int, L.length ≤ 1048576 → M48.pre [.osl 0 0, .v (.int .i64 1)] [⟨3, 1, 0, iR L, false, true, none⟩] := fun L h => .inl ⟨L, 1, rfl, rfl, h, by omega, by omega⟩
  have hri1 : ∀ L : List Int, M48.res [.osl 0 0, .v (.int .i64 1)] [⟨3, 1, 0, iR L, false, true, none⟩] = (I (1 + (L.length : Int)), [⟨3, 1, 0, iR (upI 1 L.length), false, true, none⟩]) := fun L => by
    simp [M48, iOb, deI]
  have hpq : ∀ L : List Int, L.length ≤ 1048576 → F47.pre [.sl (iR L), .sl (iR L)] := fun L h => ⟨L, L, rfl, h⟩
  have hrq : ∀ L : List Int, F47.res [.sl (iR L), .sl (iR L)] = (B true, []) := fun L => by simp [F47]
  have hpq0 : F47.pre [.sl [], .sl []] := ⟨[], [], rfl, by simp⟩
  have hrq0 : F47.res [.sl [], .sl []] = (B true, []) := rfl
  have hph : ∀ n : Nat, n ≤ 1048576 → F49.pre [.sl (iR (upI 1 n)), .v (.int .i64 1)] := fun n h => by simp [F49, deI]; omega
  have hrh : ∀ n : Nat, F49.res [.sl (iR (upI 1 n)), .v (.int .i64 1)] = (I (1 + (n : Int)), []) := fun n => by simp [F49, deI]
  have hph0 : F49.pre [.sl [], .v (.int .i64 1)] := hph 0 (by omega)
  have hrh0 : F49.res [.sl [], .v (.int .i64 1)] = (I 1, []) := hrh 0
  have hR0 : F55.res [.agg [.v (.string x.name), .sl (tR x.cls), .sl (iR x.par), .sl (iR x.fst), .sl (iR x.nx), .sl (iR x.en), .sl (tR x.fil), .sl (iR x.tgt), I x.dflt]] = ansI (isLd x) (dpK x x.cls.length) := F55_res x
  cases g : isLd x with
  | false =>
    have hRi : F55.res [.agg [.v (.string x.name), .sl (tR x.cls), .sl (iR x.par), .sl (iR x.fst), .sl (iR x.nx), .sl (iR x.en), .sl (tR x.fil), .sl (iR x.tgt), I x.dflt]] = (.tup [.sl [], B false], []) := by rw [hR0, g, ansI_f]
    simp only [Tryz.f15, bodyOf, Option.getD_some]
    refine Snd.seqpu ?_
    simp -implicitDefEqProofs [List.lookup_cons, eS, lO, lOb, obCls, obFil, iOb, pl2T, pnT, hPz, hRz, hPt, hRt, hPe, hRe, hPi, e1, e1', pur2_tup, pur2_b, pur2_i, pur2_sl, pur_sl, pur_b, pur_v, pur_oslE, rbR_iR, rbR_nil, rbOb_mk, iR_mf, pickOk, -List.all_eq_true, iR_ok, ok0, iR_eq_nil, deIs_nil, hml, hp1, hr1, hT, hT', im1, im2, im3, im4, im5, hmi, hpi0, hri0, hpi1, hri1, hpq, hrq, hpq0, hrq0, hph, hrh, hph0, hrh0, hRi]
    refine Snd.seqpu ?_
    simp -implicitDefEqProofs [List.lookup_cons, eS, lO, lOb, obCls, obFil, iOb, pl2T, pnT, hPz, hRz, hPt, hRt, hPe, hRe, hPi, e1, e1', pur2_tup, pur2_b, pur2_i, pur2_sl, pur_sl, pur_b, pur_v, pur_oslE, rbR_iR, rbR_nil, rbOb_mk, iR_mf, pickOk, -List.all_eq_true, iR_ok, ok0, iR_eq_nil, deIs_nil, hml, hp1, hr1, hT, hT', im1, im2, im3, im4, im5, hmi, hpi0, hri0, hpi1, hri1, hpq, hrq, hpq0, hrq0, hph, hrh, hph0, hrh0, hRi]
    refine Snd.seqpu ?_
    simp -implicitDefEqProofs [List.lookup_cons, eS, lO, lOb, obCls, obFil, iOb, pl2T, pnT, hPz, hRz, hPt, hRt, hPe, hRe, hPi, e1, e1', pur2_tup, pur2_b, pur2_i, pur2_sl, pur_sl, pur_b, pur_v, pur_oslE, rbR_iR, rbR_nil, rbOb_mk, iR_mf, pickOk, -List.all_eq_true, iR_ok, ok0, iR_eq_nil, deIs_nil, hml, hp1, hr1, hT, hT', im1, im2, im3, im4, im5, hmi, hpi0, hri0, hpi1, hri1, hpq, hrq, hpq0, hrq0, hph, hrh, hph0, hrh0, hRi]
    refine Snd.seqpu ?_
    simp -implicitDefEqProofs [List.lookup_cons, eS, lO, lOb, obCls, obFil, iOb, pl2T, pnT, hPz, hRz, hPt, hRt, hPe, hRe, hPi, e1, e1', pur2_tup, pur2_b, pur2_i, pur2_sl, pur_sl, pur_b, pur_v, pur_oslE, rbR_iR, rbR_nil, rbOb_mk, iR_mf, pickOk, -List.all_eq_true, iR_ok, ok0, iR_eq_nil, deIs_nil, hml, hp1, hr1, hT, hT', im1, im2, im3, im4, im5, hmi, hpi0, hri0, hpi1, hri1, hpq, hrq, hpq0, hrq0, hph, hrh, hph0, hrh0, hRi]
    refine Snd.seqpu ?_
    simp -implicitDefEqProofs [List.lookup_cons, eS, lO, lOb, obCls, obFil, iOb, pl2T, pnT, hPz, hRz, hPt, hRt, hPe, hRe, hPi, e1, e1', pur2_tup, pur2_b, pur2_i, pur2_sl, pur_sl, pur_b, pur_v, pur_oslE, rbR_iR, rbR_nil, rbOb_mk, iR_mf, pickOk, -List.all_eq_true, iR_ok, ok0, iR_eq_nil, deIs_nil, hml, hp1, hr1, hT, hT', im1, im2, im3, im4, im5, hmi, hpi0, hri0, hpi1, hri1, hpq, hrq, hpq0, hrq0, hph, hrh, hph0, hrh0, hRi]
    refine Snd.seq (Snd.of ?_)
    simp -implicitDefEqProofs [List.lookup_cons, eS, lO, lOb, obCls, obFil, iOb, pl2T, pnT, hPz, hRz, hPt, hRt, hPe, hRe, hPi, e1, e1', pur2_tup, pur2_b, pur2_i, pur2_sl, pur_sl, pur_b, pur_v, pur_oslE, rbR_iR, rbR_nil, rbOb_mk, iR_mf, pickOk, -List.all_eq_true, iR_ok, ok0, iR_eq_nil, deIs_nil, hml, hp1, hr1, hT, hT', im1, im2, im3, im4, im5, hmi, hpi0, hri0, hpi1, hri1, hpq, hrq, hpq0, hrq0, hph, hrh, hph0, hrh0, hRi]
    refine Snd.seq (Snd.of ?_)
    simp -implicitDefEqProofs [List.lookup_cons, eS, lO, lOb, obCls, obFil, iOb, pl2T, pnT, hPz, hRz, hPt, hRt, hPe, hRe, hPi, e1, e1', pur2_tup, pur2_b, pur2_i, pur2_sl, pur_sl, pur_b, pur_v, pur_oslE, rbR_iR, rbR_nil, rbOb_mk, iR_mf, pickOk, -List.all_eq_true, iR_ok, ok0, iR_eq_nil, deIs_nil, hml, hp1, hr1, hT, hT', im1, im2, im3, im4, im5, hmi, hpi0, hri0, hpi1, hri1, hpq, hrq, hpq0, hrq0, hph, hrh, hph0, hrh0, hRi]
    refine Snd.seqpu ?_
    simp -implicitDefEqProofs [List.lookup_cons, eS, lO, lOb, obCls, obFil, iOb, pl2T, pnT, hPz, hRz, hPt, hRt, hPe, hRe, hPi, e1, e1', pur2_tup, pur2_b, pur2_i, pur2_sl, pur_sl, pur_b, pur_v, pur_oslE, rbR_iR, rbR_nil, rbOb_mk, iR_mf, pickOk, -List.all_eq_true, iR_ok, ok0, iR_eq_nil, deIs_nil, hml, hp1, hr1, hT, hT', im1, im2, im3, im4, im5, hmi, hpi0, hri0, hpi1, hri1, hpq, hrq, hpq0, hrq0, hph, hrh, hph0, hrh0, hRi]
    refine Snd.seqpu ?_
    simp -implicitDefEqProofs [List.lookup_cons, eS, lO, lOb, obCls, obFil, iOb, pl2T, pnT, hPz, hRz, hPt, hRt, hPe, hRe, hPi, e1, e1', pur2_tup, pur2_b, pur2_i, pur2_sl, pur_sl, pur_b, pur_v, pur_oslE, rbR_iR, rbR_nil, rbOb_mk, iR_mf, pickOk, -List.all_eq_true, iR_ok, ok0, iR_eq_nil, deIs_nil, hml, hp1, hr1, hT, hT', im1, im2, im3, im4, im5, hmi, hpi0, hri0, hpi1, hri1, hpq, hrq, hpq0, hrq0, hph, hrh, hph0, hrh0, hRi]
    refine drawP_pu _ (by decide) ?_
    simp -implicitDefEqProofs [List.lookup_cons, eS, lO, lOb, obCls, obFil, iOb, pl2T, pnT, hPz, hRz, hPt, hRt, hPe, hRe, hPi, e1, e1', pur2_tup, pur2_b, pur2_i, pur2_sl, pur_sl, pur_b, pur_v, pur_oslE, rbR_iR, rbR_nil, rbOb_mk, iR_mf, pickOk, -List.all_eq_true, iR_ok, ok0, iR_eq_nil, deIs_nil, hml, hp1, hr1, hT, hT', im1, im2, im3, im4, im5, hmi, hpi0, hri0, hpi1, hri1, hpq, hrq, hpq0, hrq0, hph, hrh, hph0, hrh0, hRi]
    refine Snd.seqpu ?_
    simp -implicitDefEqProofs [List.lookup_cons, eS, lO, lOb, obCls, obFil, iOb, pl2T, pnT, hPz, hRz, hPt, hRt, hPe, hRe, hPi, e1, e1', pur2_tup, pur2_b, pur2_i, pur2_sl, pur_sl, pur_b, pur_v, pur_oslE, rbR_iR, rbR_nil, rbOb_mk, iR_mf, pickOk, -List.all_eq_true, iR_ok, ok0, iR_eq_nil, deIs_nil, hml, hp1, hr1, hT, hT', im1, im2, im3, im4, im5, hmi, hpi0, hri0, hpi1, hri1, hpq, hrq, hpq0, hrq0, hph, hrh, hph0, hrh0, hRi]
    refine Snd.seqpu ?_
    simp -implicitDefEqProofs [List.lookup_cons, eS, lO, lOb, obCls, obFil, iOb, pl2T, pnT, hPz, hRz, hPt, hRt, hPe, hRe, hPi, e1, e1', pur2_tup, pur2_b, pur2_i, pur2_sl, pur_sl, pur_b, pur_v, pur_oslE, rbR_iR, rbR_nil, rbOb_mk, iR_mf, pickOk, -List.all_eq_true, iR_ok, ok0, iR_eq_nil, deIs_nil, hml, hp1, hr1, hT, hT', im1, im2, im3, im4, im5, hmi, hpi0, hri0, hpi1, hri1, hpq, hrq, hpq0, hrq0, hph, hrh, hph0, hrh0, hRi]
    refine Snd.seqpu ?_
    simp -implicitDefEqProofs [List.lookup_cons, eS, lO, lOb, obCls, obFil, iOb, pl2T, pnT, hPz, hRz, hPt, hRt, hPe, hRe, hPi, e1, e1', pur2_tup, pur2_b, pur2_i, pur2_sl, pur_sl, pur_b, pur_v, pur_oslE, rbR_iR, rbR_nil, rbOb_mk, iR_mf, pickOk, -List.all_eq_true, iR_ok, ok0, iR_eq_nil, deIs_nil, hml, hp1, hr1, hT, hT', im1, im2, im3, im4, im5, hmi, hpi0, hri0, hpi1, hri1, hpq, hrq, hpq0, hrq0, hph, hrh, hph0, hrh0, hRi]
    refine Snd.seqpu ?_
    simp -implicitDefEqProofs [List.lookup_cons, eS, lO, lOb, obCls, obFil, iOb, pl2T, pnT, hPz, hRz, hPt, hRt, hPe, hRe, hPi, e1, e1', pur2_tup, pur2_b, pur2_i, pur2_sl, pur_sl, pur_b, pur_v, pur_oslE, rbR_iR, rbR_nil, rbOb_mk, iR_mf, pickOk, -List.all_eq_true, iR_ok, ok0, iR_eq_nil, deIs_nil, hml, hp1, hr1, hT, hT', im1, im2, im3, im4, im5, hmi, hpi0, hri0, hpi1, hri1, hpq, hrq, hpq0, hrq0, hph, hrh, hph0, hrh0, hRi]
    refine Snd.seqpu ?_
    simp -implicitDefEqProofs [List.lookup_cons, eS, lO, lOb, obCls, obFil, iOb, pl2T, pnT, hPz, hRz, hPt, hRt, hPe, hRe, hPi, e1, e1', pur2_tup, pur2_b, pur2_i, pur2_sl, pur_sl, pur_b, pur_v, pur_oslE, rbR_iR, rbR_nil, rbOb_mk, iR_mf, pickOk, -List.all_eq_true, iR_ok, ok0, iR_eq_nil, deIs_nil, hml, hp1, hr1, hT, hT', im1, im2, im3, im4, im5, hmi, hpi0, hri0, hpi1, hri1, hpq, hrq, hpq0, hrq0, hph, hrh, hph0, hrh0, hRi]
    refine Snd.seqpu ?_
    simp -implicitDefEqProofs [List.lookup_cons, eS, lO, lOb, obCls, obFil, iOb, pl2T, pnT, hPz, hRz, hPt, hRt, hPe, hRe, hPi, e1, e1', pur2_tup, pur2_b, pur2_i, pur2_sl, pur_sl, pur_b, pur_v, pur_oslE, rbR_iR, rbR_nil, rbOb_mk, iR_mf, pickOk, -List.all_eq_true, iR_ok, ok0, iR_eq_nil, deIs_nil, hml, hp1, hr1, hT, hT', im1, im2, im3, im4, im5, hmi, hpi0, hri0, hpi1, hri1, hpq, hrq, hpq0, hrq0, hph, hrh, hph0, hrh0, hRi]
    refine Snd.seqpu ?_
    simp -implicitDefEqProofs [List.lookup_cons, eS, lO, lOb, obCls, obFil, iOb, pl2T, pnT, hPz, hRz, hPt, hRt, hPe, hRe, hPi, e1, e1', pur2_tup, pur2_b, pur2_i, pur2_sl, pur_sl, pur_b, pur_v, pur_oslE, rbR_iR, rbR_nil, rbOb_mk, iR_mf, pickOk, -List.all_eq_true, iR_ok, ok0, iR_eq_nil, deIs_nil, hml, hp1, hr1, hT, hT', im1, im2, im3, im4, im5, hmi, hpi0, hri0, hpi1, hri1, hpq, hrq, hpq0, hrq0, hph, hrh, hph0, hrh0, hRi]
    refine Snd.seqpu ?_
    simp -implicitDefEqProofs [List.lookup_cons, eS, lO, lOb, obCls, obFil, iOb, pl2T, pnT, hPz, hRz, hPt, hRt, hPe, hRe, hPi, e1, e1', pur2_tup, pur2_b, pur2_i, pur2_sl, pur_sl, pur_b, pur_v, pur_oslE, rbR_iR, rbR_nil, rbOb_mk, iR_mf, pickOk, -List.all_eq_true, iR_ok, ok0, iR_eq_nil, deIs_nil, hml, hp1, hr1, hT, hT', im1, im2, im3, im4, im5, hmi, hpi0, hri0, hpi1, hri1, hpq, hrq, hpq0, hrq0, hph, hrh, hph0, hrh0, hRi]
    refine Snd.seqpu ?_
    simp -implicitDefEqProofs [List.lookup_cons, eS, lO, lOb, obCls, obFil, iOb, pl2T, pnT, hPz, hRz, hPt, hRt, hPe, hRe, hPi, e1, e1', pur2_tup, pur2_b, pur2_i, pur2_sl, pur_sl, pur_b, pur_v, pur_oslE, rbR_iR, rbR_nil, rbOb_mk, iR_mf, pickOk, -List.all_eq_true, iR_ok, ok0, iR_eq_nil, deIs_nil, hml, hp1, hr1, hT, hT', im1, im2, im3, im4, im5, hmi, hpi0, hri0, hpi1, hri1, hpq, hrq, hpq0, hrq0, hph, hrh, hph0, hrh0, hRi]
    refine Snd.seqpu ?_
    simp -implicitDefEqProofs [List.lookup_cons, eS, lO, lOb, obCls, obFil, iOb, pl2T, pnT, hPz, hRz, hPt, hRt, hPe, hRe, hPi, e1, e1', pur2_tup, pur2_b, pur2_i, pur2_sl, pur_sl, pur_b, pur_v, pur_oslE, rbR_iR, rbR_nil, rbOb_mk, iR_mf, pickOk, -List.all_eq_true, iR_ok, ok0, iR_eq_nil, deIs_nil, hml, hp1, hr1, hT, hT', im1, im2, im3, im4, im5, hmi, hpi0, hri0, hpi1, hri1, hpq, hrq, hpq0, hrq0, hph, hrh, hph0, hrh0, hRi]
    refine Snd.seqpu ?_
    simp -implicitDefEqProofs [List.lookup_cons, eS, lO, lOb, obCls, obFil, iOb, pl2T, pnT, hPz, hRz, hPt, hRt, hPe, hRe, hPi, e1, e1', pur2_tup, pur2_b, pur2_i, pur2_sl, pur_sl, pur_b, pur_v, pur_oslE, rbR_iR, rbR_nil, rbOb_mk, iR_mf, pickOk, -List.all_eq_true, iR_ok, ok0, iR_eq_nil, deIs_nil, hml, hp1, hr1, hT, hT', im1, im2, im3, im4, im5, hmi, hpi0, hri0, hpi1, hri1, hpq, hrq, hpq0, hrq0, hph, hrh, hph0, hrh0, hRi]
    refine Snd.seqpu ?_
    simp -implicitDefEqProofs [List.lookup_cons, eS, lO, lOb, obCls, obFil, iOb, pl2T, pnT, hPz, hRz, hPt, hRt, hPe, hRe, hPi, e1, e1', pur2_tup, pur2_b, pur2_i, pur2_sl, pur_sl, pur_b, pur_v, pur_oslE, rbR_iR, rbR_nil, rbOb_mk, iR_mf, pickOk, -List.all_eq_true, iR_ok, ok0, iR_eq_nil, deIs_nil, hml, hp1, hr1, hT, hT', im1, im2, im3, im4, im5, hmi, hpi0, hri0, hpi1, hri1, hpq, hrq, hpq0, hrq0, hph, hrh, hph0, hrh0, hRi]
    refine Snd.seqpu ?_
    simp -implicitDefEqProofs [List.lookup_cons, eS, lO, lOb, obCls, obFil, iOb, pl2T, pnT, hPz, hRz, hPt, hRt, hPe, hRe, hPi, e1, e1', pur2_tup, pur2_b, pur2_i, pur2_sl, pur_sl, pur_b, pur_v, pur_oslE, rbR_iR, rbR_nil, rbOb_mk, iR_mf, pickOk, -List.all_eq_true, iR_ok, ok0, iR_eq_nil, deIs_nil, hml, hp1, hr1, hT, hT', im1, im2, im3, im4, im5, hmi, hpi0, hri0, hpi1, hri1, hpq, hrq, hpq0, hrq0, hph, hrh, hph0, hrh0, hRi]
    refine Snd.seqpu ?_
    simp -implicitDefEqProofs [List.lookup_cons, eS, lO, lOb, obCls, obFil, iOb, pl2T, pnT, hPz, hRz, hPt, hRt, hPe, hRe, hPi, e1, e1', pur2_tup, pur2_b, pur2_i, pur2_sl, pur_sl, pur_b, pur_v, pur_oslE, rbR_iR, rbR_nil, rbOb_mk, iR_mf, pickOk, -List.all_eq_true, iR_ok, ok0, iR_eq_nil, deIs_nil, hml, hp1, hr1, hT, hT', im1, im2, im3, im4, im5, hmi, hpi0, hri0, hpi1, hri1, hpq, hrq, hpq0, hrq0, hph, hrh, hph0, hrh0, hRi]
    refine Snd.seqpu ?_
    simp -implicitDefEqProofs [List.lookup_cons, eS, lO, lOb, obCls, obFil, iOb, pl2T, pnT, hPz, hRz, hPt, hRt, hPe, hRe, hPi, e1, e1', pur2_tup, pur2_b, pur2_i, pur2_sl, pur_sl, pur_b, pur_v, pur_oslE, rbR_iR, rbR_nil, rbOb_mk, iR_mf, pickOk, -List.all_eq_true, iR_ok, ok0, iR_eq_nil, deIs_nil, hml, hp1, hr1, hT, hT', im1, im2, im3, im4, im5, hmi, hpi0, hri0, hpi1, hri1, hpq, hrq, hpq0, hrq0, hph, hrh, hph0, hrh0, hRi]
    refine Snd.of ?_
    simp -implicitDefEqProofs [List.lookup_cons, eS, lO, lOb, obCls, obFil, iOb, pl2T, pnT, hPz, hRz, hPt, hRt, hPe, hRe, hPi, e1, e1', pur2_tup, pur2_b, pur2_i, pur2_sl, pur_sl, pur_b, pur_v, pur_oslE, rbR_iR, rbR_nil, rbOb_mk, iR_mf, pickOk, -List.all_eq_true, iR_ok, ok0, iR_eq_nil, deIs_nil, hml, hp1, hr1, hT, hT', im1, im2, im3, im4, im5, hmi, hpi0, hri0, hpi1, hri1, hpq, hrq, hpq0, hrq0, hph, hrh, hph0, hrh0, hRi]
    refine fin_pure (by simp) ?_
    simp -implicitDefEqProofs [fS, rn0, pickObs, deI]
  | true =>
    have hLB : (dpK x x.cls.length).length ≤ 1048576 := by have h24 := oe.1; have := dpK_len x x.cls.length; omega
    obtain ⟨W, hW⟩ : ∃ W, dpK x x.cls.length = W := ⟨_, rfl⟩
    rw [hW] at hR0 hLB
    have hRi : F55.res [.agg [.v (.string x.name), .sl (tR x.cls), .sl (iR x.par), .sl (iR x.fst), .sl (iR x.nx), .sl (iR x.en), .sl (tR x.fil), .sl (iR x.tgt), I x.dflt]] = (.tup [.osl 0 0, B true], [⟨3, 1, 0, iR W, false, true, none⟩]) := by rw [hR0, g, ansI_t]; rfl
    have iw := iR_mf W
    have hw1 : ¬ (1 : Int) + (W.length : Int) < 0 := by omega
    have hw2 : (0 : Int) ≤ 1 + (W.length : Int) := by omega
    simp only [Tryz.f15, bodyOf, Option.getD_some]
    refine Snd.seqpu ?_
    simp -implicitDefEqProofs [List.lookup_cons, eS, lO, lOb, obCls, obFil, iOb, pl2T, pnT, hPz, hRz, hPt, hRt, hPe, hRe, hPi, e1, e1', pur2_tup, pur2_b, pur2_i, pur2_sl, pur_sl, pur_b, pur_v, pur_oslE, rbR_iR, rbR_nil, rbOb_mk, iR_mf, pickOk, -List.all_eq_true, iR_ok, ok0, iR_eq_nil, deIs_nil, hml, hp1, hr1, hT, hT', im1, im2, im3, im4, im5, hmi, hpi0, hri0, hpi1, hri1, hpq, hrq, hpq0, hrq0, hph, hrh, hph0, hrh0, hRi, hLB, hw1, hw2]
    refine Snd.seqpu ?_
    simp -implicitDefEqProofs [List.lookup_cons, eS, lO, lOb, obCls, obFil, iOb, pl2T, pnT, hPz, hRz, hPt, hRt, hPe, hRe, hPi, e1, e1', pur2_tup, pur2_b, pur2_i, pur2_sl, pur_sl, pur_b, pur_v, pur_oslE, rbR_iR, rbR_nil, rbOb_mk, iR_mf, pickOk, -List.all_eq_true, iR_ok, ok0, iR_eq_nil, deIs_nil, hml, hp1, hr1, hT, hT', im1, im2, im3, im4, im5, hmi, hpi0, hri0, hpi1, hri1, hpq, hrq, hpq0, hrq0, hph, hrh, hph0, hrh0, hRi, hLB, hw1, hw2]
    refine Snd.seqpu ?_
    simp -implicitDefEqProofs [List.lookup_cons, eS, lO, lOb, obCls, obFil, iOb, pl2T, pnT, hPz, hRz, hPt, hRt, hPe, hRe, hPi, e1, e1', pur2_tup, pur2_b, pur2_i, pur2_sl, pur_sl, pur_b, pur_v, pur_oslE, rbR_iR, rbR_nil, rbOb_mk, iR_mf, pickOk, -List.all_eq_true, iR_ok, ok0, iR_eq_nil, deIs_nil, hml, hp1, hr1, hT, hT', im1, im2, im3, im4, im5, hmi, hpi0, hri0, hpi1, hri1, hpq, hrq, hpq0, hrq0, hph, hrh, hph0, hrh0, hRi, hLB, hw1, hw2]
    refine Snd.seqpu ?_
    simp -implicitDefEqProofs [List.lookup_cons, eS, lO, lOb, obCls, obFil, iOb, pl2T, pnT, hPz, hRz, hPt, hRt, hPe, hRe, hPi, e1, e1', pur2_tup, pur2_b, pur2_i, pur2_sl, pur_sl, pur_b, pur_v, pur_oslE, rbR_iR, rbR_nil, rbOb_mk, iR_mf, pickOk, -List.all_eq_true, iR_ok, ok0, iR_eq_nil, deIs_nil, hml, hp1, hr1, hT, hT', im1, im2, im3, im4, im5, hmi, hpi0, hri0, hpi1, hri1, hpq, hrq, hpq0, hrq0, hph, hrh, hph0, hrh0, hRi, hLB, hw1, hw2]
    refine Snd.seqpu ?_
    simp -implicitDefEqProofs [List.lookup_cons, eS, lO, lOb, obCls, obFil, iOb, pl2T, pnT, hPz, hRz, hPt, hRt, hPe, hRe, hPi, e1, e1', pur2_tup, pur2_b, pur2_i, pur2_sl, pur_sl, pur_b, pur_v, pur_oslE, rbR_iR, rbR_nil, rbOb_mk, iR_mf, pickOk, -List.all_eq_true, iR_ok, ok0, iR_eq_nil, deIs_nil, hml, hp1, hr1, hT, hT', im1, im2, im3, im4, im5, hmi, hpi0, hri0, hpi1, hri1, hpq, hrq, hpq0, hrq0, hph, hrh, hph0, hrh0, hRi, hLB, hw1, hw2]
    refine Snd.seq (Snd.of ?_)
    simp -implicitDefEqProofs [List.lookup_cons, eS, lO, lOb, obCls, obFil, iOb, pl2T, pnT, hPz, hRz, hPt, hRt, hPe, hRe, hPi, e1, e1', pur2_tup, pur2_b, pur2_i, pur2_sl, pur_sl, pur_b, pur_v, pur_oslE, rbR_iR, rbR_nil, rbOb_mk, iR_mf, pickOk, -List.all_eq_true, iR_ok, ok0, iR_eq_nil, deIs_nil, hml, hp1, hr1, hT, hT', im1, im2, im3, im4, im5, hmi, hpi0, hri0, hpi1, hri1, hpq, hrq, hpq0, hrq0, hph, hrh, hph0, hrh0, hRi, hLB, hw1, hw2]
    refine Snd.seq (Snd.of ?_)
    simp -implicitDefEqProofs [List.lookup_cons, eS, lO, lOb, obCls, obFil, iOb, pl2T, pnT, hPz, hRz, hPt, hRt, hPe, hRe, hPi, e1, e1', pur2_tup, pur2_b, pur2_i, pur2_sl, pur_sl, pur_b, pur_v, pur_oslE, rbR_iR, rbR_nil, rbOb_mk, iR_mf, pickOk, -List.all_eq_true, iR_ok, ok0, iR_eq_nil, deIs_nil, hml, hp1, hr1, hT, hT', im1, im2, im3, im4, im5, hmi, hpi0, hri0, hpi1, hri1, hpq, hrq, hpq0, hrq0, hph, hrh, hph0, hrh0, hRi, hLB, hw1, hw2]
    refine ⟨Go.Abs.iR_mf _, ?_⟩
    refine Snd.seqpu ?_
    simp -implicitDefEqProofs [List.lookup_cons, eS, lO, lOb, obCls, obFil, iOb, pl2T, pnT, hPz, hRz, hPt, hRt, hPe, hRe, hPi, e1, e1', pur2_tup, pur2_b, pur2_i, pur2_sl, pur_sl, pur_b, pur_v, pur_oslE, rbR_iR, rbR_nil, rbOb_mk, iR_mf, pickOk, -List.all_eq_true, iR_ok, ok0, iR_eq_nil, deIs_nil, hml, hp1, hr1, hT, hT', im1, im2, im3, im4, im5, hmi, hpi0, hri0, hpi1, hri1, hpq, hrq, hpq0, hrq0, hph, hrh, hph0, hrh0, hRi, hLB, hw1, hw2]
    refine Snd.seqpu ?_
    simp -implicitDefEqProofs [List.lookup_cons, eS, lO, lOb, obCls, obFil, iOb, pl2T, pnT, hPz, hRz, hPt, hRt, hPe, hRe, hPi, e1, e1', pur2_tup, pur2_b, pur2_i, pur2_sl, pur_sl, pur_b, pur_v, pur_oslE, rbR_iR, rbR_nil, rbOb_mk, iR_mf, pickOk, -List.all_eq_true, iR_ok, ok0, iR_eq_nil, deIs_nil, hml, hp1, hr1, hT, hT', im1, im2, im3, im4, im5, hmi, hpi0, hri0, hpi1, hri1, hpq, hrq, hpq0, hrq0, hph, hrh, hph0, hrh0, hRi, hLB, hw1, hw2]
    refine drawP_pu _ (by decide) ?_
    simp -implicitDefEqProofs [List.lookup_cons, eS, lO, lOb, obCls, obFil, iOb, pl2T, pnT, hPz, hRz, hPt, hRt, hPe, hRe, hPi, e1, e1', pur2_tup, pur2_b, pur2_i, pur2_sl, pur_sl, pur_b, pur_v, pur_oslE, rbR_iR, rbR_nil, rbOb_mk, iR_mf, pickOk, -List.all_eq_true, iR_ok, ok0, iR_eq_nil, deIs_nil, hml, hp1, hr1, hT, hT', im1, im2, im3, im4, im5, hmi, hpi0, hri0, hpi1, hri1, hpq, hrq, hpq0, hrq0, hph, hrh, hph0, hrh0, hRi, hLB, hw1, hw2]
    refine Snd.seqpu ?_
    simp -implicitDefEqProofs [List.lookup_cons, eS, lO, lOb, obCls, obFil, iOb, pl2T, pnT, hPz, hRz, hPt, hRt, hPe, hRe, hPi, e1, e1', pur2_tup, pur2_b, pur2_i, pur2_sl, pur_sl, pur_b, pur_v, pur_oslE, rbR_iR, rbR_nil, rbOb_mk, iR_mf, pickOk, -List.all_eq_true, iR_ok, ok0, iR_eq_nil, deIs_nil, hml, hp1, hr1, hT, hT', im1, im2, im3, im4, im5, hmi, hpi0, hri0, hpi1, hri1, hpq, hrq, hpq0, hrq0, hph, hrh, hph0, hrh0, hRi, hLB, hw1, hw2]
    refine Snd.seqpu ?_
    simp -implicitDefEqProofs [List.lookup_cons, eS, lO, lOb, obCls, obFil, iOb, pl2T, pnT, hPz, hRz, hPt, hRt, hPe, hRe, hPi, e1, e1', pur2_tup, pur2_b, pur2_i, pur2_sl, pur_sl, pur_b, pur_v, pur_oslE, rbR_iR, rbR_nil, rbOb_mk, iR_mf, pickOk, -List.all_eq_true, iR_ok, ok0, iR_eq_nil, deIs_nil, hml, hp1, hr1, hT, hT', im1, im2, im3, im4, im5, hmi, hpi0, hri0, hpi1, hri1, hpq, hrq, hpq0, hrq0, hph, hrh, hph0, hrh0, hRi, hLB, hw1, hw2]
    refine Snd.seqpu ?_
    simp -implicitDefEqProofs [List.lookup_cons, eS, lO, lOb, obCls, obFil, iOb, pl2T, pnT, hPz, hRz, hPt, hRt, hPe, hRe, hPi, e1, e1', pur2_tup, pur2_b, pur2_i, pur2_sl, pur_sl, pur_b, pur_v, pur_oslE, rbR_iR, rbR_nil, rbOb_mk, iR_mf, pickOk, -List.all_eq_true, iR_ok, ok0, iR_eq_nil, deIs_nil, hml, hp1, hr1, hT, hT', im1, im2, im3, im4, im5, hmi, hpi0, hri0, hpi1, hri1, hpq, hrq, hpq0, hrq0, hph, hrh, hph0, hrh0, hRi, hLB, hw1, hw2]
    refine Snd.seqpu ?_
    simp -implicitDefEqProofs [List.lookup_cons, eS, lO, lOb, obCls, obFil, iOb, pl2T, pnT, hPz, hRz, hPt, hRt, hPe, hRe, hPi, e1, e1', pur2_tup, pur2_b, pur2_i, pur2_sl, pur_sl, pur_b, pur_v, pur_oslE, rbR_iR, rbR_nil, rbOb_mk, iR_mf, pickOk, -List.all_eq_true, iR_ok, ok0, iR_eq_nil, deIs_nil, hml, hp1, hr1, hT, hT', im1, im2, im3, im4, im5, hmi, hpi0, hri0, hpi1, hri1, hpq, hrq, hpq0, hrq0, hph, hrh, hph0, hrh0, hRi, hLB, hw1, hw2]
    refine Snd.seqpu ?_
    simp -implicitDefEqProofs [List.lookup_cons, eS, lO, lOb, obCls, obFil, iOb, pl2T, pnT, hPz, hRz, hPt, hRt, hPe, hRe, hPi, e1, e1', pur2_tup, pur2_b, pur2_i, pur2_sl, pur_sl, pur_b, pur_v, pur_oslE, rbR_iR, rbR_nil, rbOb_mk, iR_mf, pickOk, -List.all_eq_true, iR_ok, ok0, iR_eq_nil, deIs_nil, hml, hp1, hr1, hT, hT', im1, im2, im3, im4, im5, hmi, hpi0, hri0, hpi1, hri1, hpq, hrq, hpq0, hrq0, hph, hrh, hph0, hrh0, hRi, hLB, hw1, hw2]
    refine Snd.seqpu ?_
    simp -implicitDefEqProofs [List.lookup_cons, eS, lO, lOb, obCls, obFil, iOb, pl2T, pnT, hPz, hRz, hPt, hRt, hPe, hRe, hPi, e1, e1', pur2_tup, pur2_b, pur2_i, pur2_sl, pur_sl, pur_b, pur_v, pur_oslE, rbR_iR, rbR_nil, rbOb_mk, iR_mf, pickOk, -List.all_eq_true, iR_ok, ok0, iR_eq_nil, deIs_nil, hml, hp1, hr1, hT, hT', im1, im2, im3, im4, im5, hmi, hpi0, hri0, hpi1, hri1, hpq, hrq, hpq0, hrq0, hph, hrh, hph0, hrh0, hRi, hLB, hw1, hw2]
    refine Snd.seqpu ?_
    simp -implicitDefEqProofs [List.lookup_cons, eS, lO, lOb, obCls, obFil, iOb, pl2T, pnT, hPz, hRz, hPt, hRt, hPe, hRe, hPi, e1, e1', pur2_tup, pur2_b, pur2_i, pur2_sl, pur_sl, pur_b, pur_v, pur_oslE, rbR_iR, rbR_nil, rbOb_mk, iR_mf, pickOk, -List.all_eq_true, iR_ok, ok0, iR_eq_nil, deIs_nil, hml, hp1, hr1, hT, hT', im1, im2, im3, im4, im5, hmi, hpi0, hri0, hpi1, hri1, hpq, hrq, hpq0, hrq0, hph, hrh, hph0, hrh0, hRi, hLB, hw1, hw2]
    refine Snd.seqpu ?_
    simp -implicitDefEqProofs [List.lookup_cons, eS, lO, lOb, obCls, obFil, iOb, pl2T, pnT, hPz, hRz, hPt, hRt, hPe, hRe, hPi, e1, e1', pur2_tup, pur2_b, pur2_i, pur2_sl, pur_sl, pur_b, pur_v, pur_oslE, rbR_iR, rbR_nil, rbOb_mk, iR_mf, pickOk, -List.all_eq_true, iR_ok, ok0, iR_eq_nil, deIs_nil, hml, hp1, hr1, hT, hT', im1, im2, im3, im4, im5, hmi, hpi0, hri0, hpi1, hri1, hpq, hrq, hpq0, hrq0, hph, hrh, hph0, hrh0, hRi, hLB, hw1, hw2]
    refine Snd.seqpu ?_
    simp -implicitDefEqProofs [List.lookup_cons, eS, lO, lOb, obCls, obFil, iOb, pl2T, pnT, hPz, hRz, hPt, hRt, hPe, hRe, hPi, e1, e1', pur2_tup, pur2_b, pur2_i, pur2_sl, pur_sl, pur_b, pur_v, pur_oslE, rbR_iR, rbR_nil, rbOb_mk, iR_mf, pickOk, -List.all_eq_true, iR_ok, ok0, iR_eq_nil, deIs_nil, hml, hp1, hr1, hT, hT', im1, im2, im3, im4, im5, hmi, hpi0, hri0, hpi1, hri1, hpq, hrq, hpq0, hrq0, hph, hrh, hph0, hrh0, hRi, hLB, hw1, hw2]
    refine Snd.seqpu ?_
    simp -implicitDefEqProofs [List.lookup_cons, eS, lO, lOb, obCls, obFil, iOb, pl2T, pnT, hPz, hRz, hPt, hRt, hPe, hRe, hPi, e1, e1', pur2_tup, pur2_b, pur2_i, pur2_sl, pur_sl, pur_b, pur_v, pur_oslE, rbR_iR, rbR_nil, rbOb_mk, iR_mf, pickOk, -List.all_eq_true, iR_ok, ok0, iR_eq_nil, deIs_nil, hml, hp1, hr1, hT, hT', im1, im2, im3, im4, im5, hmi, hpi0, hri0, hpi1, hri1, hpq, hrq, hpq0, hrq0, hph, hrh, hph0, hrh0, hRi, hLB, hw1, hw2]
    refine Snd.seqpu ?_
    simp -implicitDefEqProofs [List.lookup_cons, eS, lO, lOb, obCls, obFil, iOb, pl2T, pnT, hPz, hRz, hPt, hRt, hPe, hRe, hPi, e1, e1', pur2_tup, pur2_b, pur2_i, pur2_sl, pur_sl, pur_b, pur_v, pur_oslE, rbR_iR, rbR_nil, rbOb_mk, iR_mf, pickOk, -List.all_eq_true, iR_ok, ok0, iR_eq_nil, deIs_nil, hml, hp1, hr1, hT, hT', im1, im2, im3, im4, im5, hmi, hpi0, hri0, hpi1, hri1, hpq, hrq, hpq0, hrq0, hph, hrh, hph0, hrh0, hRi, hLB, hw1, hw2]
    refine Snd.seqpu ?_
    simp -implicitDefEqProofs [List.lookup_cons, eS, lO, lOb, obCls, obFil, iOb, pl2T, pnT, hPz, hRz, hPt, hRt, hPe, hRe, hPi, e1, e1', pur2_tup, pur2_b, pur2_i, pur2_sl, pur_sl, pur_b, pur_v, pur_oslE, rbR_iR, rbR_nil, rbOb_mk, iR_mf, pickOk, -List.all_eq_true, iR_ok, ok0, iR_eq_nil, deIs_nil, hml, hp1, hr1, hT, hT', im1, im2, im3, im4, im5, hmi, hpi0, hri0, hpi1, hri1, hpq, hrq, hpq0, hrq0, hph, hrh, hph0, hrh0, hRi, hLB, hw1, hw2]
    refine Snd.seqpu ?_
    simp -implicitDefEqProofs [List.lookup_cons, eS, lO, lOb, obCls, obFil, iOb, pl2T, pnT, hPz, hRz, hPt, hRt, hPe, hRe, hPi, e1, e1', pur2_tup, pur2_b, pur2_i, pur2_sl, pur_sl, pur_b, pur_v, pur_oslE, rbR_iR, rbR_nil, rbOb_mk, iR_mf, pickOk, -List.all_eq_true, iR_ok, ok0, iR_eq_nil, deIs_nil, hml, hp1, hr1, hT, hT', im1, im2, im3, im4, im5, hmi, hpi0, hri0, hpi1, hri1, hpq, hrq, hpq0, hrq0, hph, hrh, hph0, hrh0, hRi, hLB, hw1, hw2]
    refine Snd.seqpu ?_
    simp -implicitDefEqProofs [List.lookup_cons, eS, lO, lOb, obCls, obFil, iOb, pl2T, pnT, hPz, hRz, hPt, hRt, hPe, hRe, hPi, e1, e1', pur2_tup, pur2_b, pur2_i, pur2_sl, pur_sl, pur_b, pur_v, pur_oslE, rbR_iR, rbR_nil, rbOb_mk, iR_mf, pickOk, -List.all_eq_true, iR_ok, ok0, iR_eq_nil, deIs_nil, hml, hp1, hr1, hT, hT', im1, im2, im3, im4, im5, hmi, hpi0, hri0, hpi1, hri1, hpq, hrq, hpq0, hrq0, hph, hrh, hph0, hrh0, hRi, hLB, hw1, hw2]
    refine Snd.seqpu ?_
    simp -implicitDefEqProofs [List.lookup_cons, eS, lO, lOb, obCls, obFil, iOb, pl2T, pnT, hPz, hRz, hPt, hRt, hPe, hRe, hPi, e1, e1', pur2_tup, pur2_b, pur2_i, pur2_sl, pur_sl, pur_b, pur_v, pur_oslE, rbR_iR, rbR_nil, rbOb_mk, iR_mf, pickOk, -List.all_eq_true, iR_ok, ok0, iR_eq_nil, deIs_nil, hml, hp1, hr1, hT, hT', im1, im2, im3, im4, im5, hmi, hpi0, hri0, hpi1, hri1, hpq, hrq, hpq0, hrq0, hph, hrh, hph0, hrh0, hRi, hLB, hw1, hw2]
    refine Snd.of ?_
    simp -implicitDefEqProofs [List.lookup_cons, eS, lO, lOb, obCls, obFil, iOb, pl2T, pnT, hPz, hRz, hPt, hRt, hPe, hRe, hPi, e1, e1', pur2_tup, pur2_b, pur2_i, pur2_sl, pur_sl, pur_b, pur_v, pur_oslE, rbR_iR, rbR_nil, rbOb_mk, iR_mf, pickOk, -List.all_eq_true, iR_ok, ok0, iR_eq_nil, deIs_nil, hml, hp1, hr1, hT, hT', im1, im2, im3, im4, im5, hmi, hpi0, hri0, hpi1, hri1, hpq, hrq, hpq0, hrq0, hph, hrh, hph0, hrh0, hRi, hLB, hw1, hw2]
    refine fin_pure (by simp) ?_
    simp -implicitDefEqProofs [fS, rn0, pickObs, deI]
end Go.Proofs
