/-
  What is proved here: the law of FullTokens. Condition: none.
-/
import Derived.Test.YtdpmlddmdogggaaGreatDoorIL10cj
import Derived.Test.YtdpmlddmdogggaaGreatDoorIL8j
namespace Go.Proofs
open Go.Abs
set_option linter.unusedSimpArgs false
set_option linter.unnecessarySimpa false
set_option linter.unusedVariables false
set_option maxHeartbeats 16000000
set_option maxRecDepth 20000
def mkeT (e : Ldd) : Ldd := mkE e.name 1 (lLen e) e.dflt
theorem pl2T (h : List Ob) (k ver : Nat) : purN h 2 (.osl k ver) = (match h[k]? with
    | some ob => if ob.ver = ver ∧ ob.bx = false then .sl (ob.rows.map fun r => r.map (purN h 1)) else .top
    | none => .top) := rfl
theorem pnT (h : List Ob) : purN h 2 (.v (.slice none 0 0)) = .sl [] := rfl
def F3 : Fun := ⟨fun xs => xs = [.agg (lX (deL (xs.getD 0 .top) : Ldd))] ∧ (fun (x : Ldd) => (bigL x)) (deL (xs.getD 0 .top) : Ldd), fun xs => (fun (x : Ldd) => ((B true, []) : X × List Ob)) (deL (xs.getD 0 .top) : Ldd)⟩
theorem F3_in {xs : List X} (h : F3.pre xs) : ∃ (x : Ldd), xs = [.agg (lX x)] ∧ (bigL x) := ⟨_, h.1, h.2⟩
theorem F3_res (x : Ldd) : F3.res [.agg (lX x)] = (B true, []) := by simp [F3]
theorem F3_mk (x : Ldd) (h : bigL x) : F3.pre [.agg (lX x)] := by simpa [F3] using h
theorem c3 : GenCA K Tryz.prog 3 F3 := by
  refine contractAS Tryz.mix K [(17, F17), (19, F19), (22, F22), (21, F21), (25, F25), (18, F20), (20, F20)] [(23, M23), (24, M24)] [] (by simp [c17, c19, c22, c21, c25, c18, c20]) (by simp [m23, m24]) (by simp) Tryz.func3 rfl (by decide) ?_
  intro xs hxs
  obtain ⟨x, rfl, hp⟩ := F3_in hxs
  rw [F3_res]
  refine ⟨by rw [Tryz.ntmps3]; simp, ?_⟩
  have hb : bigL x := hp
  have hz1 : 0 ≤ lSz x := by unfold lSz; omega
  have hm0 : (0 : Int) ≤ 1048576 := by decide
  have hm1 : (1048576 : Int) ≤ 1048576 := by decide
  have hPz : F17.pre [.agg [.v (.string x.name), .sl (tR x.cls), .sl (iR x.par), .sl (iR x.fst), .sl (iR x.nx), .sl (iR x.en), .sl (tR x.fil), .sl (iR x.tgt), I x.dflt], .v (.int .i64 1048576)] := F17_mk x 1048576 ⟨hb, hm0, hm1⟩
  have hRz0 : F17.res [.agg [.v (.string x.name), .sl (tR x.cls), .sl (iR x.par), .sl (iR x.fst), .sl (iR x.nx), .sl (iR x.en), .sl (tR x.fil), .sl (iR x.tgt), I x.dflt], .v (.int .i64 1048576)] = (I (if (1048576 : Int) < lSz x then -1 else 1048576 - lSz x), []) := F17_res x 1048576
  by_cases h1 : (1048576 : Int) < lSz x
  · have hRz : F17.res [.agg [.v (.string x.name), .sl (tR x.cls), .sl (iR x.par), .sl (iR x.fst), .sl (iR x.nx), .sl (iR x.en), .sl (tR x.fil), .sl (iR x.tgt), I x.dflt], .v (.int .i64 1048576)] = (I (-1), []) := by rw [hRz0, if_pos h1]
    refine Snd.of ?_
    simp -implicitDefEqProofs [Tryz.f3, List.lookup_cons, eS, hPz, hRz]
    refine fin_pure (by simp) ?_
    simp -implicitDefEqProofs [fS, rn0, pickObs, deI]
  have hRz : F17.res [.agg [.v (.string x.name), .sl (tR x.cls), .sl (iR x.par), .sl (iR x.fst), .sl (iR x.nx), .sl (iR x.en), .sl (tR x.fil), .sl (iR x.tgt), I x.dflt], .v (.int .i64 1048576)] = (I (1048576 - lSz x), []) := by rw [hRz0, if_neg h1]
  have e1 : ¬ (1048576 : Int) - lSz x < 0 := by omega
  have e1' : lSz x ≤ 1048576 := by omega
  have hok : okM x := okM_of h1 (Int.le_refl _)
  have oe := hok.1
  have hPt : F19.pre [.agg [.v (.string x.name), .sl (tR x.cls), .sl (iR x.par), .sl (iR x.fst), .sl (iR x.nx), .sl (iR x.en), .sl (tR x.fil), .sl (iR x.tgt), I x.dflt]] := F19_mk x oe
  have hRt : F19.res [.agg [.v (.string x.name), .sl (tR x.cls), .sl (iR x.par), .sl (iR x.fst), .sl (iR x.nx), .sl (iR x.en), .sl (tR x.fil), .sl (iR x.tgt), I x.dflt]] = (lO x, lOb x) := F19_res x
  have hPe : F22.pre [.agg [.v (.string x.name), .sl (tR x.cls), .sl (iR x.par), .sl (iR x.fst), .sl (iR x.nx), .sl (iR x.en), .sl (tR x.fil), .sl (iR x.tgt), I x.dflt], .agg [.v (.string x.name), .sl (tR x.cls), .sl (iR x.par), .sl (iR x.fst), .sl (iR x.nx), .sl (iR x.en), .sl (tR x.fil), .sl (iR x.tgt), I x.dflt]] := ⟨x, rfl, oe⟩
  have hRe : F22.res [.agg [.v (.string x.name), .sl (tR x.cls), .sl (iR x.par), .sl (iR x.fst), .sl (iR x.nx), .sl (iR x.en), .sl (tR x.fil), .sl (iR x.tgt), I x.dflt], .agg [.v (.string x.name), .sl (tR x.cls), .sl (iR x.par), .sl (iR x.fst), .sl (iR x.nx), .sl (iR x.en), .sl (tR x.fil), .sl (iR x.tgt), I x.dflt]] = (B true, []) := rfl
  have hPi : F20.pre [.agg [.v (.string x.name), .sl (tR x.cls), .sl (iR x.par), .sl (iR x.fst), .sl (iR x.nx), .sl (iR x.en), .sl (tR x.fil), .sl (iR x.tgt), I x.dflt]] := F20_mk x hok
  have hml : M23.mu = [true] := rfl
  have hp1 : M23.pre [.agg [.v (.string x.name), .osl 0 0, .osl 1 0, .osl 2 0, .osl 3 0, .osl 4 0, .osl 5 0, .osl 6 0, I x.dflt], .v (.int .i64 1)] [⟨81, 8, 0, tR x.cls, false, true, none⟩, ⟨3, 1, 0, iR x.par, false, true, none⟩, ⟨3, 1, 0, iR x.fst, false, true, none⟩, ⟨3, 1, 0, iR x.nx, false, true, none⟩, ⟨3, 1, 0, iR x.en, false, true, none⟩, ⟨103, 5, 0, tR x.fil, false, true, none⟩, ⟨3, 1, 0, iR x.tgt, false, true, none⟩] := .inl ⟨x, 1, rfl, rfl, oe, by omega, by omega⟩
  have hr1 : M23.res [.agg [.v (.string x.name), .osl 0 0, .osl 1 0, .osl 2 0, .osl 3 0, .osl 4 0, .osl 5 0, .osl 6 0, I x.dflt], .v (.int .i64 1)] [⟨81, 8, 0, tR x.cls, false, true, none⟩, ⟨3, 1, 0, iR x.par, false, true, none⟩, ⟨3, 1, 0, iR x.fst, false, true, none⟩, ⟨3, 1, 0, iR x.nx, false, true, none⟩, ⟨3, 1, 0, iR x.en, false, true, none⟩, ⟨103, 5, 0, tR x.fil, false, true, none⟩, ⟨3, 1, 0, iR x.tgt, false, true, none⟩] = (I (lTot 1 (lLen x) 7), [⟨81, 8, 0, tR (mkeT x).cls, false, true, none⟩, ⟨3, 1, 0, iR (mkeT x).par, false, true, none⟩, ⟨3, 1, 0, iR (mkeT x).fst, false, true, none⟩, ⟨3, 1, 0, iR (mkeT x).nx, false, true, none⟩, ⟨3, 1, 0, iR (mkeT x).en, false, true, none⟩, ⟨103, 5, 0, tR (mkeT x).fil, false, true, none⟩, ⟨3, 1, 0, iR (mkeT x).tgt, false, true, none⟩]) := mkL_res x 1
  have hT : ¬ lTot 1 (lLen x) 7 < 0 := by
    simp only [lTot]
    omega
  obtain ⟨Y, hY⟩ : ∃ Y, mkeT x = Y := ⟨_, rfl⟩
  obtain ⟨T, hTT⟩ : ∃ T, lTot 1 (lLen x) 7 = T := ⟨_, rfl⟩
  rw [hY, hTT] at hr1
  rw [hTT] at hT
  have hT' : 0 ≤ T := by omega
  have im1 := iR_mf x.par
  have im2 := iR_mf x.fst
  have im3 := iR_mf x.nx
  have im4 := iR_mf x.en
  have im5 := iR_mf x.tgt
  have hmi : M24.mu = [true] := rfl
  have hpi0 : M24.pre [.agg [.sl [], .sl []], .v (.int .i64 1)] [] := .inr ⟨1, rfl, rfl, by omega, by omega⟩
  have hri0 : M24.res [.agg [.sl [], .sl []], .v (.int .i64 1)] [] = (I 1, []) := rfl
  have hpi1 : ∀ t : Tok, okT t → M24.pre [.agg [.osl 0 0, .osl 1 0], .v (.int .i64 1)] [⟨3, 1, 0, iR t.r, false, true, none⟩, ⟨3, 1, 0, iR t.c, false, true, none⟩] := fun t h => .inl ⟨t, 1, rfl, rfl, h, by omega, by omega⟩
  have hri1 : ∀ t : Tok, M24.res [.agg [.osl 0 0, .osl 1 0], .v (.int .i64 1)] [⟨3, 1, 0, iR t.r, false, true, none⟩, ⟨3, 1, 0, iR t.c, false, true, none⟩] = (I (1 + (t.r.length : Int) + (t.c.length : Int)), [⟨3, 1, 0, iR (upI 1 t.r.length), false, true, none⟩, ⟨3, 1, 0, iR (upI (1 + (t.r.length : Int)) t.c.length), false, true, none⟩]) := fun t => mkT_res t 1
  have hpq : ∀ t : Tok, okT t → F21.pre [.agg [.sl (iR t.r), .sl (iR t.c)], .agg [.sl (iR t.r), .sl (iR t.c)]] := fun t h => ⟨t, rfl, h⟩
  have hrq : ∀ t : Tok, F21.res [.agg [.sl (iR t.r), .sl (iR t.c)], .agg [.sl (iR t.r), .sl (iR t.c)]] = (B true, []) := fun t => rfl
  have hpq0 : F21.pre [.agg [.sl [], .sl []], .agg [.sl [], .sl []]] := ⟨nilTk, rfl, by simp [okT, nilTk]⟩
  have hrq0 : F21.res [.agg [.sl [], .sl []], .agg [.sl [], .sl []]] = (B true, []) := rfl
  have hph : ∀ n m : Nat, n ≤ 1048576 → m ≤ 1048576 → F25.pre [.agg [.sl (iR (upI 1 n)), .sl (iR (upI (1 + (n : Int)) m))], .v (.int .i64 1)] := fun n m h h' => ⟨1, n, m, rfl, h, h', by omega, by omega⟩
  have hrh : ∀ n m : Nat, F25.res [.agg [.sl (iR (upI 1 n)), .sl (iR (upI (1 + (n : Int)) m))], .v (.int .i64 1)] = (I (1 + (n : Int) + (m : Int)), []) := fun n m => heT_res 1 n m
  have hph0 : F25.pre [.agg [.sl [], .sl []], .v (.int .i64 1)] := hph 0 0 (by omega) (by omega)
  have hrh0 : F25.res [.agg [.sl [], .sl []], .v (.int .i64 1)] = (I 1, []) := hrh 0 0
  have hR0 : F20.res [.agg [.v (.string x.name), .sl (tR x.cls), .sl (iR x.par), .sl (iR x.fst), .sl (iR x.nx), .sl (iR x.en), .sl (tR x.fil), .sl (iR x.tgt), I x.dflt]] = fuX x := F20_res x
  cases g : isLd x with
  | false =>
    have hRi : F20.res [.agg [.v (.string x.name), .sl (tR x.cls), .sl (iR x.par), .sl (iR x.fst), .sl (iR x.nx), .sl (iR x.en), .sl (tR x.fil), .sl (iR x.tgt), I x.dflt]] = (.tup [.agg [.sl [], .sl []], B false], []) := by rw [hR0]; simp [fuX, g, nilTk, iR]
    simp only [Tryz.f3, bodyOf, Option.getD_some]
    refine Snd.seqpu ?_
    simp -implicitDefEqProofs [List.lookup_cons, eS, lO, lOb, obCls, obFil, iOb, pl2T, pnT, hPz, hRz, hPt, hRt, hPe, hRe, hPi, e1, e1', pur2_tup, pur2_b, pur2_i, pur2_sl, pur_sl, pur_b, pur_v, pur_oslE, rbR_iR, rbR_nil, rbOb_mk, iR_mf, pickOk, -List.all_eq_true, iR_ok, ok0, iR_eq_nil, deIs_nil, hml, hp1, hr1, hT, hT', im1, im2, im3, im4, im5, hmi, hpi0, hri0, hpi1, hri1, hpq, hrq, hpq0, hrq0, hph, hrh, hph0, hrh0, hRi]
    refine Snd.seqpu ?_
    simp -implicitDefEqProofs [List.lookup_cons, eS, lO, lOb, obCls, obFil, iOb, pl2T, pnT, hPz, hRz, hPt, hRt, hPe, hRe, hPi, e1, e1', pur2_tup, pur2_b, pur2_i, pur2_sl, pur_sl, pur_b, pur_v, pur_oslE, rbR_iR, rbR_nil, rbOb_mk, iR_mf, pickOk, -List.all_eq_true, iR_ok, ok0, iR_eq_nil, deIs_nil, hml, hp1, hr1, hT, hT', im1, im2, im3, im4, im5, hmi, hpi0, hri0, hpi1, hri1, hpq, hrq, hpq0, hrq0, hph, hrh, hph0, hrh0, hRi]
    refine Snd.seqpu ?_
    simp -implicitDefEqProofs [List.lookup_cons, eS, lO, lOb, obCls, obFil, iOb, pl2T, pnT, hPz, hRz, hPt, hRt, hPe, hRe, hPi, e1, e1', pur2_tup, pur2_b, pur2_i, pur2_sl, pur_sl, pur_b, pur_v, pur_oslE, rbR_iR, rbR_nil, rbOb_mk, iR_mf, pickOk, -List.all_eq_true, iR_ok, ok0, iR_eq_nil, deIs_nil, hml, hp1, hr1, hT, hT', im1, im2, im3, im4, im5, hmi, hpi0, hri0, hpi1, hri1, hpq, hrq, hpq0, hrq0, hph, hrh, hph0, hrh0, hRi]
    refine Snd.seqpu ?_
    simp -implicitDefEqProofs [List.lookup_cons, eS, lO, lOb, obCls, obFil, iOb, pl2T, pnT, hPz, hRz, hPt, hRt, hPe, hRe, hPi, e1, e1', pur2_tup, pur2_b, pur2_i, pur2_sl, pur_sl, pur_b, pur_v, pur_oslE, rbR_iR, rbR_nil, rbOb_mk, iR_mf, pickOk, -List.all_eq_true, iR_ok, ok0, iR_eq_nil, deIs_nil, hml, hp1, hr1, hT, hT', im1, im2, im3, im4, im5, hmi, hpi0, hri0, hpi1, hri1, hpq, hrq, hpq0, hrq0, hph, hrh, hph0, hrh0, hRi]
    refine Snd.seqpu ?_
    simp -implicitDefEqProofs [List.lookup_cons, eS, lO, lOb, obCls, obFil, iOb, pl2T, pnT, hPz, hRz, hPt, hRt, hPe, hRe, hPi, e1, e1', pur2_tup, pur2_b, pur2_i, pur2_sl, pur_sl, pur_b, pur_v, pur_oslE, rbR_iR, rbR_nil, rbOb_mk, iR_mf, pickOk, -List.all_eq_true, iR_ok, ok0, iR_eq_nil, deIs_nil, hml, hp1, hr1, hT, hT', im1, im2, im3, im4, im5, hmi, hpi0, hri0, hpi1, hri1, hpq, hrq, hpq0, hrq0, hph, hrh, hph0, hrh0, hRi]
    refine Snd.seq (Snd.of ?_)
    simp -implicitDefEqProofs [List.lookup_cons, eS, lO, lOb, obCls, obFil, iOb, pl2T, pnT, hPz, hRz, hPt, hRt, hPe, hRe, hPi, e1, e1', pur2_tup, pur2_b, pur2_i, pur2_sl, pur_sl, pur_b, pur_v, pur_oslE, rbR_iR, rbR_nil, rbOb_mk, iR_mf, pickOk, -List.all_eq_true, iR_ok, ok0, iR_eq_nil, deIs_nil, hml, hp1, hr1, hT, hT', im1, im2, im3, im4, im5, hmi, hpi0, hri0, hpi1, hri1, hpq, hrq, hpq0, hrq0, hph, hrh, hph0, hrh0, hRi]
    refine Snd.seq (Snd.of ?_)
    simp -implicitDefEqProofs [List.lookup_cons, eS, lO, lOb, obCls, obFil, iOb, pl2T, pnT, hPz, hRz, hPt, hRt, hPe, hRe, hPi, e1, e1', pur2_tup, pur2_b, pur2_i, pur2_sl, pur_sl, pur_b, pur_v, pur_oslE, rbR_iR, rbR_nil, rbOb_mk, iR_mf, pickOk, -List.all_eq_true, iR_ok, ok0, iR_eq_nil, deIs_nil, hml, hp1, hr1, hT, hT', im1, im2, im3, im4, im5, hmi, hpi0, hri0, hpi1, hri1, hpq, hrq, hpq0, hrq0, hph, hrh, hph0, hrh0, hRi]
    refine Snd.seqpu ?_
    simp -implicitDefEqProofs [List.lookup_cons, eS, lO, lOb, obCls, obFil, iOb, pl2T, pnT, hPz, hRz, hPt, hRt, hPe, hRe, hPi, e1, e1', pur2_tup, pur2_b, pur2_i, pur2_sl, pur_sl, pur_b, pur_v, pur_oslE, rbR_iR, rbR_nil, rbOb_mk, iR_mf, pickOk, -List.all_eq_true, iR_ok, ok0, iR_eq_nil, deIs_nil, hml, hp1, hr1, hT, hT', im1, im2, im3, im4, im5, hmi, hpi0, hri0, hpi1, hri1, hpq, hrq, hpq0, hrq0, hph, hrh, hph0, hrh0, hRi]
    refine Snd.seqpu ?_
    simp -implicitDefEqProofs [List.lookup_cons, eS, lO, lOb, obCls, obFil, iOb, pl2T, pnT, hPz, hRz, hPt, hRt, hPe, hRe, hPi, e1, e1', pur2_tup, pur2_b, pur2_i, pur2_sl, pur_sl, pur_b, pur_v, pur_oslE, rbR_iR, rbR_nil, rbOb_mk, iR_mf, pickOk, -List.all_eq_true, iR_ok, ok0, iR_eq_nil, deIs_nil, hml, hp1, hr1, hT, hT', im1, im2, im3, im4, im5, hmi, hpi0, hri0, hpi1, hri1, hpq, hrq, hpq0, hrq0, hph, hrh, hph0, hrh0, hRi]
    refine drawP_pu _ (by decide) ?_
    simp -implicitDefEqProofs [List.lookup_cons, eS, lO, lOb, obCls, obFil, iOb, pl2T, pnT, hPz, hRz, hPt, hRt, hPe, hRe, hPi, e1, e1', pur2_tup, pur2_b, pur2_i, pur2_sl, pur_sl, pur_b, pur_v, pur_oslE, rbR_iR, rbR_nil, rbOb_mk, iR_mf, pickOk, -List.all_eq_true, iR_ok, ok0, iR_eq_nil, deIs_nil, hml, hp1, hr1, hT, hT', im1, im2, im3, im4, im5, hmi, hpi0, hri0, hpi1, hri1, hpq, hrq, hpq0, hrq0, hph, hrh, hph0, hrh0, hRi]
    refine Snd.seqpu ?_
    simp -implicitDefEqProofs [List.lookup_cons, eS, lO, lOb, obCls, obFil, iOb, pl2T, pnT, hPz, hRz, hPt, hRt, hPe, hRe, hPi, e1, e1', pur2_tup, pur2_b, pur2_i, pur2_sl, pur_sl, pur_b, pur_v, pur_oslE, rbR_iR, rbR_nil, rbOb_mk, iR_mf, pickOk, -List.all_eq_true, iR_ok, ok0, iR_eq_nil, deIs_nil, hml, hp1, hr1, hT, hT', im1, im2, im3, im4, im5, hmi, hpi0, hri0, hpi1, hri1, hpq, hrq, hpq0, hrq0, hph, hrh, hph0, hrh0, hRi]
    refine Snd.seqpu ?_
    simp -implicitDefEqProofs [List.lookup_cons, eS, lO, lOb, obCls, obFil, iOb, pl2T, pnT, hPz, hRz, hPt, hRt, hPe, hRe, hPi, e1, e1', pur2_tup, pur2_b, pur2_i, pur2_sl, pur_sl, pur_b, pur_v, pur_oslE, rbR_iR, rbR_nil, rbOb_mk, iR_mf, pickOk, -List.all_eq_true, iR_ok, ok0, iR_eq_nil, deIs_nil, hml, hp1, hr1, hT, hT', im1, im2, im3, im4, im5, hmi, hpi0, hri0, hpi1, hri1, hpq, hrq, hpq0, hrq0, hph, hrh, hph0, hrh0, hRi]
    refine Snd.seqpu ?_
    simp -implicitDefEqProofs [List.lookup_cons, eS, lO, lOb, obCls, obFil, iOb, pl2T, pnT, hPz, hRz, hPt, hRt, hPe, hRe, hPi, e1, e1', pur2_tup, pur2_b, pur2_i, pur2_sl, pur_sl, pur_b, pur_v, pur_oslE, rbR_iR, rbR_nil, rbOb_mk, iR_mf, pickOk, -List.all_eq_true, iR_ok, ok0, iR_eq_nil, deIs_nil, hml, hp1, hr1, hT, hT', im1, im2, im3, im4, im5, hmi, hpi0, hri0, hpi1, hri1, hpq, hrq, hpq0, hrq0, hph, hrh, hph0, hrh0, hRi]
    refine Snd.seqpu ?_
    simp -implicitDefEqProofs [List.lookup_cons, eS, lO, lOb, obCls, obFil, iOb, pl2T, pnT, hPz, hRz, hPt, hRt, hPe, hRe, hPi, e1, e1', pur2_tup, pur2_b, pur2_i, pur2_sl, pur_sl, pur_b, pur_v, pur_oslE, rbR_iR, rbR_nil, rbOb_mk, iR_mf, pickOk, -List.all_eq_true, iR_ok, ok0, iR_eq_nil, deIs_nil, hml, hp1, hr1, hT, hT', im1, im2, im3, im4, im5, hmi, hpi0, hri0, hpi1, hri1, hpq, hrq, hpq0, hrq0, hph, hrh, hph0, hrh0, hRi]
    refine Snd.seqpu ?_
    simp -implicitDefEqProofs [List.lookup_cons, eS, lO, lOb, obCls, obFil, iOb, pl2T, pnT, hPz, hRz, hPt, hRt, hPe, hRe, hPi, e1, e1', pur2_tup, pur2_b, pur2_i, pur2_sl, pur_sl, pur_b, pur_v, pur_oslE, rbR_iR, rbR_nil, rbOb_mk, iR_mf, pickOk, -List.all_eq_true, iR_ok, ok0, iR_eq_nil, deIs_nil, hml, hp1, hr1, hT, hT', im1, im2, im3, im4, im5, hmi, hpi0, hri0, hpi1, hri1, hpq, hrq, hpq0, hrq0, hph, hrh, hph0, hrh0, hRi]
    refine Snd.seqpu ?_
    simp -implicitDefEqProofs [List.lookup_cons, eS, lO, lOb, obCls, obFil, iOb, pl2T, pnT, hPz, hRz, hPt, hRt, hPe, hRe, hPi, e1, e1', pur2_tup, pur2_b, pur2_i, pur2_sl, pur_sl, pur_b, pur_v, pur_oslE, rbR_iR, rbR_nil, rbOb_mk, iR_mf, pickOk, -List.all_eq_true, iR_ok, ok0, iR_eq_nil, deIs_nil, hml, hp1, hr1, hT, hT', im1, im2, im3, im4, im5, hmi, hpi0, hri0, hpi1, hri1, hpq, hrq, hpq0, hrq0, hph, hrh, hph0, hrh0, hRi]
    refine Snd.seqpu ?_
    simp -implicitDefEqProofs [List.lookup_cons, eS, lO, lOb, obCls, obFil, iOb, pl2T, pnT, hPz, hRz, hPt, hRt, hPe, hRe, hPi, e1, e1', pur2_tup, pur2_b, pur2_i, pur2_sl, pur_sl, pur_b, pur_v, pur_oslE, rbR_iR, rbR_nil, rbOb_mk, iR_mf, pickOk, -List.all_eq_true, iR_ok, ok0, iR_eq_nil, deIs_nil, hml, hp1, hr1, hT, hT', im1, im2, im3, im4, im5, hmi, hpi0, hri0, hpi1, hri1, hpq, hrq, hpq0, hrq0, hph, hrh, hph0, hrh0, hRi]
    refine Snd.seqpu ?_
    simp -implicitDefEqProofs [List.lookup_cons, eS, lO, lOb, obCls, obFil, iOb, pl2T, pnT, hPz, hRz, hPt, hRt, hPe, hRe, hPi, e1, e1', pur2_tup, pur2_b, pur2_i, pur2_sl, pur_sl, pur_b, pur_v, pur_oslE, rbR_iR, rbR_nil, rbOb_mk, iR_mf, pickOk, -List.all_eq_true, iR_ok, ok0, iR_eq_nil, deIs_nil, hml, hp1, hr1, hT, hT', im1, im2, im3, im4, im5, hmi, hpi0, hri0, hpi1, hri1, hpq, hrq, hpq0, hrq0, hph, hrh, hph0, hrh0, hRi]
    refine Snd.seqpu ?_
    simp -implicitDefEqProofs [List.lookup_cons, eS, lO, lOb, obCls, obFil, iOb, pl2T, pnT, hPz, hRz, hPt, hRt, hPe, hRe, hPi, e1, e1', pur2_tup, pur2_b, pur2_i, pur2_sl, pur_sl, pur_b, pur_v, pur_oslE, rbR_iR, rbR_nil, rbOb_mk, iR_mf, pickOk, -List.all_eq_true, iR_ok, ok0, iR_eq_nil, deIs_nil, hml, hp1, hr1, hT, hT', im1, im2, im3, im4, im5, hmi, hpi0, hri0, hpi1, hri1, hpq, hrq, hpq0, hrq0, hph, hrh, hph0, hrh0, hRi]
    refine Snd.seqpu ?_
    simp -implicitDefEqProofs [List.lookup_cons, eS, lO, lOb, obCls, obFil, iOb, pl2T, pnT, hPz, hRz, hPt, hRt, hPe, hRe, hPi, e1, e1', pur2_tup, pur2_b, pur2_i, pur2_sl, pur_sl, pur_b, pur_v, pur_oslE, rbR_iR, rbR_nil, rbOb_mk, iR_mf, pickOk, -List.all_eq_true, iR_ok, ok0, iR_eq_nil, deIs_nil, hml, hp1, hr1, hT, hT', im1, im2, im3, im4, im5, hmi, hpi0, hri0, hpi1, hri1, hpq, hrq, hpq0, hrq0, hph, hrh, hph0, hrh0, hRi]
    refine Snd.seqpu ?_
    simp -implicitDefEqProofs [List.lookup_cons, eS, lO, lOb, obCls, obFil, iOb, pl2T, pnT, hPz, hRz, hPt, hRt, hPe, hRe, hPi, e1, e1', pur2_tup, pur2_b, pur2_i, pur2_sl, pur_sl, pur_b, pur_v, pur_oslE, rbR_iR, rbR_nil, rbOb_mk, iR_mf, pickOk, -List.all_eq_true, iR_ok, ok0, iR_eq_nil, deIs_nil, hml, hp1, hr1, hT, hT', im1, im2, im3, im4, im5, hmi, hpi0, hri0, hpi1, hri1, hpq, hrq, hpq0, hrq0, hph, hrh, hph0, hrh0, hRi]
    refine Snd.seqpu ?_
    simp -implicitDefEqProofs [List.lookup_cons, eS, lO, lOb, obCls, obFil, iOb, pl2T, pnT, hPz, hRz, hPt, hRt, hPe, hRe, hPi, e1, e1', pur2_tup, pur2_b, pur2_i, pur2_sl, pur_sl, pur_b, pur_v, pur_oslE, rbR_iR, rbR_nil, rbOb_mk, iR_mf, pickOk, -List.all_eq_true, iR_ok, ok0, iR_eq_nil, deIs_nil, hml, hp1, hr1, hT, hT', im1, im2, im3, im4, im5, hmi, hpi0, hri0, hpi1, hri1, hpq, hrq, hpq0, hrq0, hph, hrh, hph0, hrh0, hRi]
    refine Snd.seqpu ?_
    simp -implicitDefEqProofs [List.lookup_cons, eS, lO, lOb, obCls, obFil, iOb, pl2T, pnT, hPz, hRz, hPt, hRt, hPe, hRe, hPi, e1, e1', pur2_tup, pur2_b, pur2_i, pur2_sl, pur_sl, pur_b, pur_v, pur_oslE, rbR_iR, rbR_nil, rbOb_mk, iR_mf, pickOk, -List.all_eq_true, iR_ok, ok0, iR_eq_nil, deIs_nil, hml, hp1, hr1, hT, hT', im1, im2, im3, im4, im5, hmi, hpi0, hri0, hpi1, hri1, hpq, hrq, hpq0, hrq0, hph, hrh, hph0, hrh0, hRi]
    refine Snd.seqpu ?_
    simp -implicitDefEqProofs [List.lookup_cons, eS, lO, lOb, obCls, obFil, iOb, pl2T, pnT, hPz, hRz, hPt, hRt, hPe, hRe, hPi, e1, e1', pur2_tup, pur2_b, pur2_i, pur2_sl, pur_sl, pur_b, pur_v, pur_oslE, rbR_iR, rbR_nil, rbOb_mk, iR_mf, pickOk, -List.all_eq_true, iR_ok, ok0, iR_eq_nil, deIs_nil, hml, hp1, hr1, hT, hT', im1, im2, im3, im4, im5, hmi, hpi0, hri0, hpi1, hri1, hpq, hrq, hpq0, hrq0, hph, hrh, hph0, hrh0, hRi]
    refine Snd.seqpu ?_
    simp -implicitDefEqProofs [List.lookup_cons, eS, lO, lOb, obCls, obFil, iOb, pl2T, pnT, hPz, hRz, hPt, hRt, hPe, hRe, hPi, e1, e1', pur2_tup, pur2_b, pur2_i, pur2_sl, pur_sl, pur_b, pur_v, pur_oslE, rbR_iR, rbR_nil, rbOb_mk, iR_mf, pickOk, -List.all_eq_true, iR_ok, ok0, iR_eq_nil, deIs_nil, hml, hp1, hr1, hT, hT', im1, im2, im3, im4, im5, hmi, hpi0, hri0, hpi1, hri1, hpq, hrq, hpq0, hrq0, hph, hrh, hph0, hrh0, hRi]
    refine Snd.of ?_
    simp -implicitDefEqProofs [List.lookup_cons, eS, lO, lOb, obCls, obFil, iOb, pl2T, pnT, hPz, hRz, hPt, hRt, hPe, hRe, hPi, e1, e1', pur2_tup, pur2_b, pur2_i, pur2_sl, pur_sl, pur_b, pur_v, pur_oslE, rbR_iR, rbR_nil, rbOb_mk, iR_mf, pickOk, -List.all_eq_true, iR_ok, ok0, iR_eq_nil, deIs_nil, hml, hp1, hr1, hT, hT', im1, im2, im3, im4, im5, hmi, hpi0, hri0, hpi1, hri1, hpq, hrq, hpq0, hrq0, hph, hrh, hph0, hrh0, hRi]
    refine fin_pure (by simp) ?_
    simp -implicitDefEqProofs [fS, rn0, pickObs, deI]
  | true =>
    have hLB : okT (fullT x) := by
      have h24 := oe.1
      simp only [okT, fullT, List.length_map]
      omega
    obtain ⟨W, hW⟩ : ∃ W, fullT x = W := ⟨_, rfl⟩
    have hRi : F20.res [.agg [.v (.string x.name), .sl (tR x.cls), .sl (iR x.par), .sl (iR x.fst), .sl (iR x.nx), .sl (iR x.en), .sl (tR x.fil), .sl (iR x.tgt), I x.dflt]] = (.tup [.agg [.osl 0 0, .osl 1 0], B true], [⟨3, 1, 0, iR W.r, false, true, none⟩, ⟨3, 1, 0, iR W.c, false, true, none⟩]) := by rw [hR0, ← hW]; simp [fuX, g, kO, kOb, iOb]
    rw [hW] at hLB
    have hL1 := hLB.1
    have hL2 := hLB.2
    have iw := iR_mf W.r
    have iw2 := iR_mf W.c
    have hw1 : ¬ (1 : Int) + (W.r.length : Int) + (W.c.length : Int) < 0 := by omega
    have hw2 : (0 : Int) ≤ 1 + (W.r.length : Int) + (W.c.length : Int) := by omega
    simp only [Tryz.f3, bodyOf, Option.getD_some]
    refine Snd.seqpu ?_
    simp -implicitDefEqProofs [List.lookup_cons, eS, lO, lOb, obCls, obFil, iOb, pl2T, pnT, hPz, hRz, hPt, hRt, hPe, hRe, hPi, e1, e1', pur2_tup, pur2_b, pur2_i, pur2_sl, pur_sl, pur_b, pur_v, pur_oslE, rbR_iR, rbR_nil, rbOb_mk, iR_mf, pickOk, -List.all_eq_true, iR_ok, ok0, iR_eq_nil, deIs_nil, hml, hp1, hr1, hT, hT', im1, im2, im3, im4, im5, hmi, hpi0, hri0, hpi1, hri1, hpq, hrq, hpq0, hrq0, hph, hrh, hph0, hrh0, hRi, hLB, hL1, hL2, hw1, hw2, kO, kOb]
    refine Snd.seqpu ?_
    simp -implicitDefEqProofs [List.lookup_cons, eS, lO, lOb, obCls, obFil, iOb, pl2T, pnT, hPz, hRz, hPt, hRt, hPe, hRe, hPi, e1, e1', pur2_tup, pur2_b, pur2_i, pur2_sl, pur_sl, pur_b, pur_v, pur_oslE, rbR_iR, rbR_nil, rbOb_mk, iR_mf, pickOk, -List.all_eq_true, iR_ok, ok0, iR_eq_nil, deIs_nil, hml, hp1, hr1, hT, hT', im1, im2, im3, im4, im5, hmi, hpi0, hri0, hpi1, hri1, hpq, hrq, hpq0, hrq0, hph, hrh, hph0, hrh0, hRi, hLB, hL1, hL2, hw1, hw2, kO, kOb]
    refine Snd.seqpu ?_
    simp -implicitDefEqProofs [List.lookup_cons, eS, lO, lOb, obCls, obFil, iOb, pl2T, pnT, hPz, hRz, hPt, hRt, hPe, hRe, hPi, e1, e1', pur2_tup, pur2_b, pur2_i, pur2_sl, pur_sl, pur_b, pur_v, pur_oslE, rbR_iR, rbR_nil, rbOb_mk, iR_mf, pickOk, -List.all_eq_true, iR_ok, ok0, iR_eq_nil, deIs_nil, hml, hp1, hr1, hT, hT', im1, im2, im3, im4, im5, hmi, hpi0, hri0, hpi1, hri1, hpq, hrq, hpq0, hrq0, hph, hrh, hph0, hrh0, hRi, hLB, hL1, hL2, hw1, hw2, kO, kOb]
    refine Snd.seqpu ?_
    simp -implicitDefEqProofs [List.lookup_cons, eS, lO, lOb, obCls, obFil, iOb, pl2T, pnT, hPz, hRz, hPt, hRt, hPe, hRe, hPi, e1, e1', pur2_tup, pur2_b, pur2_i, pur2_sl, pur_sl, pur_b, pur_v, pur_oslE, rbR_iR, rbR_nil, rbOb_mk, iR_mf, pickOk, -List.all_eq_true, iR_ok, ok0, iR_eq_nil, deIs_nil, hml, hp1, hr1, hT, hT', im1, im2, im3, im4, im5, hmi, hpi0, hri0, hpi1, hri1, hpq, hrq, hpq0, hrq0, hph, hrh, hph0, hrh0, hRi, hLB, hL1, hL2, hw1, hw2, kO, kOb]
    refine Snd.seqpu ?_
    simp -implicitDefEqProofs [List.lookup_cons, eS, lO, lOb, obCls, obFil, iOb, pl2T, pnT, hPz, hRz, hPt, hRt, hPe, hRe, hPi, e1, e1', pur2_tup, pur2_b, pur2_i, pur2_sl, pur_sl, pur_b, pur_v, pur_oslE, rbR_iR, rbR_nil, rbOb_mk, iR_mf, pickOk, -List.all_eq_true, iR_ok, ok0, iR_eq_nil, deIs_nil, hml, hp1, hr1, hT, hT', im1, im2, im3, im4, im5, hmi, hpi0, hri0, hpi1, hri1, hpq, hrq, hpq0, hrq0, hph, hrh, hph0, hrh0, hRi, hLB, hL1, hL2, hw1, hw2, kO, kOb]
    refine Snd.seq (Snd.of ?_)
    simp -implicitDefEqProofs [List.lookup_cons, eS, lO, lOb, obCls, obFil, iOb, pl2T, pnT, hPz, hRz, hPt, hRt, hPe, hRe, hPi, e1, e1', pur2_tup, pur2_b, pur2_i, pur2_sl, pur_sl, pur_b, pur_v, pur_oslE, rbR_iR, rbR_nil, rbOb_mk, iR_mf, pickOk, -List.all_eq_true, iR_ok, ok0, iR_eq_nil, deIs_nil, hml, hp1, hr1, hT, hT', im1, im2, im3, im4, im5, hmi, hpi0, hri0, hpi1, hri1, hpq, hrq, hpq0, hrq0, hph, hrh, hph0, hrh0, hRi, hLB, hL1, hL2, hw1, hw2, kO, kOb]
    refine Snd.seq (Snd.of ?_)
    simp -implicitDefEqProofs [List.lookup_cons, eS, lO, lOb, obCls, obFil, iOb, pl2T, pnT, hPz, hRz, hPt, hRt, hPe, hRe, hPi, e1, e1', pur2_tup, pur2_b, pur2_i, pur2_sl, pur_sl, pur_b, pur_v, pur_oslE, rbR_iR, rbR_nil, rbOb_mk, iR_mf, pickOk, -List.all_eq_true, iR_ok, ok0, iR_eq_nil, deIs_nil, hml, hp1, hr1, hT, hT', im1, im2, im3, im4, im5, hmi, hpi0, hri0, hpi1, hri1, hpq, hrq, hpq0, hrq0, hph, hrh, hph0, hrh0, hRi, hLB, hL1, hL2, hw1, hw2, kO, kOb]
    refine ⟨Go.Abs.iR_mf _, Go.Abs.iR_mf _, ?_⟩
    refine Snd.seqpu ?_
    simp -implicitDefEqProofs [List.lookup_cons, eS, lO, lOb, obCls, obFil, iOb, pl2T, pnT, hPz, hRz, hPt, hRt, hPe, hRe, hPi, e1, e1', pur2_tup, pur2_b, pur2_i, pur2_sl, pur_sl, pur_b, pur_v, pur_oslE, rbR_iR, rbR_nil, rbOb_mk, iR_mf, pickOk, -List.all_eq_true, iR_ok, ok0, iR_eq_nil, deIs_nil, hml, hp1, hr1, hT, hT', im1, im2, im3, im4, im5, hmi, hpi0, hri0, hpi1, hri1, hpq, hrq, hpq0, hrq0, hph, hrh, hph0, hrh0, hRi, hLB, hL1, hL2, hw1, hw2, kO, kOb]
    refine Snd.seqpu ?_
    simp -implicitDefEqProofs [List.lookup_cons, eS, lO, lOb, obCls, obFil, iOb, pl2T, pnT, hPz, hRz, hPt, hRt, hPe, hRe, hPi, e1, e1', pur2_tup, pur2_b, pur2_i, pur2_sl, pur_sl, pur_b, pur_v, pur_oslE, rbR_iR, rbR_nil, rbOb_mk, iR_mf, pickOk, -List.all_eq_true, iR_ok, ok0, iR_eq_nil, deIs_nil, hml, hp1, hr1, hT, hT', im1, im2, im3, im4, im5, hmi, hpi0, hri0, hpi1, hri1, hpq, hrq, hpq0, hrq0, hph, hrh, hph0, hrh0, hRi, hLB, hL1, hL2, hw1, hw2, kO, kOb]
    refine drawP_pu _ (by decide) ?_
    simp -implicitDefEqProofs [List.lookup_cons, eS, lO, lOb, obCls, obFil, iOb, pl2T, pnT, hPz, hRz, hPt, hRt, hPe, hRe, hPi, e1, e1', pur2_tup, pur2_b, pur2_i, pur2_sl, pur_sl, pur_b, pur_v, pur_oslE, rbR_iR, rbR_nil, rbOb_mk, iR_mf, pickOk, -List.all_eq_true, iR_ok, ok0, iR_eq_nil, deIs_nil, hml, hp1, hr1, hT, hT', im1, im2, im3, im4, im5, hmi, hpi0, hri0, hpi1, hri1, hpq, hrq, hpq0, hrq0, hph, hrh, hph0, hrh0, hRi, hLB, hL1, hL2, hw1, hw2, kO, kOb]
    refine Snd.seqpu ?_
    simp -implicitDefEqProofs [List.lookup_cons, eS, lO, lOb, obCls, obFil, iOb, pl2T, pnT, hPz, hRz, hPt, hRt, hPe, hRe, hPi, e1, e1', pur2_tup, pur2_b, pur2_i, pur2_sl, pur_sl, pur_b, pur_v, pur_oslE, rbR_iR, rbR_nil, rbOb_mk, iR_mf, pickOk, -List.all_eq_true, iR_ok, ok0, iR_eq_nil, deIs_nil, hml, hp1, hr1, hT, hT', im1, im2, im3, im4, im5, hmi, hpi0, hri0, hpi1, hri1, hpq, hrq, hpq0, hrq0, hph, hrh, hph0, hrh0, hRi, hLB, hL1, hL2, hw1, hw2, kO, kOb]
    refine Snd.seqpu ?_
    simp -implicitDefEqProofs [List.lookup_cons, eS, lO, lOb, obCls, obFil, iOb, pl2T, pnT, hPz, hRz, hPt, hRt, hPe, hRe, hPi, e1, e1', pur2_tup, pur2_b, pur2_i, pur2_sl, pur_sl, pur_b, pur_v, pur_oslE, rbR_iR, rbR_nil, rbOb_mk, iR_mf, pickOk, -List.all_eq_true, iR_ok, ok0, iR_eq_nil, deIs_nil, hml, hp1, hr1, hT, hT', im1, im2, im3, im4, im5, hmi, hpi0, hri0, hpi1, hri1, hpq, hrq, hpq0, hrq0, hph, hrh, hph0, hrh0, hRi, hLB, hL1, hL2, hw1, hw2, kO, kOb]
    refine Snd.seqpu ?_
    simp -implicitDefEqProofs [List.lookup_cons, eS, lO, lOb, obCls, obFil, iOb, pl2T, pnT, hPz, hRz, hPt, hRt, hPe, hRe, hPi, e1, e1', pur2_tup, pur2_b, pur2_i, pur2_sl, pur_sl, pur_b, pur_v, pur_oslE, rbR_iR, rbR_nil, rbOb_mk, iR_mf, pickOk, -List.all_eq_true, iR_ok, ok0, iR_eq_nil, deIs_nil, hml, hp1, hr1, hT, hT', im1, im2, im3, im4, im5, hmi, hpi0, hri0, hpi1, hri1, hpq, hrq, hpq0, hrq0, hph, hrh, hph0, hrh0, hRi, hLB, hL1, hL2, hw1, hw2, kO, kOb]
    refine Snd.seqpu ?_
    simp -implicitDefEqProofs [List.lookup_cons, eS, lO, lOb, obCls, obFil, iOb, pl2T, pnT, hPz, hRz, hPt, hRt, hPe, hRe, hPi, e1, e1', pur2_tup, pur2_b, pur2_i, pur2_sl, pur_sl, pur_b, pur_v, pur_oslE, rbR_iR, rbR_nil, rbOb_mk, iR_mf, pickOk, -List.all_eq_true, iR_ok, ok0, iR_eq_nil, deIs_nil, hml, hp1, hr1, hT, hT', im1, im2, im3, im4, im5, hmi, hpi0, hri0, hpi1, hri1, hpq, hrq, hpq0, hrq0, hph, hrh, hph0, hrh0, hRi, hLB, hL1, hL2, hw1, hw2, kO, kOb]
    refine Snd.seqpu ?_
    simp -implicitDefEqProofs [List.lookup_cons, eS, lO, lOb, obCls, obFil, iOb, pl2T, pnT, hPz, hRz, hPt, hRt, hPe, hRe, hPi, e1, e1', pur2_tup, pur2_b, pur2_i, pur2_sl, pur_sl, pur_b, pur_v, pur_oslE, rbR_iR, rbR_nil, rbOb_mk, iR_mf, pickOk, -List.all_eq_true, iR_ok, ok0, iR_eq_nil, deIs_nil, hml, hp1, hr1, hT, hT', im1, im2, im3, im4, im5, hmi, hpi0, hri0, hpi1, hri1, hpq, hrq, hpq0, hrq0, hph, hrh, hph0, hrh0, hRi, hLB, hL1, hL2, hw1, hw2, kO, kOb]
    refine Snd.seqpu ?_
    simp -implicitDefEqProofs [List.lookup_cons, eS, lO, lOb, obCls, obFil, iOb, pl2T, pnT, hPz, hRz, hPt, hRt, hPe, hRe, hPi, e1, e1', pur2_tup, pur2_b, pur2_i, pur2_sl, pur_sl, pur_b, pur_v, pur_oslE, rbR_iR, rbR_nil, rbOb_mk, iR_mf, pickOk, -List.all_eq_true, iR_ok, ok0, iR_eq_nil, deIs_nil, hml, hp1, hr1, hT, hT', im1, im2, im3, im4, im5, hmi, hpi0, hri0, hpi1, hri1, hpq, hrq, hpq0, hrq0, hph, hrh, hph0, hrh0, hRi, hLB, hL1, hL2, hw1, hw2, kO, kOb]
    refine Snd.seqpu ?_
    simp -implicitDefEqProofs [List.lookup_cons, eS, lO, lOb, obCls, obFil, iOb, pl2T, pnT, hPz, hRz, hPt, hRt, hPe, hRe, hPi, e1, e1', pur2_tup, pur2_b, pur2_i, pur2_sl, pur_sl, pur_b, pur_v, pur_oslE, rbR_iR, rbR_nil, rbOb_mk, iR_mf, pickOk, -List.all_eq_true, iR_ok, ok0, iR_eq_nil, deIs_nil, hml, hp1, hr1, hT, hT', im1, im2, im3, im4, im5, hmi, hpi0, hri0, hpi1, hri1, hpq, hrq, hpq0, hrq0, hph, hrh, hph0, hrh0, hRi, hLB, hL1, hL2, hw1, hw2, kO, kOb]
    refine Snd.seqpu ?_
    simp -implicitDefEqProofs [List.lookup_cons, eS, lO, lOb, obCls, obFil, iOb, pl2T, pnT, hPz, hRz, hPt, hRt, hPe, hRe, hPi, e1, e1', pur2_tup, pur2_b, pur2_i, pur2_sl, pur_sl, pur_b, pur_v, pur_oslE, rbR_iR, rbR_nil, rbOb_mk, iR_mf, pickOk, -List.all_eq_true, iR_ok, ok0, iR_eq_nil, deIs_nil, hml, hp1, hr1, hT, hT', im1, im2, im3, im4, im5, hmi, hpi0, hri0, hpi1, hri1, hpq, hrq, hpq0, hrq0, hph, hrh, hph0, hrh0, hRi, hLB, hL1, hL2, hw1, hw2, kO, kOb]
    refine Snd.seqpu ?_
    simp -implicitDefEqProofs [List.lookup_cons, eS, lO, lOb, obCls, obFil, iOb, pl2T, pnT, hPz, hRz, hPt, hRt, hPe, hRe, hPi, e1, e1', pur2_tup, pur2_b, pur2_i, pur2_sl, pur_sl, pur_b, pur_v, pur_oslE, rbR_iR, rbR_nil, rbOb_mk, iR_mf, pickOk, -List.all_eq_true, iR_ok, ok0, iR_eq_nil, deIs_nil, hml, hp1, hr1, hT, hT', im1, im2, im3, im4, im5, hmi, hpi0, hri0, hpi1, hri1, hpq, hrq, hpq0, hrq0, hph, hrh, hph0, hrh0, hRi, hLB, hL1, hL2, hw1, hw2, kO, kOb]
    refine Snd.seqpu ?_
    simp -implicitDefEqProofs [List.lookup_cons, eS, lO, lOb, obCls, obFil, iOb, pl2T, pnT, hPz, hRz, hPt, hRt, hPe, hRe, hPi, e1, e1', pur2_tup, pur2_b, pur2_i, pur2_sl, pur_sl, pur_b, pur_v, pur_oslE, rbR_iR, rbR_nil, rbOb_mk, iR_mf, pickOk, -List.all_eq_true, iR_ok, ok0, iR_eq_nil, deIs_nil, hml, hp1, hr1, hT, hT', im1, im2, im3, im4, im5, hmi, hpi0, hri0, hpi1, hri1, hpq, hrq, hpq0, hrq0, hph, hrh, hph0, hrh0, hRi, hLB, hL1, hL2, hw1, hw2, kO, kOb]
    refine Snd.seqpu ?_
    simp -implicitDefEqProofs [List.lookup_cons, eS, lO, lOb, obCls, obFil, iOb, pl2T, pnT, hPz, hRz, hPt, hRt, hPe, hRe, hPi, e1, e1', pur2_tup, pur2_b, pur2_i, pur2_sl, pur_sl, pur_b, pur_v, pur_oslE, rbR_iR, rbR_nil, rbOb_mk, iR_mf, pickOk, -List.all_eq_true, iR_ok, ok0, iR_eq_nil, deIs_nil, hml, hp1, hr1, hT, hT', im1, im2, im3, im4, im5, hmi, hpi0, hri0, hpi1, hri1, hpq, hrq, hpq0, hrq0, hph, hrh, hph0, hrh0, hRi, hLB, hL1, hL2, hw1, hw2, kO, kOb]
    refine Snd.seqpu ?_
    simp -implicitDefEqProofs [List.lookup_cons, eS, lO, lOb, obCls, obFil, iOb, pl2T, pnT, hPz, hRz, hPt, hRt, hPe, hRe, hPi, e1, e1', pur2_tup, pur2_b, pur2_i, pur2_sl, pur_sl, pur_b, pur_v, pur_oslE, rbR_iR, rbR_nil, rbOb_mk, iR_mf, pickOk, -List.all_eq_true, iR_ok, ok0, iR_eq_nil, deIs_nil, hml, hp1, hr1, hT, hT', im1, im2, im3, im4, im5, hmi, hpi0, hri0, hpi1, hri1, hpq, hrq, hpq0, hrq0, hph, hrh, hph0, hrh0, hRi, hLB, hL1, hL2, hw1, hw2, kO, kOb]
    refine Snd.seqpu ?_
    simp -implicitDefEqProofs [List.lookup_cons, eS, lO, lOb, obCls, obFil, iOb, pl2T, pnT, hPz, hRz, hPt, hRt, hPe, hRe, hPi, e1, e1', pur2_tup, pur2_b, pur2_i, pur2_sl, pur_sl, pur_b, pur_v, pur_oslE, rbR_iR, rbR_nil, rbOb_mk, iR_mf, pickOk, -List.all_eq_true, iR_ok, ok0, iR_eq_nil, deIs_nil, hml, hp1, hr1, hT, hT', im1, im2, im3, im4, im5, hmi, hpi0, hri0, hpi1, hri1, hpq, hrq, hpq0, hrq0, hph, hrh, hph0, hrh0, hRi, hLB, hL1, hL2, hw1, hw2, kO, kOb]
    refine Snd.seqpu ?_
    simp -implicitDefEqProofs [List.lookup_cons, eS, lO, lOb, obCls, obFil, iOb, pl2T, pnT, hPz, hRz, hPt, hRt, hPe, hRe, hPi, e1, e1', pur2_tup, pur2_b, pur2_i, pur2_sl, pur_sl, pur_b, pur_v, pur_oslE, rbR_iR, rbR_nil, rbOb_mk, iR_mf, pickOk, -List.all_eq_true, iR_ok, ok0, iR_eq_nil, deIs_nil, hml, hp1, hr1, hT, hT', im1, im2, im3, im4, im5, hmi, hpi0, hri0, hpi1, hri1, hpq, hrq, hpq0, hrq0, hph, hrh, hph0, hrh0, hRi, hLB, hL1, hL2, hw1, hw2, kO, kOb]
    refine Snd.seqpu ?_
    simp -implicitDefEqProofs [List.lookup_cons, eS, lO, lOb, obCls, obFil, iOb, pl2T, pnT, hPz, hRz, hPt, hRt, hPe, hRe, hPi, e1, e1', pur2_tup, pur2_b, pur2_i, pur2_sl, pur_sl, pur_b, pur_v, pur_oslE, rbR_iR, rbR_nil, rbOb_mk, iR_mf, pickOk, -List.all_eq_true, iR_ok, ok0, iR_eq_nil, deIs_nil, hml, hp1, hr1, hT, hT', im1, im2, im3, im4, im5, hmi, hpi0, hri0, hpi1, hri1, hpq, hrq, hpq0, hrq0, hph, hrh, hph0, hrh0, hRi, hLB, hL1, hL2, hw1, hw2, kO, kOb]
    refine Snd.of ?_
    simp -implicitDefEqProofs [List.lookup_cons, eS, lO, lOb, obCls, obFil, iOb, pl2T, pnT, hPz, hRz, hPt, hRt, hPe, hRe, hPi, e1, e1', pur2_tup, pur2_b, pur2_i, pur2_sl, pur_sl, pur_b, pur_v, pur_oslE, rbR_iR, rbR_nil, rbOb_mk, iR_mf, pickOk, -List.all_eq_true, iR_ok, ok0, iR_eq_nil, deIs_nil, hml, hp1, hr1, hT, hT', im1, im2, im3, im4, im5, hmi, hpi0, hri0, hpi1, hri1, hpq, hrq, hpq0, hrq0, hph, hrh, hph0, hrh0, hRi, hLB, hL1, hL2, hw1, hw2, kO, kOb]
    refine fin_pure (by simp) ?_
    simp -implicitDefEqProofs [fS, rn0, pickObs, deI]
end Go.Proofs
