/-
  What is proved here: the contract of the program's parse of a flat text. Condition: none.
-/
import Derived.Test.YtecpfgnkiifnpaaGreatDoorFR17o
import Derived.Test.YtecpfgnkiifnpaaGreatDoorFP6o
import Derived.Test.YtecpfgnkiifnpaaGreatDoorAbs31
namespace Go.Proofs
open Go.Abs Go.Flat
set_option linter.unusedSimpArgs false
set_option linter.unnecessarySimpa false
set_option linter.unusedVariables false
set_option maxHeartbeats 16000000
set_option maxRecDepth 20000
def topA (n : Nat) : X := .agg (List.replicate n .top)
def pfX : Rs Ps → X × List Ob
  | .ok st => (.tup [.agg [.v (.string st.c.name), .osl 0 0, .osl 1 0, I st.c.dflt], .agg [I st.nc, I st.nd], .agg [I 0, .top]], [obCls st.c.cls, obFil st.c.fil])
  | .er k a => (.tup [topA 4, topA 2, .agg [I k, I a]], [])
def F33 : Fun := ⟨fun xs => ∃ s, xs = [Sx s] ∧ s.size ≤ 2097152, fun xs => pfX (parseS (deS (xs.getD 0 .top)))⟩
theorem wk_ok (a : X) : wkC (.agg [I 0, a]) (.agg [I 0, .top]) := .agg rfl fun i d c hd hc => by
  match i, hd, hc with
  | 0, hd, hc => simp at hd hc; subst hd hc; exact .inl rfl
  | 1, hd, hc => simp at hd hc; subst hd; exact .inr rfl
  | i + 2, hd, hc => simp at hd
theorem c33 : GenCA K Tryz.prog 33 F33 := by
  refine contractAN Tryz.mix K [(58, FIx1)] [(60, M60), (59, M59), (62, M62)] [(61, M61)] (by simp [cIx1]) (by simp [m60, m59, m62]) (by simp [n61]) Tryz.func33 rfl (by decide) ?_
  rintro xs ⟨s, rfl, hs⟩
  have hres : F33.res [Sx s] = pfX (parseS s) := rfl
  rw [hres]
  refine ⟨by rw [Tryz.ntmps33]; simp, ?_⟩
  unfold parseS
  by_cases h6 : 6000 < s.size
  · have h6i : (6000 : Int) < s.size := by omega
    rw [if_pos h6]
    simp -implicitDefEqProofs [Tryz.f33, List.lookup_cons, eS, rbR_iR, rbR_nil, rbOb_mk, iR_mf, pickOk, -List.all_eq_true, iR_ok, ok0, iR_eq_nil, deIs_nil, Sx, h6, h6i]
    exact fin_less3 [] (by simp [pickOk]) rfl (wkC.tops _) (wkC.tops _) (.refl _)
  have h6i : ¬ (6000 : Int) < s.size := by omega
  rw [if_neg h6]
  have hz : s.toList = [] ↔ s.size = 0 := by rw [toL, ← bL_len, List.length_eq_zero_iff]
  by_cases h0 : s.size = 0
  · have hz1 := hz.2 h0
    rw [if_pos h0]
    simp -implicitDefEqProofs [Tryz.f33, List.lookup_cons, eS, rbR_iR, rbR_nil, rbOb_mk, iR_mf, pickOk, -List.all_eq_true, iR_ok, ok0, iR_eq_nil, deIs_nil, Sx, h6, h6i, hz1]
    exact fin_less3 [] (by simp [pickOk]) rfl (wkC.tops _) (wkC.tops _) (.refl _)
  have hzn : ¬ s.toList = [] := fun e => h0 (hz.1 e)
  rw [if_neg h0]
  generalize hT : linesS s.size (splitB 10 s) 0 ps0 = T
  have hT0 : restS s 0 ps0 = T := by rw [← hT]; unfold restS; rw [ext_all]; rfl
  have imb : M60.mu = [true] := rfl
  have ims : M59.mu = [true] := rfl
  have imd : M62.mu = [true] := rfl
  have iml : M61.mu = [true, true, true] := rfl
  simp -implicitDefEqProofs [Tryz.f33, List.lookup_cons, eS, rbR_iR, rbR_nil, rbOb_mk, iR_mf, pickOk, -List.all_eq_true, iR_ok, ok0, iR_eq_nil, deIs_nil, Sx, h6, h6i, hzn]
  refine loopP_inv (fun p : Nat × Ps × Rd => ⟨60, tl [(0, .v (.string s)), (2, .optr 0 0 0 0), (3, .optr 1 0 0 0), (4, .optr 2 0 0 0), (5, .optr 3 0 0 0), (6, .optr 4 0 0 0), (7, .optr 5 0 0 0), (8, I p.1)], [⟨25, 4, 0, [[.v (.string ⟨#[]⟩), .v (.slice none 0 0), .v (.slice none 0 0), I 0]], true, true, none⟩, ⟨58, 2, 0, [[I 0, I 0]], true, true, none⟩, ⟨35, 2, 0, [[I 0, I 0]], true, true, none⟩, ⟨25, 4, 0, [[.v (.string p.2.1.c.name), .osl 6 0, .osl 7 0, I p.2.1.c.dflt]], true, true, none⟩, ⟨58, 2, 0, [[I p.2.1.nc, I p.2.1.nd]], true, true, none⟩, ⟨79, 6, 0, [[.v (.string p.2.2.s), I p.2.2.pos, I p.2.2.en, B p.2.2.dn, I p.2.2.fk, I p.2.2.fa]], true, true, none⟩, ⟨63, 8, 0, tR p.2.1.c.cls, false, true, none⟩, ⟨66, 5, 0, tR p.2.1.c.fil, false, true, none⟩]⟩)
    (fun p => p.1 ≤ s.size ∧ okQ p.2.1 ∧ p.2.2.s = s ∧ p.2.2.fk = 0 ∧ restS s p.1 p.2.1 = T) (fun p => s.size - p.1) (0, ps0, ⟨s, 0, 0, false, 0, 0⟩) ⟨Nat.zero_le _, okQ0, rfl, rfl, hT0⟩ ?_ ?_
  · refine Wk.trans (b := ⟨60, tl [(0, .v (.string s)), (2, .optr 0 0 0 0), (3, .optr 1 0 0 0), (4, .optr 2 0 0 0), (5, .optr 3 0 0 0), (6, .optr 4 0 0 0), (7, .optr 5 0 0 0), (8, I 0)], [⟨25, 4, 0, [[.v (.string ⟨#[]⟩), .v (.slice none 0 0), .v (.slice none 0 0), I 0]], true, true, none⟩, ⟨58, 2, 0, [[I 0, I 0]], true, true, none⟩, ⟨35, 2, 0, [[I 0, I 0]], true, true, none⟩, ⟨25, 4, 0, [[.v (.string ⟨#[]⟩), .v (.slice none 0 0), .v (.slice none 0 0), I 0]], true, true, none⟩, ⟨58, 2, 0, [[I 0, I 0]], true, true, none⟩, ⟨79, 6, 0, [[.v (.string s), I 0, I 0, B false, I 0, I 0]], true, true, none⟩]⟩) (Wk.tl (by simp [hold, upd, tl_cons])) (Wk.trans (b := ⟨60, tl [(0, .v (.string s)), (2, .optr 0 0 0 0), (3, .optr 1 0 0 0), (4, .optr 2 0 0 0), (5, .optr 3 0 0 0), (6, .optr 4 0 0 0), (7, .optr 5 0 0 0), (8, I 0)], [⟨25, 4, 0, [[.v (.string ⟨#[]⟩), .v (.slice none 0 0), .v (.slice none 0 0), I 0]], true, true, none⟩, ⟨58, 2, 0, [[I 0, I 0]], true, true, none⟩, ⟨35, 2, 0, [[I 0, I 0]], true, true, none⟩, ⟨25, 4, 0, [[.v (.string ⟨#[]⟩), .osl 6 0, .v (.slice none 0 0), I 0]], true, true, none⟩, ⟨58, 2, 0, [[I 0, I 0]], true, true, none⟩, ⟨79, 6, 0, [[.v (.string s), I 0, I 0, B false, I 0, I 0]], true, true, none⟩, ⟨63, 8, 0, [], false, true, none⟩]⟩) (Wk.nilF 63 8 3 0 1 _ rfl rfl rfl) (Wk.nilF 66 5 3 0 2 _ rfl rfl rfl))
  rintro ⟨a, st, r⟩ ⟨h1, hq, hrs, hfk, h5⟩
  dsimp only at h1 hq hrs hfk h5 ⊢
  by_cases h : a < s.size
  · have hai : (a : Int) < s.size := by omega
    have hsz := ext_size s a s.size (Nat.le_refl _)
    obtain ⟨w, hw⟩ : ∃ w, s.extract a s.size = w := ⟨_, rfl⟩
    have pI : FIx1.pre [.v (.string w), .v (.int .u8 10)] := ⟨w, 10, rfl⟩
    rcases index_lt (l := bL w) (c := 10) with hi | ⟨i, hi, hlt⟩
    · have qI : FIx1.res [.v (.string w), .v (.int .u8 10)] = (I (-1), []) := by simp [FIx1, deU, deS, hi]
      rw [rest_none h (by rw [hw]; exact hi)] at h5
      have ps : M59.pre [.optr 0 0 0 0, I 6, I s.size] (rO r) := ⟨6, s.size, r, rfl, rfl⟩
      have qs := stop_res 6 s.size r
      obtain ⟨e1, e2⟩ := stop_fk hfk 6 s.size
      generalize stopR 6 s.size r = r2 at qs e1 e2
      unfold rO at ps qs
      rw [← h5]
      simp -implicitDefEqProofs [List.lookup_cons, eS, rbR_iR, rbR_nil, rbOb_mk, iR_mf, pickOk, -List.all_eq_true, iR_ok, ok0, iR_eq_nil, deIs_nil, h, hai, eSlice, bnd, h1, hw, pI, qI, ps, qs, ims, rbR_rd, rn2_N]
      refine drawP_x _ [(0, 0), (6, 0), (1, 0), (7, 1), (2, 0), (3, 0), (4, 0), (5, 0), (8, 2)] [6, 7, 8] (by decide) ?_
      simp -implicitDefEqProofs [List.lookup_cons, eS, rbR_iR, rbR_nil, rbOb_mk, iR_mf, pickOk, -List.all_eq_true, iR_ok, ok0, iR_eq_nil, deIs_nil, e1, e2]
      exact fin_less3 [] (by simp [pickOk]) rfl (wkC.tops _) (wkC.tops _) (.refl _)
    · have qI : FIx1.res [.v (.string w), .v (.int .u8 10)] = (I (i : Int), []) := by simp [FIx1, deU, deS, hi]
      obtain ⟨hai2, hR⟩ := rest_some (st := st) h (by rw [hw]; exact hi)
      have hin : ¬ (i : Int) < 0 := by omega
      have hw1 : IntKind.i64.wrap ((a : Int) + i) = (a : Int) + i := w64 (by omega) (by omega)
      have hw2 : IntKind.i64.wrap ((i : Int) + 1) = (i : Int) + 1 := w64 (by omega) (by omega)
      have hw3 : IntKind.i64.wrap ((a : Int) + ((i : Int) + 1)) = ((a + i + 1 : Nat) : Int) := by rw [w64 (by omega) (by omega)]; omega
      have pb : M60.pre [.optr 0 0 0 0, I (a : Int), I ((a : Int) + i)] (rO r) := ⟨a, a + i, r, by simp, rfl⟩
      have qb : M60.res [.optr 0 0 0 0, I (a : Int), I ((a : Int) + i)] (rO r) = (.tup [], rO (beginR a (a + i) r)) := by
        have := begin_res a (a + i) r
        simpa using this
      have hkb : okR (beginR a (a + i) r) := by
        refine ⟨?_, ?_, ?_⟩
        · simp only [beginR]; omega
        · simp only [beginR]; rw [hrs]; omega
        · simp only [beginR]; rw [hrs]; omega
      have rel : Rel (beginR a (a + i) r) (splitB 32 (s.extract a (a + i))) ((a : Int) - 1) := by
        refine ⟨hfk, ?_, ?_, fun hc => absurd hc (splitB_ne _ _), fun _ => ⟨rfl, ?_, ?_⟩⟩
        · simp only [beginR]; omega
        · simp only [beginR]; rw [hrs]; omega
        · simp only [beginR]; rw [hrs]
        · simp only [beginR]; omega
      have hS := line_same (st := st) rel (splitB_ne _ _)
      have hsp := split_le 32 (s.extract a (a + i))
      have hsp2 : ∀ g ∈ splitB 32 (s.extract a (a + i)), g.size ≤ 1048576 := fun g hg => by
        have := hsp.2 g hg
        rw [ext_size _ _ _ (by omega)] at this
        omega
      have pl : M61.pre lnA (lnO 0 0 st (beginR a (a + i) r)) := ⟨st, _, rfl, rfl, hkb, by obtain ⟨x1, x2, x3, x4, x5⟩ := hq; exact ⟨x1, x2, by omega, by omega⟩⟩
      have ql := line_res st (beginR a (a + i) r)
      have hkl := keep_line st (beginR a (a + i) r)
      have hks : (lineR st (beginR a (a + i) r)).2.s = s := hkl.s.trans hrs
      generalize hlr : lineR st (beginR a (a + i) r) = t at ql hS hks
      obtain ⟨st', r2⟩ := t
      dsimp only at ql hS hks
      generalize beginR a (a + i) r = rb at pl ql qb
      have pd : M62.pre [.optr 0 0 0 0] (rO r2) := ⟨rfl, r2, rfl⟩
      have qd : M62.res [.optr 0 0 0 0] (rO r2) = (B (decide (r2.fk ≠ 0)), rO r2) := by simp [M62]
      simp only [lnA, lnO, rO] at pb qb pl ql pd qd
      rw [hR] at h5
      revert h5 hS
      cases hls : lineS st (splitB 32 (s.extract a (a + i))) a with
      | ok st2 =>
        rintro h5 ⟨rfl, hf2⟩
        have hdz : decide (r2.fk ≠ 0) = false := by simpa using hf2
        rw [hdz] at qd
        have hq2 := lineS_ok hls hq hsp2
        dsimp only at hf2 h5 hq2
        simp -implicitDefEqProofs [List.lookup_cons, eS, rbR_iR, rbR_nil, rbOb_mk, iR_mf, pickOk, -List.all_eq_true, iR_ok, ok0, iR_eq_nil, deIs_nil, h, hai, eSlice, bnd, h1, hw, pI, qI, hin, hw1, hw2, hw3, pb, qb, imb, pl, ql, iml, pd, qd, imd, rbR_rd, rn2_N, rn2_B, tR_rb, tR_rw, tR_rv, pickOkN]
        refine ⟨a + i + 1, by omega, st', hq2, r2, hks, hf2, h5, by omega, ?_⟩
        refine Wk.tlPN [0, 1, 2, 3, 4, 5, 6, 7] (by simp [pickOkN]) (by simp) ?_
        simp [hold, upd, tl_cons, hw3]
      | er k b =>
        rintro h5 ⟨hk0, hf2, ha2⟩
        dsimp only at hf2 ha2 h5
        have hdz : decide (r2.fk ≠ 0) = true := by simp [hf2, hk0]
        rw [hdz] at qd
        rw [← h5]
        simp -implicitDefEqProofs [List.lookup_cons, eS, rbR_iR, rbR_nil, rbOb_mk, iR_mf, pickOk, -List.all_eq_true, iR_ok, ok0, iR_eq_nil, deIs_nil, h, hai, eSlice, bnd, h1, hw, pI, qI, hin, hw1, hw2, hw3, pb, qb, imb, pl, ql, iml, pd, qd, imd, rbR_rd, rn2_N, rn2_B, tR_rb, tR_rw, tR_rv, pickOkN]
        refine drawP_x _ [(0, 0), (6, 0), (1, 0), (7, 1), (2, 0), (3, 0), (4, 0), (5, 0), (8, 2)] [6, 7, 8] (by decide) ?_
        simp -implicitDefEqProofs [List.lookup_cons, eS, rbR_iR, rbR_nil, rbOb_mk, iR_mf, pickOk, -List.all_eq_true, iR_ok, ok0, iR_eq_nil, deIs_nil, hf2, ha2]
        exact fin_less3 [] (by simp [pickOk]) rfl (wkC.tops _) (wkC.tops _) (.refl _)
  · have ea : a = s.size := by omega
    subst ea
    rw [rest_end] at h5
    rw [← h5]
    have hai : ¬ (s.size : Int) < s.size := by omega
    simp -implicitDefEqProofs [List.lookup_cons, eS, rbR_iR, rbR_nil, rbOb_mk, iR_mf, pickOk, -List.all_eq_true, iR_ok, ok0, iR_eq_nil, deIs_nil, hai]
    refine drawP_x _ [(0, 0), (6, 0), (1, 0), (7, 1), (2, 0), (3, 0), (4, 0), (5, 0), (8, 2)] [6, 7, 8] (by decide) ?_
    simp -implicitDefEqProofs [List.lookup_cons, eS, rbR_iR, rbR_nil, rbOb_mk, iR_mf, pickOk, -List.all_eq_true, iR_ok, ok0, iR_eq_nil, deIs_nil, hfk]
    exact fin_less3 [6, 7] (by simp [pickOk, -List.all_eq_true, tR_ok]) rfl (.refl _) (.refl _) (wk_ok _)
end Go.Proofs
