/-
  What is proved here: contracts of the reference's list of attributes, and of its DecodeAttrs. Condition: none.
-/
import Derived.Test.YtecpfgnkiifnpaaDA4k
import Derived.Test.YtecpfgnkiifnpaaDA3k
namespace Go.Proofs
open Go.Abs Go.Flat
set_option linter.unusedSimpArgs false
set_option linter.unnecessarySimpa false
set_option linter.unusedVariables false
set_option maxHeartbeats 16000000
set_option maxRecDepth 20000
def lsX (s : ByteArray) (q : List Att × Option (Int × Nat)) : X × List Ob := (ftX q.2, rvO 1 s q.1)
def MLs (n : Nat) : MFun := ⟨[true, false, false, false], fun xs obs => ∃ (s : ByteArray) (l : List Att) (a e d : Nat), xs = [.optr 0 0 0 0, I d, I a, I e] ∧ obs = rvO 0 s l ∧ okRd s l a e d ∧ 10 ≤ n + d,
  fun xs obs => lsX (rvS obs) (rdW (rvS obs) (deI (xs.getD 1 .top)).toNat (deI (xs.getD 2 .top)).toNat (deI (xs.getD 3 .top)).toNat (dcL obs))⟩
theorem mLs_res (n : Nat) (s : ByteArray) (l : List Att) (a e d : Nat) : (MLs n).res [.optr 0 0 0 0, I d, I a, I e] (rvO 0 s l) = lsX s (rdW s d a e l) := by
  simp only [MLs, rvS_O, rvL_O]
  simp [deI]
theorem mList : ∀ n, GenNA K Try.prog 32 (MLs n)
  | 0 => by
    refine contractNA Try.mix K [] [] [] (by simp) (by simp) (by simp) Try.func32 rfl (by decide) ?_
    rintro xs obs us ⟨s, l, a, e, d, rfl, rfl, ⟨hs, he, hae, hd1, hd9, hl⟩, hnd⟩ hu
    omega
  | n + 1 => by
    refine contractNA Try.mix K [(44, F44), (45, F45)] [] [(43, M43), (32, MLs n)] (by simp [c44, c45]) (by simp) (by simp [n43, mList n]) Try.func32 rfl (by decide) ?_
    rintro xs obs us ⟨s, l, a, e, d, rfl, rfl, ⟨hs, he, hae, hd1, hd9, hl⟩, hnd⟩ hu
    obtain ⟨u0, u1, rfl⟩ : ∃ u0 u1, us = [u0, u1] := by
      match us, hu with
      | [a, b], _ => exact ⟨a, b, rfl⟩
    rw [mLs_res]
    refine ⟨⟨by rw [Try.ntmps32]; simp, by simp, fun k ob hob => ?_⟩, ?_⟩
    · match k, hob with
      | 0, hob => simp [rvO] at hob; subst hob; exact ⟨_, rfl, rfl, rfl, rfl, rfl⟩
      | 1, hob => simp [rvO] at hob; subst hob; exact ⟨_, rfl, rfl, rfl, rfl, rfl⟩
      | k + 2, hob => simp [rvO] at hob
    generalize hq0 : rdW s d a e l = q
    have iph : M43.mu = [true, false, false, false] := rfl
    have ipl : (MLs n).mu = [true, false, false, false] := rfl
    simp -implicitDefEqProofs [Try.f32, List.lookup_cons, eS, rbR_iR, rbR_nil, rbOb_mk, iR_mf, pickOk, -List.all_eq_true, iR_ok, ok0, iR_eq_nil, deIs_nil, rvO]
    refine loopP_inv (fun p : Nat × List Att => ⟨93, tl [(0, .optr 0 0 0 0), (1, I d), (2, I p.1), (3, I e), (8, .optr 2 0 0 0), (1000, .pin 0 0 u0)], [⟨64, 2, 0, [[.v (.string s), .osl 1 0]], true, true, none⟩, ⟨49, 4, 0, tR p.2, false, true, none⟩, ⟨24, 2, 0, [[I 0, I 0]], true, true, none⟩]⟩) (fun p => p.1 ≤ e ∧ p.2.length ≤ 400 ∧ q = rdW s d p.1 e p.2) (fun p => e - p.1) (a, l) ⟨hae, hl, hq0.symm⟩ (Wk.tl (by simp [hold, upd, tl_cons])) ?_
    rintro ⟨b, m⟩ ⟨h1, h2, h3⟩
    dsimp only at h1 h2 h3 ⊢
    by_cases hb : b < e
    · have hbi : (b : Int) < e := by omega
      have ph : M43.pre [.optr 0 0 0 0, I d, I b, I e] (rvO 0 s m) := ⟨s, m, d, b, e, rfl, rfl, hs, he, hb, h2⟩
      have qh := head_res s m d b e
      cases hf : headF s d b e m.length with
      | some f =>
        rw [rdW_bad hb hf] at h3
        subst h3
        rw [hf] at qh
        simp only [rvO, ftX] at ph qh
        have hpos := headF_pos hf
        simp -implicitDefEqProofs [List.lookup_cons, eS, rbR_iR, rbR_nil, rbOb_mk, iR_mf, pickOk, -List.all_eq_true, iR_ok, ok0, iR_eq_nil, deIs_nil, hb, hbi, ph, qh, iph, pickOkN, tR_rw, tR_rv, hpos]
        refine finN [0, 1] [0, 1] (by simp [pickOkN]) (by simp [upd, tl_cons]) ?_
        simp [lsX, ftX, rvO, one]
      | none =>
        obtain ⟨c1, c2, c3, c4, c5, c6, c7⟩ := headF_none hf
        rw [hf] at qh
        simp only [rvO, ftX] at ph qh
        have hpg := pad4_ge (shN s b)
        have hsh := shN_lt s b
        have hsh2 := shN_lt s (b + 2)
        have pt : F44.pre [.v (.string s), I b] := ⟨s, b, rfl, hs, by omega⟩
        have qt := tvr_res s b
        have pt2 : F44.pre [.v (.string s), I ((b : Int) + 2)] := ⟨s, b + 2, by rw [show ((b + 2 : Nat) : Int) = (b : Int) + 2 by omega]; rfl, hs, by omega⟩
        have qt2 := tvr_res s (b + 2)
        rw [show ((b + 2 : Nat) : Int) = (b : Int) + 2 by omega] at qt2
        have w8 : IntKind.i64.wrap ((b : Int) + 2) = (b : Int) + 2 := w64 (by omega) (by omega)
        have pp : F45.pre [I (shN s b)] := ⟨shN s b, rfl, by omega⟩
        have qp := tvp_res (shN s b)
        have w6 : IntKind.i64.wrap ((b : Int) + (pad4 (shN s b) : Nat)) = ((b + pad4 (shN s b) : Nat) : Int) := by rw [w64 (by omega) (by omega)]; omega
        have w10 : IntKind.i64.wrap ((b : Int) + (shN s b : Nat)) = (b : Int) + (shN s b : Nat) := w64 (by omega) (by omega)
        have w12 : IntKind.i64.wrap ((b : Int) + 4) = (b : Int) + 4 := w64 (by omega) (by omega)
        have hn1 : ((b : Int) + 4).toNat = b + 4 := by omega
        have hn2 : ((b : Int) + (shN s b : Nat)).toNat = b + shN s b := by omega
        by_cases hk : shN s (b + 2) < 32768
        · have i6 : ((shN s (b + 2) : Nat) : Int) < 32768 := by omega
          have hat : atOf s d b = ⟨d, shN s (b + 2), false, s.extract (b + 4) (b + shN s b)⟩ := by unfold atOf; rw [if_pos hk]
          have hap : tR m ++ [[I d, I (shN s (b + 2)), B false, .v (.string (s.extract (b + 4) (b + shN s b)))]] = tR (m ++ [atOf s d b]) := by rw [hat]; exact tR_append m [(⟨d, shN s (b + 2), false, s.extract (b + 4) (b + shN s b)⟩ : Att)]
          rw [rdW_leaf hb hf hk] at h3
          simp -implicitDefEqProofs [List.lookup_cons, eS, rbR_iR, rbR_nil, rbOb_mk, iR_mf, pickOk, -List.all_eq_true, iR_ok, ok0, iR_eq_nil, deIs_nil, hb, hbi, ph, qh, iph, pickOkN, tR_rw, tR_rv]
          refine drawP_all _ (by decide) ?_
          simp -implicitDefEqProofs [List.lookup_cons, eS, rbR_iR, rbR_nil, rbOb_mk, iR_mf, pickOk, -List.all_eq_true, iR_ok, ok0, iR_eq_nil, deIs_nil, pt, qt, pt2, qt2, w8, hk, i6]
          refine drawP_x _ [(5, 0), (6, 0), (7, 0), (8, 0), (9, 0), (10, 0), (11, 0), (12, 0), (13, 0), (14, 0), (15, 0), (16, 0), (17, 0), (18, 0), (1, 0), (2, 0), (3, 0), (4, 0), (19, 1), (0, 0), (20, 2), (21, 2), (22, 2)] [18, 19, 22] (by decide) ?_
          simp -implicitDefEqProofs [List.lookup_cons, eS, rbR_iR, rbR_nil, rbOb_mk, iR_mf, pickOk, -List.all_eq_true, iR_ok, ok0, iR_eq_nil, deIs_nil, OpOk, w12, w10, eSlice, bnd, hn1, hn2, eBuildSlice, eAppend, srcRows, srcOk, chunk, hap, pp, qp, w6]
          refine ⟨by omega, by omega, by omega, by omega, by omega, b + pad4 (shN s b), by omega, m ++ [atOf s d b], by simp; omega, h3, by omega, ?_⟩
          refine Wk.tlPN [0, 1, 2] (by simp [pickOkN]) (by simp) ?_
          simp [hold, upd, tl_cons, w6]
        · have i6 : ¬ ((shN s (b + 2) : Nat) : Int) < 32768 := by omega
          have hat : atOf s d b = ⟨d, (shN s (b + 2) : Int) - 32768, true, ⟨#[]⟩⟩ := by unfold atOf; rw [if_neg hk]
          have hap : tR m ++ [[I d, I ((shN s (b + 2) : Int) - 32768), B true, .v (.string ⟨#[]⟩)]] = tR (m ++ [atOf s d b]) := by rw [hat]; exact tR_append m [(⟨d, (shN s (b + 2) : Int) - 32768, true, ⟨#[]⟩⟩ : Att)]
          have w13 : IntKind.i64.wrap ((shN s (b + 2) : Int) - 32768) = (shN s (b + 2) : Int) - 32768 := w64 (by omega) (by omega)
          have w14 : IntKind.i64.wrap ((d : Int) + 1) = (d : Int) + 1 := w64 (by omega) (by omega)
          rw [rdW_nest hb hf hk] at h3
          have hml : (m ++ [atOf s d b]).length ≤ 400 := by simp; omega
          have pr : (MLs n).pre [.optr 0 0 0 0, I ((d + 1 : Nat) : Int), I ((b + 4 : Nat) : Int), I ((b + shN s b : Nat) : Int)] (rvO 0 s (m ++ [atOf s d b])) := ⟨s, _, b + 4, b + shN s b, d + 1, rfl, rfl, ⟨hs, by omega, by omega, by omega, by omega, hml⟩, by omega⟩
          have qr := mLs_res n s (m ++ [atOf s d b]) (b + 4) (b + shN s b) (d + 1)
          have hlen := rdW_len (s := s) _ (d + 1) (b + 4) (b + shN s b) (m ++ [atOf s d b]) (Nat.le_refl _) hml
          rw [show ((b + 4 : Nat) : Int) = (b : Int) + 4 by omega, show ((b + shN s b : Nat) : Int) = (b : Int) + (shN s b : Nat) by omega, show ((d + 1 : Nat) : Int) = (d : Int) + 1 by omega] at pr qr
          generalize rdW s (d + 1) (b + 4) (b + shN s b) (m ++ [atOf s d b]) = W at h3 qr hlen
          obtain ⟨l', f⟩ := W
          cases f with
          | none =>
            simp only [lsX, rvO, ftX] at pr qr
            dsimp only at hlen h3
            simp -implicitDefEqProofs [List.lookup_cons, eS, rbR_iR, rbR_nil, rbOb_mk, iR_mf, pickOk, -List.all_eq_true, iR_ok, ok0, iR_eq_nil, deIs_nil, hb, hbi, ph, qh, iph, pickOkN, tR_rw, tR_rv]
            refine drawP_all _ (by decide) ?_
            simp -implicitDefEqProofs [List.lookup_cons, eS, rbR_iR, rbR_nil, rbOb_mk, iR_mf, pickOk, -List.all_eq_true, iR_ok, ok0, iR_eq_nil, deIs_nil, pt, qt, pt2, qt2, w8, hk, i6, w13, w14, w12, w10, eBuildSlice, eAppend, srcRows, srcOk, chunk, hap, pr, qr, ipl, pickOkN, tR_rw, tR_rv, pp, qp, w6]
            refine ⟨by omega, by omega, b + pad4 (shN s b), by omega, l', hlen.1, h3, by omega, ?_⟩
            refine Wk.tlPN [0, 1, 2] (by simp [pickOkN]) (by simp) ?_
            simp [hold, upd, tl_cons, w6]
          | some f =>
            simp only [lsX, rvO, ftX] at pr qr
            dsimp only at hlen h3
            have hpos := hlen.2 f rfl
            subst h3
            simp -implicitDefEqProofs [List.lookup_cons, eS, rbR_iR, rbR_nil, rbOb_mk, iR_mf, pickOk, -List.all_eq_true, iR_ok, ok0, iR_eq_nil, deIs_nil, hb, hbi, ph, qh, iph, pickOkN, tR_rw, tR_rv]
            refine drawP_all _ (by decide) ?_
            simp -implicitDefEqProofs [List.lookup_cons, eS, rbR_iR, rbR_nil, rbOb_mk, iR_mf, pickOk, -List.all_eq_true, iR_ok, ok0, iR_eq_nil, deIs_nil, pt, qt, pt2, qt2, w8, hk, i6, w13, w14, w12, w10, eBuildSlice, eAppend, srcRows, srcOk, chunk, hap, pr, qr, ipl, pickOkN, tR_rw, tR_rv, hpos]
            refine ⟨by omega, by omega, ?_⟩
            refine finN [0, 1] [0, 1] (by simp [pickOkN]) (by simp [upd, tl_cons]) ?_
            simp [lsX, ftX, rvO, one]
    · have hbi : ¬ (b : Int) < e := by omega
      rw [rdW_end hb] at h3
      subst h3
      simp -implicitDefEqProofs [List.lookup_cons, eS, rbR_iR, rbR_nil, rbOb_mk, iR_mf, pickOk, -List.all_eq_true, iR_ok, ok0, iR_eq_nil, deIs_nil, hb, hbi]
      refine finN [0, 1] [0, 1] (by simp [pickOkN]) (by simp [upd, tl_cons]) ?_
      simp [lsX, ftX, rvO, one]
def dbX : List Att × Option (Int × Nat) → X × List Ob
  | (l, none) => (.tup [.sl (tR l), .agg [I 0, I 0]], [])
  | (_, some f) => (.tup [.sl [], .agg [I f.1, I f.2]], [])
def ddX : List Att × Option (Int × Nat) → X × List Ob
  | (l, none) => (.tup [.sl (tR l), .agg [I 0, I 0], B true], [])
  | (_, some f) => (.tup [.sl [], .agg [I f.1, I f.2], B false], [])
def F18 : Fun := ⟨fun xs => ∃ s, xs = [Sx s] ∧ s.size ≤ 1048576, fun xs => dbX (dcW (deS (xs.getD 0 .top)))⟩
theorem c18 : GenCA K Try.prog 18 F18 := by
  refine contractAS Try.mix K [(31, F31)] [] [(32, MLs 9)] (by simp [c31]) (by simp) (by simp [mList 9]) Try.func18 rfl (by decide) ?_
  rintro xs ⟨s, rfl, hs⟩
  have hres : F18.res [Sx s] = dbX (dcW s) := rfl
  rw [hres]
  refine ⟨by rw [Try.ntmps18]; simp, ?_⟩
  have pv : ∀ k b : Int, F31.pre [I k, I b] := fun k b => ⟨k, b, rfl⟩
  have qv : ∀ k b : Int, F31.res [I k, I b] = (.agg [I k, I b], []) := fun k b => rfl
  unfold dcW
  by_cases h6 : 6000 < s.size
  · have h6i : (6000 : Int) < s.size := by omega
    rw [if_pos h6]
    refine Snd.of ?_
    simp -implicitDefEqProofs [Try.f18, List.lookup_cons, eS, rbR_iR, rbR_nil, rbOb_mk, iR_mf, pickOk, -List.all_eq_true, iR_ok, ok0, iR_eq_nil, deIs_nil, Sx, h6, h6i, pv, qv]
    refine fin_pure (by simp) ?_
    simp -implicitDefEqProofs [fS, rn0, pickObs, deI, dbX]
  have h6i : ¬ (6000 : Int) < s.size := by omega
  rw [if_neg h6]
  have ipr : (MLs 9).mu = [true, false, false, false] := rfl
  have pr : (MLs 9).pre [.optr 0 0 0 0, I 1, I 0, I s.size] (rvO 0 s []) := ⟨s, [], 0, s.size, 1, rfl, rfl, ⟨by omega, Nat.le_refl _, Nat.zero_le _, by omega, by omega, Nat.zero_le _⟩, by omega⟩
  have qr : (MLs 9).res [.optr 0 0 0 0, I 1, I 0, I s.size] (rvO 0 s []) = lsX s (rdW s 1 0 s.size []) := mLs_res 9 s [] 0 s.size 1
  have hlen := rdW_len (s := s) _ 1 0 s.size [] (Nat.le_refl _) (Nat.zero_le _)
  refine Snd.cutN 3 rfl ?_
  have key : ∀ t : Nat → X, t 0 = .v (.string s) → t 3 = .optr 0 0 0 0 → t 4 = .optr 1 0 0 0 → Snd Try.prog (envN K [(31, F31)] [] [(32, MLs 9)]) (drC 3 (bodyOf Try.f18)) (retP Try.prog Try.f18.results.toList (dbX (rdW s 1 0 s.size []))) ⟨26, t, [⟨24, 2, 0, [[I 0, I 0]], true, true, none⟩, ⟨64, 2, 0, [[.v (.string s), .v (.slice none 0 0)]], true, true, none⟩]⟩ := by
    intro t t0 t3 t4
    refine Snd.wk (Wk.nilF 49 4 1 0 1 _ rfl rfl rfl) (Snd.of ?_)
    generalize rdW s 1 0 s.size [] = q at qr hlen
    obtain ⟨l, f⟩ := q
    cases f with
    | none =>
      simp only [lsX, ftX, rvO, tR_nil] at pr qr
      simp -implicitDefEqProofs [drC, Try.f18, List.lookup_cons, eS, rbR_iR, rbR_nil, rbOb_mk, iR_mf, pickOk, -List.all_eq_true, iR_ok, ok0, iR_eq_nil, deIs_nil, t0, t3, t4, pr, qr, ipr, pickOkN, tR_rw, tR_rv]
      refine drawP_x _ [(0, 0), (1, 0), (2, 0), (3, 0), (4, 0), (5, 0), (6, 0)] [6] (by decide) ?_
      simp -implicitDefEqProofs [List.lookup_cons, eS, rbR_iR, rbR_nil, rbOb_mk, iR_mf, pickOk, -List.all_eq_true, iR_ok, ok0, iR_eq_nil, deIs_nil, OpOk, t0, t3, t4]
      refine fin_pure (by simp) ?_
      simp -implicitDefEqProofs [fS, rn0, pickObs, deI, dbX, tR_pur]
    | some f =>
      have hpos := hlen.2 f rfl
      simp only [lsX, ftX, rvO, tR_nil] at pr qr
      simp -implicitDefEqProofs [drC, Try.f18, List.lookup_cons, eS, rbR_iR, rbR_nil, rbOb_mk, iR_mf, pickOk, -List.all_eq_true, iR_ok, ok0, iR_eq_nil, deIs_nil, t0, t3, t4, pr, qr, ipr, pickOkN, tR_rw, tR_rv, hpos]
      refine drawP_x _ [(0, 0), (1, 0), (2, 0)] [2] (by decide) ?_
      simp -implicitDefEqProofs [List.lookup_cons, eS, rbR_iR, rbR_nil, rbOb_mk, iR_mf, pickOk, -List.all_eq_true, iR_ok, ok0, iR_eq_nil, deIs_nil, OpOk, t0, t3, t4]
      refine fin_pure (by simp) ?_
      simp -implicitDefEqProofs [fS, rn0, pickObs, deI, dbX]
  generalize hB : (drC 3 (bodyOf Try.f18)) = Bq at key ⊢
  simp -implicitDefEqProofs [Try.f18, List.lookup_cons, eS, rbR_iR, rbR_nil, rbOb_mk, iR_mf, pickOk, -List.all_eq_true, iR_ok, ok0, iR_eq_nil, deIs_nil, Sx, tkC, h6, h6i]
  refine key _ ?_ ?_ ?_
  all_goals simp [upd, tl_cons]
theorem dcW_pos {s : ByteArray} {l : List Att} {f : Int × Nat} (h : dcW s = (l, some f)) : 0 < f.1 := by
  unfold dcW at h
  split at h
  · injection h with h1 h2
    injection h2 with h2
    rw [← h2]; decide
  · have := (rdW_len (s := s) _ 1 0 s.size [] (Nat.le_refl _) (Nat.zero_le _)).2
    rw [h] at this
    exact this f rfl
theorem dcW_len {s : ByteArray} {l : List Att} (h : dcW s = (l, none)) : l.length ≤ 400 := by
  unfold dcW at h
  split at h
  · injection h with h1 h2; cases h2
  · have := (rdW_len (s := s) _ 1 0 s.size [] (Nat.le_refl _) (Nat.zero_le _)).1
    rw [h] at this
    exact this
def F6 : Fun := ⟨fun xs => ∃ s, xs = [Sx s] ∧ s.size ≤ 1048576, fun xs => ddX (dcW (deS (xs.getD 0 .top)))⟩
theorem c6 : GenCA K Try.prog 6 F6 := by
  refine contractA Try.mix K [(18, F18)] [] (by simp [c18]) (by simp) Try.func6 rfl (by decide) ?_
  rintro xs ⟨s, rfl, hs⟩
  have hres : F6.res [Sx s] = ddX (dcW s) := rfl
  rw [hres]
  refine ⟨by rw [Try.ntmps6]; simp, ?_⟩
  have p1 : F18.pre [.v (.string s)] := ⟨s, rfl, hs⟩
  have q1 : F18.res [.v (.string s)] = dbX (dcW s) := rfl
  have hp := @dcW_pos s
  generalize dcW s = q at q1 hp
  obtain ⟨l, f⟩ := q
  cases f with
  | none =>
    simp only [dbX] at q1
    simp -implicitDefEqProofs [Try.f6, List.lookup_cons, eS, Sx, p1, q1]
    refine drawP_x _ [(0, 0), (1, 0), (5, 0), (6, 0), (2, 0), (3, 0), (4, 0), (7, 1)] [6] (by decide) ?_
    simp -implicitDefEqProofs [List.lookup_cons, eS, OpOk]
    refine fin_pure (by simp) ?_
    simp -implicitDefEqProofs [fS, rn0, pickObs, deI, ddX, tR_pur]
  | some f =>
    have hpos := hp rfl
    have hk0 : ¬ f.1 = 0 := by omega
    have hkb : (f.1 == 0) = false := by simpa using hk0
    simp only [dbX] at q1
    simp -implicitDefEqProofs [Try.f6, List.lookup_cons, eS, Sx, p1, q1, hk0, hkb]
    refine drawP_x _ [(0, 0), (1, 0), (5, 0), (6, 0), (2, 0), (3, 0), (4, 0), (7, 1)] [6] (by decide) ?_
    simp -implicitDefEqProofs [List.lookup_cons, eS, OpOk, hk0, hkb]
    refine fin_pure (by simp) ?_
    simp -implicitDefEqProofs [fS, rn0, pickObs, deI, ddX]
end Go.Proofs
