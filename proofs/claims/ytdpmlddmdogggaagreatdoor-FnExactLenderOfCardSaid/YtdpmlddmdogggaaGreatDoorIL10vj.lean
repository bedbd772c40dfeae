/-
  What is proved here: contracts of what tokens allow. Condition: none.
-/
import Derived.Test.YtdpmlddmdogggaaGreatDoorIL10tj
import Derived.Test.YtdpmlddmdogggaaGreatDoorIL9fj
namespace Go.Proofs
open Go.Abs
set_option linter.unusedSimpArgs false
set_option linter.unnecessarySimpa false
set_option linter.unusedVariables false
set_option maxHeartbeats 16000000
set_option maxRecDepth 20000
def lendN (r : List Int) (size : Int) : List Int → Int
  | [] => -1
  | k :: l => if size ≤ r.getD k.toNat 0 then k else lendN r size l
def lndI (x : Ldd) (t : Tok) (i size : Int) : Int := lendN t.r size (hop x.par i)
theorem getR_at {f : List Int} {k : Nat} (h : k < f.length) : f.getD k 0 = f[k] := by simp [h]
def F99 : Fun := ⟨fun xs => xs = [.agg (lX (deL (xs.getD 0 .top) : Ldd)), .agg (tkX (deTk (xs.getD 1 .top) : Tok)), I (deI (xs.getD 2 .top) : Int), I (deI (xs.getD 3 .top) : Int)] ∧ (fun (x : Ldd) (t : Tok) (i : Int) (size : Int) => (LdG x ∧ t.r.length = x.cls.length ∧ 0 ≤ i ∧ i < x.cls.length)) (deL (xs.getD 0 .top) : Ldd) (deTk (xs.getD 1 .top) : Tok) (deI (xs.getD 2 .top) : Int) (deI (xs.getD 3 .top) : Int), fun xs => (fun (x : Ldd) (t : Tok) (i : Int) (size : Int) => ((I (lndI x t i size), []) : X × List Ob)) (deL (xs.getD 0 .top) : Ldd) (deTk (xs.getD 1 .top) : Tok) (deI (xs.getD 2 .top) : Int) (deI (xs.getD 3 .top) : Int)⟩
theorem F99_in {xs : List X} (h : F99.pre xs) : ∃ (x : Ldd) (t : Tok) (i : Int) (size : Int), xs = [.agg (lX x), .agg (tkX t), I i, I size] ∧ (LdG x ∧ t.r.length = x.cls.length ∧ 0 ≤ i ∧ i < x.cls.length) := ⟨_, _, _, _, h.1, h.2⟩
theorem F99_res (x : Ldd) (t : Tok) (i : Int) (size : Int) : F99.res [.agg (lX x), .agg (tkX t), I i, I size] = (I (lndI x t i size), []) := by simp [F99]
theorem c99 : GenCA K Tryz.prog 99 F99 := by
  refine contractA Tryz.mix K [] [] (by simp) (by simp) Tryz.func99 rfl (by decide) ?_
  intro xs hxs
  obtain ⟨x, t, i, size, rfl, hp⟩ := F99_in hxs
  rw [F99_res]
  refine ⟨by rw [Tryz.ntmps99]; simp, ?_⟩
  obtain ⟨G, hl, h0, h1⟩ := hp
  obtain ⟨j, rfl⟩ := Int.eq_ofNat_of_zero_le h0
  have hj : j < x.cls.length := by omega
  unfold lndI
  simp -implicitDefEqProofs [Tryz.f99, List.lookup_cons, eS]
  refine loopP_inv (fun k : Int => ⟨26, tl [(3, I size), (4, .optr 0 0 0 0), (5, .optr 1 0 0 0), (9, I k)], [⟨35, 9, 0, [[.v (.string x.name), .sl (tR x.cls), .sl (iR x.par), .sl (iR x.fst), .sl (iR x.nx), .sl (iR x.en), .sl (tR x.fil), .sl (iR x.tgt), I x.dflt]], true, true, none⟩, ⟨29, 2, 0, [[.sl (iR t.r), .sl (iR t.c)]], true, true, none⟩]⟩) (fun k => lendN t.r size (hop x.par k) = lendN t.r size (hop x.par (j : Int)) ∧ (k < 0 ∨ ∃ m : Nat, k = (m : Int) ∧ m < x.cls.length)) (fun k => if k < 0 then 0 else (k + 1).toNat) (j : Int) ⟨rfl, .inr ⟨j, rfl, hj⟩⟩ (Wk.tl (by simp [hold, upd, tl_cons])) ?_
  rintro k ⟨hc, hk⟩
  rw [← hc]
  by_cases h : k < 0
  · have h' : ¬ 0 ≤ k := by omega
    rw [hop_neg _ h]
    simp -implicitDefEqProofs [List.lookup_cons, eS, h', h]
    refine fin_pure (by simp) ?_
    simp -implicitDefEqProofs [fS, rn0, pickObs, deI, lendN]
  · obtain ⟨m, rfl, hm⟩ := hk.resolve_left h
    have h0 : (0 : Int) ≤ m := by omega
    have hmp : m < x.par.length := by rw [G.lp]; exact hm
    have hmr : m < t.r.length := by omega
    have hstep := hop_par G hm
    have hr := par_rng G m hm
    rw [getD_at hmp] at hstep hr
    obtain ⟨v, hv⟩ : ∃ v, x.par[m] = v := ⟨_, rfl⟩
    rw [hv] at hstep hr
    have hvm : v < (m : Int) := by
      rcases G.par m hmp with ⟨e, _⟩ | ⟨p, e, hp1⟩ <;> omega
    by_cases hs : size ≤ t.r[m]
    · have e : lendN t.r size (hop x.par (m : Int)) = (m : Int) := by rw [hstep]; simp [lendN, hmr, hs]
      rw [e]
      simp -implicitDefEqProofs [List.lookup_cons, eS, h0, hmp, hmr, hs, hv]
      refine fin_pure (by simp) ?_
      simp -implicitDefEqProofs [fS, rn0, pickObs, deI]
    · have e : lendN t.r size (hop x.par (m : Int)) = lendN t.r size (hop x.par v) := by rw [hstep]; simp [lendN, hmr, hs]
      have hs' : t.r[m] < size := by omega
      simp -implicitDefEqProofs [List.lookup_cons, eS, h0, hmp, hmr, hs, hs', hv]
      refine ⟨v, by rw [← e, hc], hr, ?_, ?_⟩
      · split <;> (try split) <;> omega
      exact Wk.tl (by simp [hold, upd, tl_cons])
theorem c98 : GenCA K Tryz.prog 98 F99 := by
  refine contractA Tryz.mix K [(75, F95)] [] (by simp [c75]) (by simp) Tryz.func98 rfl (by decide) ?_
  intro xs hxs
  obtain ⟨x, t, i, size, rfl, hp⟩ := F99_in hxs
  rw [F99_res]
  refine ⟨by rw [Tryz.ntmps98]; simp, ?_⟩
  obtain ⟨G, hl, h0, h1⟩ := hp
  obtain ⟨j, rfl⟩ := Int.eq_ofNat_of_zero_le h0
  have hj : j < x.cls.length := by omega
  have hwr := way_rng G hj
  have hwl := hop_len x.par (j : Int)
  unfold lndI
  obtain ⟨w, hww⟩ : ∃ w, hop x.par (j : Int) = w := ⟨_, rfl⟩
  rw [hww] at hwr hwl ⊢
  simp -implicitDefEqProofs [Tryz.f98, F95, List.lookup_cons, eS, G, hj, hww, iOb]
  refine loopP_inv (fun k : Nat => ⟨28, tl [(3, I size), (4, .optr 0 0 0 0), (5, .optr 1 0 0 0), (13, .osl 2 0), (14, I w.length), (15, I k)], [⟨35, 9, 0, [[.v (.string x.name), .sl (tR x.cls), .sl (iR x.par), .sl (iR x.fst), .sl (iR x.nx), .sl (iR x.en), .sl (tR x.fil), .sl (iR x.tgt), I x.dflt]], true, true, none⟩, ⟨29, 2, 0, [[.sl (iR t.r), .sl (iR t.c)]], true, true, none⟩, ⟨3, 1, 0, iR w, false, true, none⟩]⟩) (fun k => k ≤ w.length ∧ lendN t.r size (w.drop k) = lendN t.r size w) (fun k => w.length - k) 0 ⟨Nat.zero_le _, rfl⟩ (Wk.tl (by simp [hold, upd, tl_cons])) ?_
  rintro k ⟨hk, hc⟩
  rw [← hc]
  by_cases h : k < w.length
  · have hw := w64n (show k < 4611686018427387904 by omega)
    obtain ⟨m, hm0, hm⟩ := hwr w[k] (List.getElem_mem h)
    have hmr : m < t.r.length := by omega
    have hd : w.drop k = (m : Int) :: w.drop (k + 1) := by rw [List.drop_eq_getElem_cons h, hm0]
    have hmg : ∀ h', w[k]'(h') = (m : Int) := fun _ => hm0
    by_cases hs : size ≤ t.r[m]
    · have e : lendN t.r size (w.drop k) = (m : Int) := by rw [hd]; simp [lendN, hmr, hs]
      rw [e]
      simp -implicitDefEqProofs [List.lookup_cons, eS, h, hmg, hmr, hs]
      refine fin_pure (by simp) ?_
      simp -implicitDefEqProofs [fS, rn0, pickObs, deI]
    · have e : lendN t.r size (w.drop k) = lendN t.r size (w.drop (k + 1)) := by rw [hd]; simp [lendN, hmr, hs]
      have hs' : t.r[m] < size := by omega
      simp -implicitDefEqProofs [List.lookup_cons, eS, h, hmg, hmr, hs, hs']
      refine ⟨k + 1, by omega, by rw [← e, hc], by omega, ?_⟩
      exact Wk.tl (by simp [hold, upd, tl_cons, hw])
  · have e : k = w.length := by omega
    subst e
    rw [List.drop_length]
    simp -implicitDefEqProofs [List.lookup_cons, eS]
    refine fin_pure (by simp) ?_
    simp -implicitDefEqProofs [fS, rn0, pickObs, deI, lendN]
def leafI (x : Ldd) (i : Int) : Bool := decide (0 ≤ i) && (decide (i < x.cls.length) && decide (x.fst.getD i.toNat (-1) < 0))
def F111 : Fun := ⟨fun xs => xs = [.agg (lX (deL (xs.getD 0 .top) : Ldd)), I (deI (xs.getD 1 .top) : Int)] ∧ (fun (x : Ldd) (i : Int) => (LdG x)) (deL (xs.getD 0 .top) : Ldd) (deI (xs.getD 1 .top) : Int), fun xs => (fun (x : Ldd) (i : Int) => ((B (leafI x i), []) : X × List Ob)) (deL (xs.getD 0 .top) : Ldd) (deI (xs.getD 1 .top) : Int)⟩
theorem F111_in {xs : List X} (h : F111.pre xs) : ∃ (x : Ldd) (i : Int), xs = [.agg (lX x), I i] ∧ (LdG x) := ⟨_, _, h.1, h.2⟩
theorem F111_res (x : Ldd) (i : Int) : F111.res [.agg (lX x), I i] = (B (leafI x i), []) := by simp [F111]
theorem c111 : GenCA K Tryz.prog 111 F111 := by
  refine contractA Tryz.mix K [] [] (by simp) (by simp) Tryz.func111 rfl (by decide) ?_
  intro xs hxs
  obtain ⟨x, i, rfl, hp⟩ := F111_in hxs
  rw [F111_res]
  refine ⟨by rw [Tryz.ntmps111]; simp, ?_⟩
  by_cases h0 : 0 ≤ i
  rotate_left
  · have e : leafI x i = false := by simp [leafI, h0]
    simp -implicitDefEqProofs [Tryz.f111, List.lookup_cons, eS, h0]
    refine fin_pure (by simp) ?_
    simp -implicitDefEqProofs [fS, rn0, pickObs, deI, e]
  by_cases h1 : i < x.cls.length
  rotate_left
  · have e : leafI x i = false := by simp [leafI, h1]
    simp -implicitDefEqProofs [Tryz.f111, List.lookup_cons, eS, h0, h1]
    refine fin_pure (by simp) ?_
    simp -implicitDefEqProofs [fS, rn0, pickObs, deI, e]
  obtain ⟨j, rfl⟩ := Int.eq_ofNat_of_zero_le h0
  have hj : j < x.fst.length := by rw [hp.lf]; omega
  have h1' : j < x.cls.length := by omega
  have e : leafI x (j : Int) = decide (x.fst[j] < 0) := by simp [leafI, hj, h1']
  rw [e]
  simp -implicitDefEqProofs [Tryz.f111, List.lookup_cons, eS, h1', hj]
  refine fin_pure (by simp) ?_
  simp -implicitDefEqProofs [fS, rn0, pickObs, deI]
theorem c110 : GenCA K Tryz.prog 110 F112 := by
  refine contractA Tryz.mix K [(87, F87)] [] (by simp [c87]) (by simp) Tryz.func110 rfl (by decide) ?_
  intro xs hxs
  obtain ⟨n, rfl, hp⟩ := F112_in hxs
  rw [F112_res]
  refine ⟨by rw [Tryz.ntmps110]; simp, ?_⟩
  simp -implicitDefEqProofs [Tryz.f110, F87, List.lookup_cons, eS]
  refine fin_pure (by simp) ?_
  simp -implicitDefEqProofs [fS, rn0, pickObs, deI]
def caB (x : Ldd) (t : Tok) (i size : Int) : Bool := isLd x && (atB x t && (leafI x i && rng 1 1500 size))
def F73 : Fun := ⟨fun xs => xs = [.agg (lX (deL (xs.getD 0 .top) : Ldd)), .agg (tkX (deTk (xs.getD 1 .top) : Tok)), I (deI (xs.getD 2 .top) : Int), I (deI (xs.getD 3 .top) : Int)] ∧ (fun (x : Ldd) (t : Tok) (i : Int) (size : Int) => (okM x)) (deL (xs.getD 0 .top) : Ldd) (deTk (xs.getD 1 .top) : Tok) (deI (xs.getD 2 .top) : Int) (deI (xs.getD 3 .top) : Int), fun xs => (fun (x : Ldd) (t : Tok) (i : Int) (size : Int) => ((B (caB x t i size), []) : X × List Ob)) (deL (xs.getD 0 .top) : Ldd) (deTk (xs.getD 1 .top) : Tok) (deI (xs.getD 2 .top) : Int) (deI (xs.getD 3 .top) : Int)⟩
theorem F73_in {xs : List X} (h : F73.pre xs) : ∃ (x : Ldd) (t : Tok) (i : Int) (size : Int), xs = [.agg (lX x), .agg (tkX t), I i, I size] ∧ (okM x) := ⟨_, _, _, _, h.1, h.2⟩
theorem F73_res (x : Ldd) (t : Tok) (i : Int) (size : Int) : F73.res [.agg (lX x), .agg (tkX t), I i, I size] = (B (caB x t i size), []) := by simp [F73]
theorem c73 : GenCA K Tryz.prog 73 F73 := by
  refine contractA Tryz.mix K [(33, F33), (90, F90), (111, F111), (112, F112)] [] (by simp [c33, c90, c111, c112]) (by simp) Tryz.func73 rfl (by decide) ?_
  intro xs hxs
  obtain ⟨x, t, i, size, rfl, hp⟩ := F73_in hxs
  rw [F73_res]
  refine ⟨by rw [Tryz.ntmps73]; simp, ?_⟩
  unfold caB
  cases g1 : isLd x with
  | false =>
    simp -implicitDefEqProofs [Tryz.f73, F33, F90, F111, F112, List.lookup_cons, eS, hp, g1]
    refine fin_pure (by simp) ?_
    simp -implicitDefEqProofs [fS, rn0, pickObs, deI]
  | true =>
  have G := isLd_G g1
  cases g2 : atB x t with
  | false =>
    simp -implicitDefEqProofs [Tryz.f73, F33, F90, F111, F112, List.lookup_cons, eS, hp, g1, g2]
    refine fin_pure (by simp) ?_
    simp -implicitDefEqProofs [fS, rn0, pickObs, deI]
  | true =>
  cases g3 : leafI x i with
  | false =>
    simp -implicitDefEqProofs [Tryz.f73, F33, F90, F111, F112, List.lookup_cons, eS, hp, g1, g2, G, g3]
    refine fin_pure (by simp) ?_
    simp -implicitDefEqProofs [fS, rn0, pickObs, deI]
  | true =>
    simp -implicitDefEqProofs [Tryz.f73, F33, F90, F111, F112, List.lookup_cons, eS, hp, g1, g2, G, g3]
    refine fin_pure (by simp) ?_
    simp -implicitDefEqProofs [fS, rn0, pickObs, deI]
def F108 : Fun := ⟨fun xs => xs = [.agg (lX (deL (xs.getD 0 .top) : Ldd)), .agg (tkX (deTk (xs.getD 1 .top) : Tok))] ∧ (fun (x : Ldd) (t : Tok) => (okM x)) (deL (xs.getD 0 .top) : Ldd) (deTk (xs.getD 1 .top) : Tok), fun xs => (fun (x : Ldd) (t : Tok) => ((B (isLd x && atB x t), []) : X × List Ob)) (deL (xs.getD 0 .top) : Ldd) (deTk (xs.getD 1 .top) : Tok)⟩
theorem F108_in {xs : List X} (h : F108.pre xs) : ∃ (x : Ldd) (t : Tok), xs = [.agg (lX x), .agg (tkX t)] ∧ (okM x) := ⟨_, _, h.1, h.2⟩
theorem F108_res (x : Ldd) (t : Tok) : F108.res [.agg (lX x), .agg (tkX t)] = (B (isLd x && atB x t), []) := by simp [F108]
theorem c108 : GenCA K Tryz.prog 108 F108 := by
  refine contractA Tryz.mix K [(61, F33), (89, F90)] [] (by simp [c61, c89]) (by simp) Tryz.func108 rfl (by decide) ?_
  intro xs hxs
  obtain ⟨x, t, rfl, hp⟩ := F108_in hxs
  rw [F108_res]
  refine ⟨by rw [Tryz.ntmps108]; simp, ?_⟩
  cases g1 : isLd x with
  | false =>
    simp -implicitDefEqProofs [Tryz.f108, F33, F90, List.lookup_cons, eS, hp, g1]
    refine fin_pure (by simp) ?_
    simp -implicitDefEqProofs [fS, rn0, pickObs, deI]
  | true =>
    simp -implicitDefEqProofs [Tryz.f108, F33, F90, List.lookup_cons, eS, hp, g1]
    refine fin_pure (by simp) ?_
    simp -implicitDefEqProofs [fS, rn0, pickObs, deI]
theorem c71 : GenCA K Tryz.prog 71 F73 := by
  refine contractA Tryz.mix K [(108, F108), (87, F87), (109, F109), (110, F112)] [] (by simp [c108, c87, c109, c110]) (by simp) Tryz.func71 rfl (by decide) ?_
  intro xs hxs
  obtain ⟨x, t, i, size, rfl, hp⟩ := F73_in hxs
  rw [F73_res]
  refine ⟨by rw [Tryz.ntmps71]; simp, ?_⟩
  have hl := hp.1.1
  have hw : IntKind.i64.wrap ((x.cls.length : Int) - 1) = (x.cls.length : Int) - 1 := w64 (by omega) (by omega)
  cases g0 : (isLd x && atB x t) with
  | false =>
    have e : caB x t i size = false := by
      unfold caB
      rw [← Bool.and_assoc, g0, Bool.false_and]
    simp -implicitDefEqProofs [Tryz.f71, F108, F87, F109, F112, List.lookup_cons, eS, hp, g0]
    refine fin_pure (by simp) ?_
    simp -implicitDefEqProofs [fS, rn0, pickObs, deI, e]
  | true =>
  have g1 : isLd x = true := by simp at g0; exact g0.1
  have G := isLd_G g1
  have e : caB x t i size = (leafI x i && rng 1 1500 size) := by
    unfold caB
    rw [← Bool.and_assoc, g0, Bool.true_and]
  rw [e]
  cases g3 : rng 0 ((x.cls.length : Int) - 1) i with
  | false =>
    have e2 : leafI x i = false := by
      simp [rng] at g3
      unfold leafI
      rw [Bool.eq_false_iff]
      simp
      omega
    simp -implicitDefEqProofs [Tryz.f71, F108, F87, F109, F112, List.lookup_cons, eS, hp, g0, hw, g3]
    refine fin_pure (by simp) ?_
    simp -implicitDefEqProofs [fS, rn0, pickObs, deI, e2]
  | true =>
    have h01 : 0 ≤ i ∧ i < x.cls.length := by simp [rng] at g3; omega
    have e2 : leafI x i = decide (x.fst[i.toNat]?.getD (-1) < 0) := by simp [leafI, h01.1, h01.2]
    rw [e2]
    by_cases g4 : x.fst[i.toNat]?.getD (-1) < 0
    · simp -implicitDefEqProofs [Tryz.f71, F108, F87, F109, F112, List.lookup_cons, eS, hp, g0, hw, g3, G, h01.1, h01.2, g4]
      refine fin_pure (by simp) ?_
      simp -implicitDefEqProofs [fS, rn0, pickObs, deI, g4]
    · simp -implicitDefEqProofs [Tryz.f71, F108, F87, F109, F112, List.lookup_cons, eS, hp, g0, hw, g3, G, h01.1, h01.2, g4]
      refine fin_pure (by simp) ?_
      simp -implicitDefEqProofs [fS, rn0, pickObs, deI, g4]
theorem caB_at {x : Ldd} {t : Tok} {i size : Int} (h : caB x t i size = true) : ∃ j : Nat, i = (j : Int) ∧ j < x.cls.length ∧ LdG x ∧ t.r.length = x.cls.length ∧ t.c.length = x.cls.length ∧ atK x t x.cls.length = true ∧ 1 ≤ size ∧ size ≤ 1500 := by
  simp only [caB, atB, leafI, rng, Bool.and_eq_true, decide_eq_true_eq] at h
  obtain ⟨j, rfl⟩ := Int.eq_ofNat_of_zero_le h.2.2.1.1
  exact ⟨j, rfl, by omega, isLd_G h.1, h.2.1.1, h.2.1.2.1, h.2.1.2.2, by omega, by omega⟩
end Go.Proofs
