/-
  What is proved here: contracts of what tokens allow. Condition: none.
-/
import Derived.Test.YtdpmlddmdogggaaGreatDoorIL10vj
namespace Go.Proofs
open Go.Abs
set_option linter.unusedSimpArgs false
set_option linter.unnecessarySimpa false
set_option linter.unusedVariables false
set_option maxHeartbeats 16000000
set_option maxRecDepth 20000
def cwB (t : Tok) (size : Int) (l : List Int) : Bool := l.all fun k => decide (size ≤ t.c.getD k.toNat 0)
theorem cwB_step {t : Tok} {size : Int} {w : List Int} {k m : Nat} (h : k < w.length) (hm : w[k] = (m : Int)) (hmr : m < t.c.length) (ha : cwB t size (w.take k) = true) (hs : size ≤ t.c[m]) : cwB t size (w.take (k + 1)) = true := by
  unfold cwB at *
  rw [List.take_succ_eq_append_getElem h, List.all_append, ha, hm]
  simp [hmr, hs]
theorem cwB_bad {t : Tok} {size : Int} {w : List Int} {k m : Nat} (h : k < w.length) (hm : w[k] = (m : Int)) (hmr : m < t.c.length) (hs : t.c[m] < size) : cwB t size w = false := by
  refine Bool.eq_false_iff.2 fun hn => ?_
  unfold cwB at hn
  rw [List.all_eq_true] at hn
  have := hn _ (List.getElem_mem h)
  rw [hm] at this
  simp [hmr] at this
  omega
def mayB (x : Ldd) (t : Tok) (i size : Int) : Bool := cwB t size (hop x.par i) && decide (0 ≤ lndI x t i size)
def F74 : Fun := ⟨fun xs => xs = [.agg (lX (deL (xs.getD 0 .top) : Ldd)), .agg (tkX (deTk (xs.getD 1 .top) : Tok)), I (deI (xs.getD 2 .top) : Int), I (deI (xs.getD 3 .top) : Int)] ∧ (fun (x : Ldd) (t : Tok) (i : Int) (size : Int) => (LdG x ∧ t.r.length = x.cls.length ∧ t.c.length = x.cls.length ∧ 0 ≤ i ∧ i < x.cls.length)) (deL (xs.getD 0 .top) : Ldd) (deTk (xs.getD 1 .top) : Tok) (deI (xs.getD 2 .top) : Int) (deI (xs.getD 3 .top) : Int), fun xs => (fun (x : Ldd) (t : Tok) (i : Int) (size : Int) => ((B (mayB x t i size), []) : X × List Ob)) (deL (xs.getD 0 .top) : Ldd) (deTk (xs.getD 1 .top) : Tok) (deI (xs.getD 2 .top) : Int) (deI (xs.getD 3 .top) : Int)⟩
theorem F74_in {xs : List X} (h : F74.pre xs) : ∃ (x : Ldd) (t : Tok) (i : Int) (size : Int), xs = [.agg (lX x), .agg (tkX t), I i, I size] ∧ (LdG x ∧ t.r.length = x.cls.length ∧ t.c.length = x.cls.length ∧ 0 ≤ i ∧ i < x.cls.length) := ⟨_, _, _, _, h.1, h.2⟩
theorem F74_res (x : Ldd) (t : Tok) (i : Int) (size : Int) : F74.res [.agg (lX x), .agg (tkX t), I i, I size] = (B (mayB x t i size), []) := by simp [F74]
theorem c74 : GenCA K Tryz.prog 74 F74 := by
  refine contractA Tryz.mix K [(95, F95), (99, F99)] [] (by simp [c95, c99]) (by simp) Tryz.func74 rfl (by decide) ?_
  intro xs hxs
  obtain ⟨x, t, i, size, rfl, hp⟩ := F74_in hxs
  rw [F74_res]
  refine ⟨by rw [Tryz.ntmps74]; simp, ?_⟩
  obtain ⟨G, hl, hlc, h0, h1⟩ := hp
  obtain ⟨j, rfl⟩ := Int.eq_ofNat_of_zero_le h0
  have hj : j < x.cls.length := by omega
  have hwr := way_rng G hj
  have hwl := hop_len x.par (j : Int)
  unfold mayB
  obtain ⟨v, hv⟩ : ∃ v, lndI x t (j : Int) size = v := ⟨_, rfl⟩
  obtain ⟨w, hww⟩ : ∃ w, hop x.par (j : Int) = w := ⟨_, rfl⟩
  rw [hv]
  rw [hww] at hwr hwl ⊢
  simp -implicitDefEqProofs [Tryz.f74, F95, F99, List.lookup_cons, eS, G, hj, hww, iOb]
  refine loopP_inv (fun k : Nat => ⟨33, tl [(2, I j), (3, I size), (4, .optr 0 0 0 0), (5, .optr 1 0 0 0), (13, .osl 2 0), (14, I w.length), (15, I k)], [⟨35, 9, 0, [[.v (.string x.name), .sl (tR x.cls), .sl (iR x.par), .sl (iR x.fst), .sl (iR x.nx), .sl (iR x.en), .sl (tR x.fil), .sl (iR x.tgt), I x.dflt]], true, true, none⟩, ⟨29, 2, 0, [[.sl (iR t.r), .sl (iR t.c)]], true, true, none⟩, ⟨3, 1, 0, iR w, false, true, none⟩]⟩) (fun k => k ≤ w.length ∧ cwB t size (w.take k) = true) (fun k => w.length - k) 0 ⟨Nat.zero_le _, rfl⟩ (Wk.tl (by simp [hold, upd, tl_cons])) ?_
  rintro k ⟨hk, hc⟩
  by_cases h : k < w.length
  · have hw := w64n (show k < 4611686018427387904 by omega)
    obtain ⟨m, hm0, hm⟩ := hwr w[k] (List.getElem_mem h)
    have hmr : m < t.c.length := by omega
    have hmg : ∀ h', w[k]'(h') = (m : Int) := fun _ => hm0
    by_cases hs : t.c[m] < size
    · have hbad := cwB_bad h hm0 hmr hs
      rw [hbad, Bool.false_and]
      simp -implicitDefEqProofs [List.lookup_cons, eS, h, hmg, hmr, hs]
      refine fin_pure (by simp) ?_
      simp -implicitDefEqProofs [fS, rn0, pickObs, deI]
    · have hs' : size ≤ t.c[m] := by omega
      have hgood := cwB_step h hm0 hmr hc hs'
      simp -implicitDefEqProofs [List.lookup_cons, eS, h, hmg, hmr, hs, hs']
      refine ⟨k + 1, by omega, hgood, by omega, ?_⟩
      exact Wk.tl (by simp [hold, upd, tl_cons, hw])
  · have e : k = w.length := by omega
    subst e
    rw [List.take_length] at hc
    rw [hc, Bool.true_and]
    simp -implicitDefEqProofs [List.lookup_cons, eS, F99, G, hl, hj, hv]
    refine fin_pure (by simp) ?_
    simp -implicitDefEqProofs [fS, rn0, pickObs, deI]
theorem c72 : GenCA K Tryz.prog 72 F74 := by
  refine contractA Tryz.mix K [(75, F95), (98, F99)] [] (by simp [c75, c98]) (by simp) Tryz.func72 rfl (by decide) ?_
  intro xs hxs
  obtain ⟨x, t, i, size, rfl, hp⟩ := F74_in hxs
  rw [F74_res]
  refine ⟨by rw [Tryz.ntmps72]; simp, ?_⟩
  obtain ⟨G, hl, hlc, h0, h1⟩ := hp
  obtain ⟨j, rfl⟩ := Int.eq_ofNat_of_zero_le h0
  have hj : j < x.cls.length := by omega
  have hwr := way_rng G hj
  have hwl := hop_len x.par (j : Int)
  unfold mayB
  obtain ⟨v, hv⟩ : ∃ v, lndI x t (j : Int) size = v := ⟨_, rfl⟩
  obtain ⟨w, hww⟩ : ∃ w, hop x.par (j : Int) = w := ⟨_, rfl⟩
  rw [hv]
  rw [hww] at hwr hwl ⊢
  simp -implicitDefEqProofs [Tryz.f72, F95, F99, List.lookup_cons, eS, G, hj, hww, iOb]
  refine loopP_inv (fun k : Nat => ⟨33, tl [(2, I j), (3, I size), (4, .optr 0 0 0 0), (5, .optr 1 0 0 0), (13, .osl 2 0), (14, I w.length), (15, I k)], [⟨35, 9, 0, [[.v (.string x.name), .sl (tR x.cls), .sl (iR x.par), .sl (iR x.fst), .sl (iR x.nx), .sl (iR x.en), .sl (tR x.fil), .sl (iR x.tgt), I x.dflt]], true, true, none⟩, ⟨29, 2, 0, [[.sl (iR t.r), .sl (iR t.c)]], true, true, none⟩, ⟨3, 1, 0, iR w, false, true, none⟩]⟩) (fun k => k ≤ w.length ∧ cwB t size (w.take k) = true) (fun k => w.length - k) 0 ⟨Nat.zero_le _, rfl⟩ (Wk.tl (by simp [hold, upd, tl_cons])) ?_
  rintro k ⟨hk, hc⟩
  by_cases h : k < w.length
  · have hw := w64n (show k < 4611686018427387904 by omega)
    obtain ⟨m, hm0, hm⟩ := hwr w[k] (List.getElem_mem h)
    have hmr : m < t.c.length := by omega
    have hmg : ∀ h', w[k]'(h') = (m : Int) := fun _ => hm0
    by_cases hs : t.c[m] < size
    · have hbad := cwB_bad h hm0 hmr hs
      rw [hbad, Bool.false_and]
      simp -implicitDefEqProofs [List.lookup_cons, eS, h, hmg, hmr, hs]
      refine fin_pure (by simp) ?_
      simp -implicitDefEqProofs [fS, rn0, pickObs, deI]
    · have hs' : size ≤ t.c[m] := by omega
      have hgood := cwB_step h hm0 hmr hc hs'
      simp -implicitDefEqProofs [List.lookup_cons, eS, h, hmg, hmr, hs, hs']
      refine ⟨k + 1, by omega, hgood, by omega, ?_⟩
      exact Wk.tl (by simp [hold, upd, tl_cons, hw])
  · have e : k = w.length := by omega
    subst e
    rw [List.take_length] at hc
    rw [hc, Bool.true_and]
    simp -implicitDefEqProofs [List.lookup_cons, eS, F99, G, hl, hj, hv]
    refine fin_pure (by simp) ?_
    simp -implicitDefEqProofs [fS, rn0, pickObs, deI]
def F29 : Fun := ⟨fun xs => xs = [.agg (lX (deL (xs.getD 0 .top) : Ldd)), .agg (tkX (deTk (xs.getD 1 .top) : Tok)), I (deI (xs.getD 2 .top) : Int), I (deI (xs.getD 3 .top) : Int)] ∧ (fun (x : Ldd) (t : Tok) (i : Int) (size : Int) => (okM x)) (deL (xs.getD 0 .top) : Ldd) (deTk (xs.getD 1 .top) : Tok) (deI (xs.getD 2 .top) : Int) (deI (xs.getD 3 .top) : Int), fun xs => (fun (x : Ldd) (t : Tok) (i : Int) (size : Int) => ((bbX (caB x t i size) (mayB x t i size), []) : X × List Ob)) (deL (xs.getD 0 .top) : Ldd) (deTk (xs.getD 1 .top) : Tok) (deI (xs.getD 2 .top) : Int) (deI (xs.getD 3 .top) : Int)⟩
theorem F29_in {xs : List X} (h : F29.pre xs) : ∃ (x : Ldd) (t : Tok) (i : Int) (size : Int), xs = [.agg (lX x), .agg (tkX t), I i, I size] ∧ (okM x) := ⟨_, _, _, _, h.1, h.2⟩
theorem F29_res (x : Ldd) (t : Tok) (i : Int) (size : Int) : F29.res [.agg (lX x), .agg (tkX t), I i, I size] = (bbX (caB x t i size) (mayB x t i size), []) := by simp [F29]
theorem F29_mk (x : Ldd) (t : Tok) (i : Int) (size : Int) (h : okM x) : F29.pre [.agg (lX x), .agg (tkX t), I i, I size] := by simpa [F29] using h
theorem c29 : GenCA K Tryz.prog 29 F29 := by
  refine contractA Tryz.mix K [(73, F73), (74, F74)] [] (by simp [c73, c74]) (by simp) Tryz.func29 rfl (by decide) ?_
  intro xs hxs
  obtain ⟨x, t, i, size, rfl, hp⟩ := F29_in hxs
  rw [F29_res]
  refine ⟨by rw [Tryz.ntmps29]; simp, ?_⟩
  cases g : caB x t i size with
  | false =>
    rw [bbX_f]
    simp -implicitDefEqProofs [Tryz.f29, F73, F74, List.lookup_cons, eS, hp, g]
    refine fin_pure (by simp) ?_
    simp -implicitDefEqProofs [fS, rn0, pickObs, deI]
  | true =>
    obtain ⟨j, rfl, hj, G, l1, l2, l3, l4, l5⟩ := caB_at g
    rw [bbX_t]
    simp -implicitDefEqProofs [Tryz.f29, F73, F74, List.lookup_cons, eS, hp, g, G, l1, l2, hj]
    refine fin_pure (by simp) ?_
    simp -implicitDefEqProofs [fS, rn0, pickObs, deI]
theorem c27 : GenCA K Tryz.prog 27 F29 := by
  refine contractA Tryz.mix K [(71, F73), (72, F74)] [] (by simp [c71, c72]) (by simp) Tryz.func27 rfl (by decide) ?_
  intro xs hxs
  obtain ⟨x, t, i, size, rfl, hp⟩ := F29_in hxs
  rw [F29_res]
  refine ⟨by rw [Tryz.ntmps27]; simp, ?_⟩
  cases g : caB x t i size with
  | false =>
    rw [bbX_f]
    simp -implicitDefEqProofs [Tryz.f27, F73, F74, List.lookup_cons, eS, hp, g]
    refine fin_pure (by simp) ?_
    simp -implicitDefEqProofs [fS, rn0, pickObs, deI]
  | true =>
    obtain ⟨j, rfl, hj, G, l1, l2, l3, l4, l5⟩ := caB_at g
    rw [bbX_t]
    simp -implicitDefEqProofs [Tryz.f27, F73, F74, List.lookup_cons, eS, hp, g, G, l1, l2, hj]
    refine fin_pure (by simp) ?_
    simp -implicitDefEqProofs [fS, rn0, pickObs, deI]
end Go.Proofs
