/-
  What is proved here: contracts of the search of the top, on both sides. Condition: none.
  What is proved here: the contract of printed. Condition: none.
-/
import Derived.Test.YtdpmlddmdogggaaGreatDoorPWs
import Derived.Test.YtdpmlddmdogggaaGreatDoorC2j
import Derived.Test.YtdpmlddmdogggaaGreatDoorPRa
set_option linter.unusedVariables false
set_option linter.unusedSimpArgs false
set_option linter.unnecessarySimpa false
set_option maxHeartbeats 16000000
set_option maxRecDepth 20000
namespace Go.Proofs
open Go.Abs
def prTop (_ : List X) (x : Cls) : Bool := decide (x.par = 0)
theorem top_idx {c : Cfg} (h : isCfg c = true) : idxB (prTop []) c.cls = (topN c.cls : Int) := by
  obtain ⟨t1, t2⟩ := top_spec h
  refine idxB_found _ c.cls (topN c.cls) t1 ?_ ?_
  · rw [List.all_eq_true]
    intro x hx
    obtain ⟨j, hj, rfl⟩ := List.mem_take_iff_getElem.1 hx
    have := top_lt (c := c) j (by omega) (by omega)
    simp [prTop, this]
  · rw [atC_eq t1] at t2
    simp [prTop, t2]
theorem c183 : GenCA K Tryz.prog 183 (FPr cp0 prTop) := by
  refine contractA Tryz.mix K [] [] (by simp) (by simp) Tryz.func183 rfl (by decide) ?_
  intro xs hxs
  obtain ⟨x, rfl⟩ : ∃ (x : Cls), xs = [.agg (rX x)] := ⟨_, hxs.1.trans (congrArg (List.cons _) hxs.2)⟩
  have hres : (FPr cp0 prTop).res [.agg (rX x)] = (B (decide (x.par = 0)), []) := by simp [FPr, prTop]
  rw [hres]
  refine ⟨by rw [Tryz.ntmps183]; simp, ?_⟩
  simp -implicitDefEqProofs [Tryz.f183, List.lookup_cons, eS]
  refine fin_pure (by simp) ?_
  simp -implicitDefEqProofs [fS, rn0, pickObs, deI]
  rfl
def F154 : Fun := ⟨fun xs => xs = [.agg (cX (deC (xs.getD 0 .top) : Cfg))] ∧ (fun (c : Cfg) => (okC c ∧ isCfg c = true)) (deC (xs.getD 0 .top) : Cfg), fun xs => (fun (c : Cfg) => ((I (topN c.cls), []) : X × List Ob)) (deC (xs.getD 0 .top) : Cfg)⟩
theorem F154_in {xs : List X} (h : F154.pre xs) : ∃ (c : Cfg), xs = [.agg (cX c)] ∧ (okC c ∧ isCfg c = true) := ⟨_, h.1, h.2⟩
theorem F154_res (c : Cfg) : F154.res [.agg (cX c)] = (I (topN c.cls), []) := by simp [F154]
theorem c154 : GenCA K Tryz.prog 154 F154 := by
  refine contractA Tryz.mix K [(172, FIx 183 cp0 prTop)] [] (by simp [cIxCls 183 cp0 prTop cp0_pu c183]) (by simp) Tryz.func154 rfl (by decide) ?_
  intro xs hxs
  obtain ⟨c, rfl, hp, hg⟩ := F154_in hxs
  rw [F154_res]
  have ht := top_idx hg
  have hc0 : cp0 [] := rfl
  refine ⟨by rw [Tryz.ntmps154]; simp, ?_⟩
  simp -implicitDefEqProofs [Tryz.f154, List.lookup_cons, eS, FIx, hp.1, ht, hc0]
  refine fin_pure (by simp) ?_
  simp -implicitDefEqProofs [fS, rn0, pickObs, deI]
theorem c133 : GenCA K Tryz.prog 133 F154 := by
  refine contractA Tryz.mix K [] [] (by simp) (by simp) Tryz.func133 rfl (by decide) ?_
  intro xs hxs
  obtain ⟨c, rfl, hp⟩ := F154_in hxs
  rw [F154_res]
  refine ⟨by rw [Tryz.ntmps133]; simp, ?_⟩
  obtain ⟨⟨h1, h2, h3⟩, hg⟩ := hp
  obtain ⟨t1, t2⟩ := top_spec hg
  rw [atC_eq t1] at t2
  simp -implicitDefEqProofs [Tryz.f133, List.lookup_cons, eS]
  refine loopP_inv (fun k : Nat => ⟨14, tl [(1, .optr 0 0 0 0), (3, I k)], [cBx c]⟩) (fun k => k ≤ topN c.cls) (fun k => topN c.cls - k) 0 (Nat.zero_le _) (Wk.tl (by simp [hold, upd, tl_cons, cBx])) ?_
  intro k hk
  have hkl : k < c.cls.length := by omega
  have hw := w64n (show k < 4611686018427387904 by omega)
  by_cases h : k < topN c.cls
  · have hn := top_lt (c := c) k h hkl
    simp -implicitDefEqProofs [List.lookup_cons, eS, hkl, hn, cBx]
    refine ⟨k + 1, by omega, by omega, ?_⟩
    exact Wk.tl (by simp [hold, upd, tl_cons, hw])
  · have e : k = topN c.cls := by omega
    subst e
    simp -implicitDefEqProofs [List.lookup_cons, eS, hkl, t2, cBx]
    refine fin_pure (by simp) ?_
    simp -implicitDefEqProofs [fS, rn0, pickObs, deI]
end Go.Proofs
namespace Go.Proofs
open Go.Abs
theorem szQ : (ByteArray.mk #[113, 100, 105, 115, 99, 32]).size = 6 := rfl
theorem szD : (ByteArray.mk #[32, 100, 101, 102, 97, 117, 108, 116, 32]).size = 9 := rfl
theorem ptO (c : Cfg) (L : List ByteArray) (F A : List Int) (i : Nat) (h1 : okC c) (h2 : isCfg c = true) (h3 : i < c.cls.length) (h5 : 1 = dp c.cls i) (h6 : F.length = c.cls.length) (h7 : A.length = c.cls.length) (h8 : L.length + size c.cls i ≤ 1000) : MPartO.pre [.optr 0 0 0 0, I i, I 1] [⟨117, 8, 0, [[.v (.string c.name), .sl (tR c.cls), .sl (tR c.fil), I c.dflt, .osl 1 0, .v (.slice none 0 0), .osl 2 0, .osl 3 0]], true, true, none⟩, ⟨9, 1, 0, sR L, false, true, none⟩, ⟨3, 1, 0, iR F, false, true, none⟩, ⟨3, 1, 0, iR A, false, true, none⟩] := ⟨c, ⟨L, [], F, A⟩, i, 1, rfl, rfl, rfl, h1, h2, h3, h5, h6, h7, h8⟩
theorem ptOR (c : Cfg) (L : List ByteArray) (F A : List Int) (t : PS) (i : Nat) (h : partN c 8 i 1 ⟨L, [], F, A⟩ = t) : MPartO.res [.optr 0 0 0 0, I i, I 1] [⟨117, 8, 0, [[.v (.string c.name), .sl (tR c.cls), .sl (tR c.fil), I c.dflt, .osl 1 0, .v (.slice none 0 0), .osl 2 0, .osl 3 0]], true, true, none⟩, ⟨9, 1, 0, sR L, false, true, none⟩, ⟨3, 1, 0, iR F, false, true, none⟩, ⟨3, 1, 0, iR A, false, true, none⟩] =
    (.tup [], [⟨117, 8, 0, [[.v (.string c.name), .sl (tR c.cls), .sl (tR c.fil), I c.dflt, .osl 1 1, .osl 4 0, .osl 2 0, .osl 3 0]], true, true, none⟩, ⟨9, 1, 1, sR t.lines, false, true, none⟩, ⟨3, 1, 0, iR t.first, false, true, none⟩, ⟨3, 1, 0, iR t.last, false, true, none⟩, ⟨3, 1, 0, iR (nI t.order), false, true, none⟩]) := by
  subst h
  exact mPartO_res c ⟨L, [], F, A⟩ i 1 rfl
theorem ptOM : MPartO.mu = [true, false, false] := rfl
theorem lnNP (c : Cfg) (f l : List Int) (t : ByteArray) (h : t.size ≤ 2097152) : MLine.pre [.optr 0 0 0 0, I 0, .v (.string t)] [⟨117, 8, 0, [[.v (.string c.name), .sl (tR c.cls), .sl (tR c.fil), I c.dflt, .v (.slice none 0 0), .v (.slice none 0 0), .osl 1 0, .osl 2 0]], true, true, none⟩, ⟨3, 1, 0, iR f, false, true, none⟩, ⟨3, 1, 0, iR l, false, true, none⟩] := ⟨c, 0, t, rfl, by omega, h, .inr ⟨f, l, rfl⟩⟩
theorem lnNR (c : Cfg) (f l : List Int) (t x : ByteArray) (h : indB 0 ++ t = x) : MLine.res [.optr 0 0 0 0, I 0, .v (.string t)] [⟨117, 8, 0, [[.v (.string c.name), .sl (tR c.cls), .sl (tR c.fil), I c.dflt, .v (.slice none 0 0), .v (.slice none 0 0), .osl 1 0, .osl 2 0]], true, true, none⟩, ⟨3, 1, 0, iR f, false, true, none⟩, ⟨3, 1, 0, iR l, false, true, none⟩] =
    (.tup [], [⟨117, 8, 0, [[.v (.string c.name), .sl (tR c.cls), .sl (tR c.fil), I c.dflt, .osl 3 0, .v (.slice none 0 0), .osl 1 0, .osl 2 0]], true, true, none⟩, ⟨3, 1, 0, iR f, false, true, none⟩, ⟨3, 1, 0, iR l, false, true, none⟩, ⟨9, 1, 0, sR [x], false, true, none⟩]) := by
  subst h
  exact mLine_N c f l 0 t
theorem tgt_rng {c : Cfg} (h : isCfg c = true) {id : Int} (ht : targetOk c.cls id = true) : 0 ≤ id ∧ id ≤ 999 := by
  simp only [targetOk, Bool.and_eq_true, decide_eq_true_eq] at ht
  have h1 := ht.1
  unfold fidx at h1
  cases hf : c.cls.findIdx? (fun x => decide (x.id = id)) with
  | none => rw [hf] at h1; simp at h1
  | some i =>
    obtain ⟨hi, hp, _⟩ := List.findIdx?_eq_some_iff_getElem.1 hf
    have e : c.cls[i].id = id := by simpa using hp
    have := (cfg_hd h i hi).1
    rw [atC_eq hi] at this
    unfold hdOk at this
    omega
theorem cfg_dflt {c : Cfg} (h : isCfg c = true) : 0 ≤ c.dflt ∧ c.dflt ≤ 9223372036854775807 := by
  have h' := h
  rw [isCfg_eq] at h'
  simp only [cfgOk, Bool.and_eq_true, Bool.or_eq_true, decide_eq_true_eq] at h'
  rcases h'.2 with e | e
  · omega
  · have := tgt_rng h e
    omega
theorem cfg_fil {c : Cfg} (h : isCfg c = true) : c.fil.length ≤ 16 ∧ ∀ x ∈ c.fil, flOk x := by
  have h' := h
  rw [isCfg_eq] at h'
  simp only [cfgOk, filOk, filUp, Bool.and_eq_true, decide_eq_true_eq] at h'
  refine ⟨h'.1.2.2, fun x hx => ?_⟩
  obtain ⟨i, hi, rfl⟩ := List.mem_iff_getElem.1 hx
  have h1 := all_range.1 h'.1.2.1 i hi
  simp only [Bool.and_eq_true] at h1
  rw [atF_eq hi] at h1
  have h2 := tgt_rng h h1.2
  have h3 := h1.1.1
  simp only [Fil.ok, rng, Bool.and_eq_true, decide_eq_true_eq] at h3
  unfold flOk
  omega
def flL (L : List ByteArray) (f : List Fil) (k : Nat) : List ByteArray := L ++ (f.take k).map fun x => indB 1 ++ filB x
def F120 : Fun := ⟨fun xs => xs = [.agg (cX (deC (xs.getD 0 .top) : Cfg))] ∧ (fun (c : Cfg) => (okC c ∧ isCfg c = true)) (deC (xs.getD 0 .top) : Cfg), fun xs => (fun (c : Cfg) => ((.optr 0 0 0 0, obF c (prn c)) : X × List Ob)) (deC (xs.getD 0 .top) : Cfg)⟩
theorem F120_in {xs : List X} (h : F120.pre xs) : ∃ (c : Cfg), xs = [.agg (cX c)] ∧ (okC c ∧ isCfg c = true) := ⟨_, h.1, h.2⟩
theorem F120_res (c : Cfg) : F120.res [.agg (cX c)] = (.optr 0 0 0 0, obF c (prn c)) := by simp [F120]
theorem c120 : GenCA K Tryz.prog 120 F120 := by
  refine contractAS Tryz.mix K [(151, F151), (154, F154), (155, F155)] [] [(152, MLine), (153, MPartO)] (by simp [c151, c154, c155]) (by simp) (by simp [n152, mPartO]) Tryz.func120 rfl (by decide) ?_
  intro xs hxs
  obtain ⟨c, rfl, ho, hg⟩ := F120_in hxs
  rw [F120_res]
  refine ⟨by rw [Tryz.ntmps120]; simp, ?_⟩
  simp only [Tryz.f120, bodyOf, Option.getD_some]
  refine Snd.cut (fun s => s = ⟨53, tl [(1, .optr 0 0 0 0)], [cBx c]⟩) ?_ ?_
  · simp -implicitDefEqProofs [List.lookup_cons, eS, cBx]
    exact Wk.tl (by simp [hold, upd, tl_cons])
  rintro s rfl
  have hlim := cfg_lim hg
  have hm1 : (c.cls.length : Int) ≤ 9223372036854775807 := by omega
  have hm2 : c.cls.length * 8 ≤ 140737488355328 := by omega
  have hrep : List.replicate c.cls.length [X.v (Value.int .i64 0)] = iR (List.replicate c.cls.length 0) := by simp [iR]
  refine Snd.cut2 (fun s => s = ⟨53, tl [(1, .optr 0 0 0 0), (3, .optr 1 0 0 0)], [cBx c, ⟨117, 8, 0, [[.v (.string c.name), .sl (tR c.cls), .sl (tR c.fil), I c.dflt, .v (.slice none 0 0), .v (.slice none 0 0), .osl 2 0, .osl 3 0]], true, true, none⟩, ⟨3, 1, 0, iR (List.replicate c.cls.length 0), false, true, none⟩, ⟨3, 1, 0, iR (List.replicate c.cls.length 0), false, true, none⟩]⟩) ?_ ?_
  · refine Snd.regF _ 4 8 [(1, 0), (2, 0), (3, 0), (4, 0), (5, 0), (6, 0), (7, 0), (8, 1), (0, 0), (9, 2), (10, 2), (11, 3)] [4, 8, 10] [(5, 0), (6, 0), (7, 0), (8, 0), (1, 0), (2, 0), (3, 0), (4, 1), (0, 0), (9, 2), (10, 2), (11, 3)] [8, 4, 10] (by decide) ?_ ?_
    · simp -implicitDefEqProofs [List.lookup_cons, eS, cBx, OpOk, eMake, hm1, hm2, ho.1, hrep]
      refine ⟨by omega, Wk.tlPN [0, 3, 1, 2] (by simp [pickOkN]) (by simp) ?_⟩
      simp [hold, upd, tl_cons]
    · simp -implicitDefEqProofs [List.lookup_cons, eS, cBx, OpOk, eMake, hm1, hm2, ho.1, hrep]
      refine ⟨by omega, Wk.tlPN [0, 3, 2, 1] (by simp [pickOkN]) (by simp) ?_⟩
      simp [hold, upd, tl_cons]
  rintro s rfl
  refine Snd.of ?_
  obtain ⟨R, hR⟩ : ∃ R : List Int, List.replicate c.cls.length 0 = R := ⟨_, rfl⟩
  rw [hR]
  have hRl : R.length = c.cls.length := by rw [← hR]; simp
  obtain ⟨t1, t2⟩ := top_spec hg
  have T := tree_of (c := c) (by rw [← isCfg_eq]; exact hg)
  obtain ⟨d1, d2⟩ := cfg_dflt hg
  obtain ⟨f1, f2⟩ := cfg_fil hg
  have hds := decB_size c.dflt.toNat (by omega)
  have hn := ho.2.2
  obtain ⟨x, hx⟩ : ∃ x, indB 0 ++ (hdB c ++ ⟨#[32, 123]⟩) = x := ⟨_, rfl⟩
  have hhs : (hdB c ++ ⟨#[32, 123]⟩).size ≤ 2097152 := by
    unfold hdB
    split <;> simp only [ByteArray.size_append, szQ, szD, szO] <;> omega
  have j1 := lnNP c R R _ hhs
  have j2 := lnNR c R R _ x hx
  obtain ⟨q, hq⟩ : ∃ q, ps1 c = q := ⟨_, rfl⟩
  have hps : ps0 c = ⟨[x], [], R, R⟩ := by unfold ps0; rw [hx, hR]
  have hq' : partN c 8 (topN c.cls) 1 ⟨[x], [], R, R⟩ = q := by rw [← hps]; exact hq
  have hsz48 : size c.cls (topN c.cls) ≤ 48 := by
    have h1 := sizeN_walk c.cls 8 (topN c.cls)
    have h2 := walk_len T t1
    show sizeN c.cls 8 (topN c.cls) ≤ 48
    unfold walk at h2
    omega
  have p1 := ptO c [x] R R (topN c.cls) ho hg t1 (top_dp hg).symm hRl hRl (by simp; omega)
  have p2 := ptOR c [x] R R q (topN c.cls) hq'
  have hql : q.lines.length = 1 + size c.cls (topN c.cls) := by
    rw [← hq', (partN_lo c 8 (topN c.cls) 1 _).1, List.length_append, linesN_len]
    rfl
  have hoC : okC ⟨c.name, c.cls, c.fil, c.dflt⟩ := ho
  have hgC : isCfg ⟨c.name, c.cls, c.fil, c.dflt⟩ = true := hg
  have body : ∀ hd : (if c.dflt = 0 then hdB c = ⟨#[113, 100, 105, 115, 99, 32]⟩ ++ c.name else hdB c = ⟨#[113, 100, 105, 115, 99, 32]⟩ ++ c.name ++ (⟨#[32, 100, 101, 102, 97, 117, 108, 116, 32]⟩ ++ decB c.dflt.toNat)), True := fun _ => trivial
  by_cases hd0 : c.dflt = 0
  · have hh : hdB c = ⟨#[113, 100, 105, 115, 99, 32]⟩ ++ c.name := by unfold hdB; rw [if_pos hd0]
    have hd0t : (c.dflt = 0) = True := eq_true hd0
    rw [hh] at j1 j2 hhs
    simp -implicitDefEqProofs [List.lookup_cons, eS, cBx, F151, F154, F155, d1, d2, ho, hoC, hg, hgC, j1, j2, lnM, p1, p2, ptOM, pickOkN, ba_sz, szQ, szD, szO, hd0t]
    repeat refine ⟨by omega, ?_⟩
    refine loopP_inv (fun k : Nat => ⟨53, tl [(3, .optr 1 0 0 0), (39, .sl (tR c.fil)), (40, I c.fil.length), (41, I k)], [cBx c, ⟨117, 8, 0, [[.v (.string c.name), .sl (tR c.cls), .sl (tR c.fil), I c.dflt, .osl 2 0, .osl 3 0, .osl 4 0, .osl 5 0]], true, true, none⟩, ⟨9, 1, 0, sR (flL q.lines c.fil k), false, true, none⟩, ⟨3, 1, 0, iR (nI q.order), false, true, none⟩, ⟨3, 1, 0, iR q.first, false, true, none⟩, ⟨3, 1, 0, iR q.last, false, true, none⟩]⟩) (fun k => k ≤ c.fil.length) (fun k => c.fil.length - k) 0 (Nat.zero_le _) ?_ ?_
    · simp only [flL, List.take_zero, List.map_nil, List.append_nil, cBx]
      refine Wk.tlPN [0, 1, 4, 5, 2, 3] (by simp [pickOkN]) (by simp) ?_
      simp [hold, upd, tl_cons]
    intro k hk
    obtain ⟨L, hL⟩ : ∃ L, flL q.lines c.fil k = L := ⟨_, rfl⟩
    have hLl : L.length = q.lines.length + k := by rw [← hL]; simp [flL]; omega
    rw [hL]
    by_cases h : k < c.fil.length
    · have hfl := f2 _ (List.getElem_mem h)
      have hxs := filB_size hfl
      have hw := w64n (show k < 4611686018427387904 by omega)
      obtain ⟨L', hL'⟩ : ∃ L', L ++ [indB 1 ++ filB c.fil[k]] = L' := ⟨_, rfl⟩
      have hT : flL q.lines c.fil (k + 1) = L' := by unfold flL at hL ⊢; rw [takeS c.fil k h, List.map_append, ← List.append_assoc, hL]; exact hL'
      have j3 := lnP c L q.order q.first q.last 1 (filB c.fil[k]) (by omega) (by omega) (by omega)
      have j4 := lnR c L L' q.order q.first q.last 1 (filB c.fil[k]) hL'
      rw [show ((1 : Nat) : Int) = 1 from rfl] at j3 j4
      simp -implicitDefEqProofs [List.lookup_cons, eS, F151, F154, F155, lnM, pickOkN, h, hfl, j3, j4, cBx]
      refine ⟨k + 1, by omega, by omega, ?_⟩
      rw [hT]
      refine Wk.tlPN [0, 1, 2, 3, 4, 5] (by simp [pickOkN]) (by simp) ?_
      simp [hold, upd, tl_cons, hw]
    · have e : k = c.fil.length := by omega
      subst e
      unfold flL at hL
      rw [List.take_length] at hL
      obtain ⟨L', hL'⟩ : ∃ L', L ++ [indB 0 ++ ⟨#[125]⟩] = L' := ⟨_, rfl⟩
      have j3 := lnP c L q.order q.first q.last 0 ⟨#[125]⟩ (by omega) (by rw [szC]; omega) (by omega)
      have j4 := lnR c L L' q.order q.first q.last 0 ⟨#[125]⟩ hL'
      rw [show ((0 : Nat) : Int) = 0 from rfl] at j3 j4
      have hprn : prn c = ⟨L', q.order, q.first, q.last⟩ := by unfold prn; rw [hq, hL, hL']
      rw [hprn]
      simp -implicitDefEqProofs [List.lookup_cons, eS, F151, F154, F155, lnM, pickOkN, j3, j4, cBx]
      refine fin_ownN [1, 2, 3, 4, 5] (by simp [pickOkN]) ?_
      simp [obF, boxP, sOb, nOb]
  · have hh : hdB c = ⟨#[113, 100, 105, 115, 99, 32]⟩ ++ c.name ++ (⟨#[32, 100, 101, 102, 97, 117, 108, 116, 32]⟩ ++ decB c.dflt.toNat) := by unfold hdB; rw [if_neg hd0]
    rw [hh] at j1 j2 hhs
    simp -implicitDefEqProofs [List.lookup_cons, eS, cBx, F151, F154, F155, d1, d2, ho, hoC, hg, hgC, j1, j2, lnM, p1, p2, ptOM, pickOkN, ba_sz, szQ, szD, szO, hd0]
    repeat refine ⟨by omega, ?_⟩
    refine loopP_inv (fun k : Nat => ⟨53, tl [(3, .optr 1 0 0 0), (39, .sl (tR c.fil)), (40, I c.fil.length), (41, I k)], [cBx c, ⟨117, 8, 0, [[.v (.string c.name), .sl (tR c.cls), .sl (tR c.fil), I c.dflt, .osl 2 0, .osl 3 0, .osl 4 0, .osl 5 0]], true, true, none⟩, ⟨9, 1, 0, sR (flL q.lines c.fil k), false, true, none⟩, ⟨3, 1, 0, iR (nI q.order), false, true, none⟩, ⟨3, 1, 0, iR q.first, false, true, none⟩, ⟨3, 1, 0, iR q.last, false, true, none⟩]⟩) (fun k => k ≤ c.fil.length) (fun k => c.fil.length - k) 0 (Nat.zero_le _) ?_ ?_
    · simp only [flL, List.take_zero, List.map_nil, List.append_nil, cBx]
      refine Wk.tlPN [0, 1, 4, 5, 2, 3] (by simp [pickOkN]) (by simp) ?_
      simp [hold, upd, tl_cons]
    intro k hk
    obtain ⟨L, hL⟩ : ∃ L, flL q.lines c.fil k = L := ⟨_, rfl⟩
    have hLl : L.length = q.lines.length + k := by rw [← hL]; simp [flL]; omega
    rw [hL]
    by_cases h : k < c.fil.length
    · have hfl := f2 _ (List.getElem_mem h)
      have hxs := filB_size hfl
      have hw := w64n (show k < 4611686018427387904 by omega)
      obtain ⟨L', hL'⟩ : ∃ L', L ++ [indB 1 ++ filB c.fil[k]] = L' := ⟨_, rfl⟩
      have hT : flL q.lines c.fil (k + 1) = L' := by unfold flL at hL ⊢; rw [takeS c.fil k h, List.map_append, ← List.append_assoc, hL]; exact hL'
      have j3 := lnP c L q.order q.first q.last 1 (filB c.fil[k]) (by omega) (by omega) (by omega)
      have j4 := lnR c L L' q.order q.first q.last 1 (filB c.fil[k]) hL'
      rw [show ((1 : Nat) : Int) = 1 from rfl] at j3 j4
      simp -implicitDefEqProofs [List.lookup_cons, eS, F151, F154, F155, lnM, pickOkN, h, hfl, j3, j4, cBx]
      refine ⟨k + 1, by omega, by omega, ?_⟩
      rw [hT]
      refine Wk.tlPN [0, 1, 2, 3, 4, 5] (by simp [pickOkN]) (by simp) ?_
      simp [hold, upd, tl_cons, hw]
    · have e : k = c.fil.length := by omega
      subst e
      unfold flL at hL
      rw [List.take_length] at hL
      obtain ⟨L', hL'⟩ : ∃ L', L ++ [indB 0 ++ ⟨#[125]⟩] = L' := ⟨_, rfl⟩
      have j3 := lnP c L q.order q.first q.last 0 ⟨#[125]⟩ (by omega) (by rw [szC]; omega) (by omega)
      have j4 := lnR c L L' q.order q.first q.last 0 ⟨#[125]⟩ hL'
      rw [show ((0 : Nat) : Int) = 0 from rfl] at j3 j4
      have hprn : prn c = ⟨L', q.order, q.first, q.last⟩ := by unfold prn; rw [hq, hL, hL']
      rw [hprn]
      simp -implicitDefEqProofs [List.lookup_cons, eS, F151, F154, F155, lnM, pickOkN, j3, j4, cBx]
      refine fin_ownN [1, 2, 3, 4, 5] (by simp [pickOkN]) ?_
      simp [obF, boxP, sOb, nOb]
end Go.Proofs
