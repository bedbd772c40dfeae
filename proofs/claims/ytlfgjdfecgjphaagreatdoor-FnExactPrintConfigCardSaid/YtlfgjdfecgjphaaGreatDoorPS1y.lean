/-
  What is proved here: contracts of the reference's size of a part and line of a class. Condition: none.
-/
import Derived.Test.YtlfgjdfecgjphaaGreatDoorPWs
import Derived.Test.YtlfgjdfecgjphaaGreatDoorWW
import Derived.Test.YtlfgjdfecgjphaaGreatDoorCfC
namespace Go.Proofs
open Go.Abs
set_option linter.unusedSimpArgs false
set_option linter.unnecessarySimpa false
set_option linter.unusedVariables false
set_option maxHeartbeats 8000000
set_option maxRecDepth 20000

theorem size_le {c : Cfg} (h : isCfg c = true) {i : Nat} (hi : i < c.cls.length) : size c.cls i ≤ 48 := by
  have T := tree_of (c := c) (by rw [← isCfg_eq]; exact h)
  have hl := cfg_lim h
  have h1 := sizeN_walk c.cls 8 i
  have h2 := walk_len T hi
  show sizeN c.cls 8 i ≤ 48
  unfold walk at h2
  omega
def sumK (l : List Cls) (ks : List Nat) (k : Nat) : Nat := ((ks.take k).map (size l)).sum
def F41 : Fun := ⟨fun xs => xs = [.agg (cX (deC (xs.getD 0 .top) : Cfg)), I (deI (xs.getD 1 .top) : Int)] ∧ (fun (c : Cfg) (i : Int) => (okI c i ∧ isCfg c = true)) (deC (xs.getD 0 .top) : Cfg) (deI (xs.getD 1 .top) : Int), fun xs => (fun (c : Cfg) (i : Int) => ((I (size c.cls i.toNat), []) : X × List Ob)) (deC (xs.getD 0 .top) : Cfg) (deI (xs.getD 1 .top) : Int)⟩
theorem F41_in {xs : List X} (h : F41.pre xs) : ∃ (c : Cfg) (i : Int), xs = [.agg (cX c), I i] ∧ (okI c i ∧ isCfg c = true) := ⟨_, _, h.1, h.2⟩
theorem F41_res (c : Cfg) (i : Int) : F41.res [.agg (cX c), I i] = (I (size c.cls i.toNat), []) := by simp [F41]
theorem F41_mk (c : Cfg) (i : Int) (h : okI c i ∧ isCfg c = true) : F41.pre [.agg (cX c), I i] := by simpa [F41] using h
def FZn (n : Nat) : Fun := ⟨fun xs => F41.pre xs ∧ 9 ≤ n + dp (deC (xs.getD 0 .top)).cls (deI (xs.getD 1 .top)).toNat, F41.res⟩
theorem cZn : ∀ n, GenCA K Tryz.prog 41 (FZn n)
  | 0 => by
    refine contractA Tryz.mix K [] [] (by simp) (by simp) Tryz.func41 rfl (by decide) ?_
    rintro xs ⟨hxs, h9⟩
    obtain ⟨c, i, rfl, hI, hg⟩ := F41_in hxs
    obtain ⟨i, rfl⟩ := Int.eq_ofNat_of_zero_le hI.2.1
    have hi : i < c.cls.length := by have := hI.2.2; omega
    have T := tree_of (c := c) (by rw [← isCfg_eq]; exact hg)
    have := dp_le T hi
    simp at h9
    omega
  | n + 1 => by
    refine contractA Tryz.mix K [(71, F90), (62, F93), (41, FZn n)] [] (by simp [c71, c62, cZn n]) (by simp) Tryz.func41 rfl (by decide) ?_
    rintro xs ⟨hxs, h9⟩
    obtain ⟨c, i, rfl, hI, hg⟩ := F41_in hxs
    obtain ⟨i, rfl⟩ := Int.eq_ofNat_of_zero_le hI.2.1
    have hi : i < c.cls.length := by have := hI.2.2; omega
    have T := tree_of (c := c) (by rw [← isCfg_eq]; exact hg)
    simp at h9
    have hres : (FZn (n + 1)).res [.agg (cX c), I (i : Int)] = (I (size c.cls i), []) := F41_res c (i : Int)
    rw [hres]
    refine ⟨by rw [Tryz.ntmps41]; simp, ?_⟩
    have hseq := size_eq T hi
    have hsl := size_le hg hi
    have hok := hI.1
    by_cases hlf : leafB c.cls i = true
    · rw [if_pos hlf] at hseq
      simp -implicitDefEqProofs [Tryz.f41, List.lookup_cons, and_assoc, pick_and, pick_or, if_and, if_or, F90, hI, hlf]
      refine fin_pure (by simp) ?_
      simp -implicitDefEqProofs [pur2_i, pur2_b, pur2_s, pur2_nil, pur2_sl, pur2_tup, rn2_tup, rn2_agg, rn2_osl, rn1_v, rn1_osl, rn1_agg, rn0_v, rn0_sl, rn0, pickObs, pur_v, pur_b, pur_s, pur_nil, pur_sl, deI, deIs_sl, hseq]
    · rw [if_neg hlf] at hseq
      have hlf' : leafB c.cls i = false := by simpa using hlf
      have hmem : ∀ k ∈ kids c.cls i c.cls.length, k < c.cls.length ∧ dp c.cls k = dp c.cls i + 1 := fun k hk => ⟨(mem_kids.1 hk).1, dp_kid T hi (mem_kids.1 hk).1 (mem_kids.1 hk).2⟩
      have hkl := kids_len c.cls i c.cls.length
      have hlim := cfg_lim hg
      have hst := sum_take_le (kids c.cls i c.cls.length) (size c.cls)
      simp -implicitDefEqProofs [Tryz.f41, List.lookup_cons, and_assoc, pick_and, pick_or, if_and, if_or, F90, F93, hI, hlf', iOb]
      generalize hK : kids c.cls i c.cls.length = ks at hseq hmem hkl hst ⊢
      have hnl := nI_len ks
      refine loopP_inv (fun k : Nat => ⟨26, tl [(2, .optr 0 0 0 0), (5, I ((2 + sumK c.cls ks k : Nat) : Int)), (13, .osl 1 0), (14, I ks.length), (15, I k)], [cBx c, iOb (nI ks)]⟩) (fun k => k ≤ ks.length) (fun k => ks.length - k) 0 (Nat.zero_le _) ?_ ?_
      · simp only [sumK, List.take_zero, List.map_nil, List.sum_nil, cBx, iOb]
        exact Wk.tl (by simp [hold, upd, tl_cons, hnl])
      intro k hk
      by_cases h : k < ks.length
      · have hw1 := w64n (show k < 4611686018427387904 by omega)
        obtain ⟨m1, m2⟩ := hmem ks[k] (List.getElem_mem h)
        have hok2 : okI c ((ks[k] : Nat) : Int) := ⟨hok, by omega, by omega⟩
        have h9' : 9 ≤ n + dp c.cls ks[k] := by omega
        have hsum : sumK c.cls ks (k + 1) = sumK c.cls ks k + size c.cls ks[k] := sum_take ks (size c.cls) k h
        have hle : sumK c.cls ks (k + 1) ≤ (ks.map (size c.cls)).sum := hst (k + 1)
        obtain ⟨q, hq⟩ : ∃ q, 2 + sumK c.cls ks k = q := ⟨_, rfl⟩
        obtain ⟨q', hq'⟩ : ∃ q', 2 + sumK c.cls ks (k + 1) = q' := ⟨_, rfl⟩
        have hqq : IntKind.i64.wrap ((q : Int) + (size c.cls ks[k] : Nat)) = (q' : Int) := by rw [w64 (by omega) (by omega)]; omega
        rw [hq]
        simp -implicitDefEqProofs [List.lookup_cons, and_assoc, pick_and, pick_or, if_and, if_or, h, cBx, iOb, hnl, nI_get, nI_len, m1, FZn, F41, hok2, hg, h9', hqq]
        refine ⟨k + 1, by omega, by omega, ?_⟩
        have hq2 : ((2 : Int) + ((sumK c.cls ks (k + 1) : Nat) : Int)) = (q' : Int) := by omega
        rw [hq2]
        exact Wk.tl (by simp [hold, upd, tl_cons, hw1])
      · have e : k = ks.length := by omega
        subst e
        have hse : sumK c.cls ks ks.length = (ks.map (size c.cls)).sum := by unfold sumK; rw [List.take_length]
        simp -implicitDefEqProofs [List.lookup_cons, and_assoc, pick_and, pick_or, if_and, if_or, iOb, cBx]
        refine fin_pure (by simp) ?_
        simp -implicitDefEqProofs [pur2_i, pur2_b, pur2_s, pur2_nil, pur2_sl, pur2_tup, rn2_tup, rn2_agg, rn2_osl, rn1_v, rn1_osl, rn1_agg, rn0_v, rn0_sl, rn0, pickObs, pur_v, pur_b, pur_s, pur_nil, pur_sl, deI, deIs_sl, hseq, hse]
theorem c41 : GenCA K Tryz.prog 41 F41 := genWeak (cZn 9) (fun xs h => ⟨h, by omega⟩) fun _ _ => rfl
/-! ### the line of a class -/
theorem lineN_le {c : Cfg} (hg : isCfg c = true) : ∀ (n i : Nat), lineN c.cls n i ≤ 2 + 49 * n
  | 0, i => by simp [lineN]
  | n + 1, i => by
    unfold lineN
    split
    · omega
    · rename_i hn
      have hp := nxt_lt hn
      have h1 := lineN_le hg n (nxt c.cls i).toNat
      have T := tree_of (c := c) (by rw [← isCfg_eq]; exact hg)
      have h2 := size_eq T hp
      have h3 := size_le hg hp
      obtain ⟨rest, hr⟩ : ∃ rest, kids c.cls (nxt c.cls i).toNat c.cls.length = ((kids c.cls (nxt c.cls i).toNat c.cls.length).takeWhile fun k => decide (k ≠ i)) ++ rest := ⟨_, (List.takeWhile_append_dropWhile).symm⟩
      have h4 : ((((kids c.cls (nxt c.cls i).toNat c.cls.length).takeWhile fun k => decide (k ≠ i)).map (size c.cls)).sum) ≤ ((kids c.cls (nxt c.cls i).toNat c.cls.length).map (size c.cls)).sum := by
        conv => rhs; rw [hr]
        rw [List.map_append, List.sum_append]
        omega
      have h5 : ((kids c.cls (nxt c.cls i).toNat c.cls.length).map (size c.cls)).sum ≤ 48 := by
        split at h2
        · rename_i hl
          rw [leaf_kids.1 hl]; simp
        · omega
      omega
theorem lineOf_le {c : Cfg} (hg : isCfg c = true) (i : Nat) : lineOf c.cls i ≤ 500 := by
  have := lineN_le hg 9 i
  show lineN c.cls 9 i ≤ 500
  omega
def F34 : Fun := ⟨fun xs => xs = [.agg (cX (deC (xs.getD 0 .top) : Cfg)), I (deI (xs.getD 1 .top) : Int)] ∧ (fun (c : Cfg) (i : Int) => (okI c i ∧ isCfg c = true)) (deC (xs.getD 0 .top) : Cfg) (deI (xs.getD 1 .top) : Int), fun xs => (fun (c : Cfg) (i : Int) => ((I (lineOf c.cls i.toNat), []) : X × List Ob)) (deC (xs.getD 0 .top) : Cfg) (deI (xs.getD 1 .top) : Int)⟩
theorem F34_in {xs : List X} (h : F34.pre xs) : ∃ (c : Cfg) (i : Int), xs = [.agg (cX c), I i] ∧ (okI c i ∧ isCfg c = true) := ⟨_, _, h.1, h.2⟩
theorem F34_res (c : Cfg) (i : Int) : F34.res [.agg (cX c), I i] = (I (lineOf c.cls i.toNat), []) := by simp [F34]
theorem F34_mk (c : Cfg) (i : Int) (h : okI c i ∧ isCfg c = true) : F34.pre [.agg (cX c), I i] := by simpa [F34] using h
def FLn (n : Nat) : Fun := ⟨fun xs => F34.pre xs ∧ dp (deC (xs.getD 0 .top)).cls (deI (xs.getD 1 .top)).toNat ≤ n, F34.res⟩
theorem cLn : ∀ n, GenCA K Tryz.prog 34 (FLn n)
  | 0 => by
    refine contractA Tryz.mix K [] [] (by simp) (by simp) Tryz.func34 rfl (by decide) ?_
    rintro xs ⟨hxs, h9⟩
    obtain ⟨c, i, rfl, hI, hg⟩ := F34_in hxs
    obtain ⟨i, rfl⟩ := Int.eq_ofNat_of_zero_le hI.2.1
    have := dp_pos (l := c.cls) i
    simp at h9
    omega
  | n + 1 => by
    refine contractA Tryz.mix K [(61, F83), (62, F93), (41, F41), (34, FLn n)] [] (by simp [c61, c62, c41, cLn n]) (by simp) Tryz.func34 rfl (by decide) ?_
    rintro xs ⟨hxs, h9⟩
    obtain ⟨c, i, rfl, hI, hg⟩ := F34_in hxs
    obtain ⟨i, rfl⟩ := Int.eq_ofNat_of_zero_le hI.2.1
    have hi : i < c.cls.length := by have := hI.2.2; omega
    have T := tree_of (c := c) (by rw [← isCfg_eq]; exact hg)
    simp at h9
    have hres : (FLn (n + 1)).res [.agg (cX c), I (i : Int)] = (I (lineOf c.cls i), []) := F34_res c (i : Int)
    rw [hres]
    refine ⟨by rw [Tryz.ntmps34]; simp, ?_⟩
    have hok := hI.1
    have hlim := cfg_lim hg
    have hnx : nxt c.cls (i : Int) = fidx c.cls c.cls[i].par := by unfold nxt; rw [Int.toNat_natCast, atC_eq hi]
    by_cases hn : fidx c.cls c.cls[i].par < 0
    · have hL : lineOf c.cls i = 2 := by
        show lineN c.cls 9 i = 2
        unfold lineN
        rw [hnx, if_pos hn]
      simp -implicitDefEqProofs [Tryz.f34, List.lookup_cons, and_assoc, pick_and, pick_or, if_and, if_or, F83, hok, hi]
      refine drawP_all _ (by decide) ?_
      simp -implicitDefEqProofs [List.lookup_cons, and_assoc, pick_and, pick_or, if_and, if_or, F83, hok, hi, hn]
      refine fin_pure (by simp) ?_
      simp -implicitDefEqProofs [pur2_i, pur2_b, pur2_s, pur2_nil, pur2_sl, pur2_tup, rn2_tup, rn2_agg, rn2_osl, rn1_v, rn1_osl, rn1_agg, rn0_v, rn0_sl, rn0, pickObs, pur_v, pur_b, pur_s, pur_nil, pur_sl, deI, deIs_sl, hL]
    · have hp := nxt_lt (l := c.cls) (i := i) (by rw [hnx]; exact hn)
      rw [hnx] at hp
      obtain ⟨p, hpe⟩ : ∃ p : Nat, fidx c.cls c.cls[i].par = (p : Int) := ⟨(fidx c.cls c.cls[i].par).toNat, by omega⟩
      rw [hpe] at hp hnx
      rw [Int.toNat_natCast] at hp
      have hkp := (nxt_kid T (k := i) hp).1 hnx
      have hd := dp_kid T hp hi hkp
      have hIp : okI c (p : Int) := ⟨hok, by omega, by omega⟩
      have h9p : dp c.cls p ≤ n := by omega
      obtain ⟨pre, post, hK⟩ := List.append_of_mem (mem_kids.2 ⟨hi, hkp⟩ : i ∈ kids c.cls p c.cls.length)
      have hnd := kids_nodup c.cls p c.cls.length
      rw [hK] at hnd
      have hpre : i ∉ pre := fun hc => (List.nodup_append.1 hnd).2.2 i hc i (by simp) rfl
      have hL := lineOf_kid T hp hK
      have hlp := lineOf_le hg p
      have hsl := size_le hg hp
      have hkl := kids_len c.cls p c.cls.length
      have hmem : ∀ k ∈ kids c.cls p c.cls.length, k < c.cls.length := fun k hk => (mem_kids.1 hk).1
      have hli := lineOf_le hg i
      have hst := sum_take_le pre (size c.cls)
      have hp0 : ¬ (p : Int) < 0 := by omega
      have hw0 : IntKind.i64.wrap ((lineOf c.cls p : Int) + 1) = (lineOf c.cls p : Int) + 1 := w64 (by omega) (by omega)
      simp -implicitDefEqProofs [Tryz.f34, List.lookup_cons, and_assoc, pick_and, pick_or, if_and, if_or, F83, hok, hi]
      refine drawP_all _ (by decide) ?_
      simp -implicitDefEqProofs [List.lookup_cons, and_assoc, pick_and, pick_or, if_and, if_or, F83, F93, FLn, F34, hok, hi, hpe, hIp, hg, h9p, hw0, hp0, iOb, cBx]
      rw [hK] at hkl hmem ⊢
      generalize hks : pre ++ i :: post = ks at hkl hmem ⊢
      have hnl := nI_len ks
      have hkp1 : pre.length < ks.length := by rw [← hks]; simp
      refine loopP_inv (fun k : Nat => ⟨41, tl [(1, I i), (2, .optr 0 0 0 0), (6, I ((lineOf c.cls p + 1 + sumK c.cls pre k : Nat) : Int)), (25, .osl 1 0), (26, I ks.length), (27, I k)], [cBx c, iOb (nI ks)]⟩) (fun k => k ≤ pre.length) (fun k => ks.length - k) 0 (Nat.zero_le _) ?_ ?_
      · simp only [sumK, List.take_zero, List.map_nil, List.sum_nil, cBx, iOb]
        exact Wk.tl (by simp [hold, upd, tl_cons, hnl])
      intro k hk
      have h : k < ks.length := by omega
      have hw1 := w64n (show k < 4611686018427387904 by omega)
      have m1 := hmem ks[k] (List.getElem_mem h)
      have hok2 : okI c ((ks[k] : Nat) : Int) := ⟨hok, by omega, by omega⟩
      by_cases hkk : k < pre.length
      · have hek : ks[k] = pre[k] := by simp only [← hks]; exact List.getElem_append_left hkk
        have hne : ¬ ks[k] = i := fun e => hpre (by rw [← e, hek]; exact List.getElem_mem hkk)
        have hsum : sumK c.cls pre (k + 1) = sumK c.cls pre k + size c.cls pre[k] := sum_take pre (size c.cls) k hkk
        have hle : sumK c.cls pre (k + 1) ≤ (pre.map (size c.cls)).sum := hst (k + 1)
        rw [← hek] at hsum
        obtain ⟨q, hq⟩ : ∃ q, lineOf c.cls p + 1 + sumK c.cls pre k = q := ⟨_, rfl⟩
        obtain ⟨q', hq'⟩ : ∃ q', lineOf c.cls p + 1 + sumK c.cls pre (k + 1) = q' := ⟨_, rfl⟩
        have hqq : IntKind.i64.wrap ((q : Int) + (size c.cls ks[k] : Nat)) = (q' : Int) := by rw [w64 (by omega) (by omega)]; omega
        rw [hq]
        have hneI : ¬ ((ks[k] : Nat) : Int) = (i : Int) := by omega
        simp -implicitDefEqProofs [List.lookup_cons, and_assoc, pick_and, pick_or, if_and, if_or, h, hneI, cBx, iOb, hnl, nI_get, nI_len, m1, F41, hok2, hg, hqq]
        refine ⟨k + 1, by omega, by omega, ?_⟩
        have hq2 : ((lineOf c.cls p : Int) + 1 + ((sumK c.cls pre (k + 1) : Nat) : Int)) = (q' : Int) := by omega
        rw [hq2]
        exact Wk.tl (by simp [hold, upd, tl_cons, hw1])
      · have e : k = pre.length := by omega
        have hek : ks[k] = i := by subst e; simp only [← hks]; simp
        subst e
        have hse : sumK c.cls pre pre.length = (pre.map (size c.cls)).sum := by unfold sumK; rw [List.take_length]
        simp -implicitDefEqProofs [List.lookup_cons, and_assoc, pick_and, pick_or, if_and, if_or, h, hek, iOb, cBx, hnl, nI_get, nI_len]
        refine fin_pure (by simp) ?_
        simp -implicitDefEqProofs [pur2_i, pur2_b, pur2_s, pur2_nil, pur2_sl, pur2_tup, rn2_tup, rn2_agg, rn2_osl, rn1_v, rn1_osl, rn1_agg, rn0_v, rn0_sl, rn0, pickObs, pur_v, pur_b, pur_s, pur_nil, pur_sl, deI, deIs_sl, hL, hse]
theorem c34 : GenCA K Tryz.prog 34 F34 := by
  refine genWeak (cLn 9) (fun xs h => ⟨h, ?_⟩) fun _ _ => rfl
  obtain ⟨c, i, rfl, hI, hg⟩ := F34_in h
  obtain ⟨i, rfl⟩ := Int.eq_ofNat_of_zero_le hI.2.1
  have hi : i < c.cls.length := by have := hI.2.2; omega
  have := dp_le (tree_of (c := c) (by rw [← isCfg_eq]; exact hg)) hi
  simp
  omega
end Go.Proofs
