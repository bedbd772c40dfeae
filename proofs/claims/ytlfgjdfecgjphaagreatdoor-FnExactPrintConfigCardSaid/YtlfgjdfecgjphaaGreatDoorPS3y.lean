/-
  What is proved here: contracts of both PrintConfig. Condition: none.
-/
import Derived.Test.YtlfgjdfecgjphaaGreatDoorPS2y
namespace Go.Proofs
open Go.Abs
set_option linter.unusedSimpArgs false
set_option linter.unnecessarySimpa false
set_option linter.unusedVariables false
set_option maxHeartbeats 8000000
set_option maxRecDepth 20000

theorem lit59 : (⟨#[59, 10]⟩ : ByteArray) = ⟨#[59]⟩ ++ nlB := ba_ext2 rfl
theorem lit123 : (⟨#[32, 123, 10]⟩ : ByteArray) = ⟨#[32, 123]⟩ ++ nlB := ba_ext2 rfl
theorem lit125 : (⟨#[125, 10]⟩ : ByteArray) = ⟨#[125]⟩ ++ nlB := ba_ext2 rfl
theorem catL_one (x : ByteArray) : catL [x] = x ++ nlB := by simp [catL, nil_ba]
theorem sz1 : nlB.size = 1 := rfl
theorem sz59 : (ByteArray.mk #[59, 10]).size = 2 := rfl
theorem sz123 : (ByteArray.mk #[32, 123, 10]).size = 3 := rfl
theorem sz125 : (ByteArray.mk #[125, 10]).size = 2 := rfl
theorem szLm : (ByteArray.mk #[32, 108, 105, 109, 105, 116, 32]).size = 7 := rfl
/-- the reference's part, as the program's lines -/
def F85 : Fun := ⟨fun xs => xs = [.agg (cX (deC (xs.getD 0 .top) : Cfg)), I (deI (xs.getD 1 .top) : Int), I (deI (xs.getD 2 .top) : Int)] ∧ (fun (c : Cfg) (i : Int) (lv : Int) => (okI c i ∧ isCfg c = true ∧ lv = dp c.cls i.toNat)) (deC (xs.getD 0 .top) : Cfg) (deI (xs.getD 1 .top) : Int) (deI (xs.getD 2 .top) : Int), fun xs => (fun (c : Cfg) (i : Int) (lv : Int) => ((.v (.string (catL (linesN c 8 i.toNat lv.toNat))), []) : X × List Ob)) (deC (xs.getD 0 .top) : Cfg) (deI (xs.getD 1 .top) : Int) (deI (xs.getD 2 .top) : Int)⟩
theorem F85_in {xs : List X} (h : F85.pre xs) : ∃ (c : Cfg) (i : Int) (lv : Int), xs = [.agg (cX c), I i, I lv] ∧ (okI c i ∧ isCfg c = true ∧ lv = dp c.cls i.toNat) := ⟨_, _, _, h.1, h.2⟩
theorem F85_res (c : Cfg) (i : Int) (lv : Int) : F85.res [.agg (cX c), I i, I lv] = (.v (.string (catL (linesN c 8 i.toNat lv.toNat))), []) := by simp [F85]
theorem F85_mk (c : Cfg) (i : Int) (lv : Int) (h : okI c i ∧ isCfg c = true ∧ lv = dp c.cls i.toNat) : F85.pre [.agg (cX c), I i, I lv] := by simpa [F85] using h
theorem linesN_enough {c : Cfg} (T : Tree c.cls) : ∀ (n m i lv : Nat), i < c.cls.length → 8 ≤ n + dp c.cls i → 8 ≤ m + dp c.cls i → linesN c n i lv = linesN c m i lv := by
  have nokid : ∀ i, i < c.cls.length → dp c.cls i = 8 → leafB c.cls i = true := by
    intro i hi h8
    rw [leaf_kids, List.eq_nil_iff_forall_not_mem]
    intro k hk
    obtain ⟨h1, h2⟩ := mem_kids.1 hk
    have := dp_kid T hi h1 h2
    have := dp_le T h1
    omega
  intro n
  induction n with
  | zero =>
    intro m i lv hi hn hm
    have h8 : dp c.cls i = 8 := by have := dp_le T hi; omega
    cases m with
    | zero => rfl
    | succ m => simp [linesN, nokid i hi h8]
  | succ n ih =>
    intro m i lv hi hn hm
    cases m with
    | zero =>
      have h8 : dp c.cls i = 8 := by have := dp_le T hi; omega
      simp [linesN, nokid i hi h8]
    | succ m =>
      simp only [linesN]
      congr 3
      rw [List.flatMap_def, List.flatMap_def]
      congr 1
      refine List.map_congr_left fun k hk => ?_
      obtain ⟨h1, h2⟩ := mem_kids.1 hk
      have hd := dp_kid T hi h1 h2
      exact ih m k (lv + 1) h1 (by omega) (by omega)
def FPn (n : Nat) : Fun := ⟨fun xs => F85.pre xs ∧ 9 ≤ n + dp (deC (xs.getD 0 .top)).cls (deI (xs.getD 1 .top)).toNat, F85.res⟩
def outL (c : Cfg) (i lv : Nat) (ks : List Nat) (k : Nat) : List ByteArray := lnO c i lv :: (ks.take k).flatMap fun j => linesN c 8 j (lv + 1)
theorem outL_succ (c : Cfg) (i lv : Nat) (ks : List Nat) (k : Nat) (h : k < ks.length) : catL (outL c i lv ks (k + 1)) = catL (outL c i lv ks k) ++ catL (linesN c 8 ks[k] (lv + 1)) := by
  unfold outL
  rw [takeS ks k h, List.flatMap_append, ← List.cons_append, catL_app]
  simp
theorem cPn : ∀ n, GenCA K Tryz.prog 85 (FPn n)
  | 0 => by
    refine contractA Tryz.mix K [] [] (by simp) (by simp) Tryz.func85 rfl (by decide) ?_
    rintro xs ⟨hxs, h9⟩
    obtain ⟨c, i, lv, rfl, hI, hg, hlv⟩ := F85_in hxs
    obtain ⟨i, rfl⟩ := Int.eq_ofNat_of_zero_le hI.2.1
    have hi : i < c.cls.length := by have := hI.2.2; omega
    have T := tree_of (c := c) (by rw [← isCfg_eq]; exact hg)
    have := dp_le T hi
    simp at h9
    omega
  | n + 1 => by
    refine contractA Tryz.mix K [(45, F45), (123, F91), (71, F90), (124, F124), (62, F93), (85, FPn n)] [] (by simp [c45, c123, c71, c124, c62, cPn n]) (by simp) Tryz.func85 rfl (by decide) ?_
    rintro xs ⟨hxs, h9⟩
    obtain ⟨c, i, lv, rfl, hI, hg, hlv⟩ := F85_in hxs
    obtain ⟨i, rfl⟩ := Int.eq_ofNat_of_zero_le hI.2.1
    rw [Int.toNat_natCast] at hlv
    subst hlv
    have hi : i < c.cls.length := by have := hI.2.2; omega
    have T := tree_of (c := c) (by rw [← isCfg_eq]; exact hg)
    simp at h9
    obtain ⟨lv, hlv⟩ : ∃ lv, dp c.cls i = lv := ⟨_, rfl⟩
    have hres : (FPn (n + 1)).res [.agg (cX c), I (i : Int), I (dp c.cls i : Int)] = (.v (.string (catL (linesN c 8 i (dp c.cls i)))), []) := F85_res c (i : Int) (dp c.cls i : Int)
    rw [hres, hlv]
    refine ⟨by rw [Tryz.ntmps85]; simp, ?_⟩
    have hok := hI.1
    have hdp := dp_le T hi
    have hlv0 : (lv : Int) ≤ 1000 := by omega
    obtain ⟨hd, hl0, hl60⟩ := cfg_hd hg i hi
    rw [atC_eq hi] at hd hl0 hl60
    have hds := headB_size hd
    have hns := numB_size c.cls[i].lim.toNat (by omega)
    have hl9 : c.cls[i].lim ≤ 1000000000 := by omega
    have his := indB_size lv
    have h18 : linesN c 8 i lv = linesN c 9 i lv := linesN_enough T 8 9 i lv hi (by omega) (by omega)
    by_cases hlf : leafB c.cls i = true
    · have hT : indB lv ++ headB c.cls[i] ++ ⟨#[32, 108, 105, 109, 105, 116, 32]⟩ ++ numB c.cls[i].lim.toNat ++ ⟨#[59, 10]⟩ = catL (linesN c 8 i lv) := by
        simp only [linesN, hlf, if_true, catL_one, lnL, lit59, ByteArray.append_assoc, atC_eq hi]
      simp -implicitDefEqProofs [Tryz.f85, List.lookup_cons, and_assoc, pick_and, pick_or, if_and, if_or, hi]
      refine drawP_all _ (by decide) ?_
      simp -implicitDefEqProofs [List.lookup_cons, and_assoc, pick_and, pick_or, if_and, if_or, F45, F91, F90, F124, hi, hI, hok, hg, hlf, hd, hl0, hl9, hlv0, ba_sz, sz59, szLm]
      repeat refine ⟨by omega, ?_⟩
      refine fin_pure (by simp) ?_
      simp -implicitDefEqProofs [pur2_i, pur2_b, pur2_s, pur2_nil, pur2_sl, pur2_tup, rn2_tup, rn2_agg, rn2_osl, rn1_v, rn1_osl, rn1_agg, rn0_v, rn0_sl, rn0, pickObs, pur_v, pur_b, pur_s, pur_nil, pur_sl, deI, deIs_sl, hT]
    · have hlf' : leafB c.cls i = false := by simpa using hlf
      have hseq := size_eq T hi
      rw [if_neg hlf] at hseq
      have hsl := size_le hg hi
      have hmem : ∀ k ∈ kids c.cls i c.cls.length, k < c.cls.length ∧ dp c.cls k = dp c.cls i + 1 := fun k hk => ⟨(mem_kids.1 hk).1, dp_kid T hi (mem_kids.1 hk).1 (mem_kids.1 hk).2⟩
      have hkl := kids_len c.cls i c.cls.length
      have hlim := cfg_lim hg
      have hT : catL (outL c i lv (kids c.cls i c.cls.length) (kids c.cls i c.cls.length).length) ++ indB lv ++ ⟨#[125, 10]⟩ = catL (linesN c 8 i lv) := by
        have h19 : linesN c 9 i lv = lnO c i lv :: ((kids c.cls i c.cls.length).flatMap (fun k => linesN c 8 k (lv + 1)) ++ [lnC lv]) := by
          show (if leafB c.cls i = true then _ else _) = _
          rw [if_neg hlf]
        rw [h18, h19]
        rw [← List.cons_append, catL_app, catL_one, lit125, lnC]
        unfold outL
        rw [List.take_length]
        simp only [ByteArray.append_assoc]
      have hsz : ∀ k, k ≤ (kids c.cls i c.cls.length).length → (catL (outL c i lv (kids c.cls i c.cls.length) k)).size ≤ 400 * 48 := by
        intro k hk
        have h1 := catL_size (outL c i lv (kids c.cls i c.cls.length) k) 399 fun x hx => by
          unfold outL at hx
          rcases List.mem_cons.1 hx with rfl | hx
          · exact lnO_size hg hi (by omega)
          · obtain ⟨j, hj, hx⟩ := List.mem_flatMap.1 hx
            have hj' := (mem_kids.1 (List.mem_of_mem_take hj)).1
            have hdj := (hmem j (List.mem_of_mem_take hj)).2
            have hdj8 := dp_le T hj'
            rw [linesN_enough T 8 (8 - lv) j (lv + 1) hj' (by omega) (by omega)] at hx
            exact linesN_size hg (8 - lv) j (lv + 1) hj' (by omega) x hx
        have h2 : (outL c i lv (kids c.cls i c.cls.length) k).length ≤ 48 := by
          have h3 := sum_take_le (kids c.cls i c.cls.length) (size c.cls) k
          unfold outL
          rw [List.length_cons, List.length_flatMap]
          have e : ((kids c.cls i c.cls.length).take k).map (fun j => (linesN c 8 j (lv + 1)).length) = ((kids c.cls i c.cls.length).take k).map (size c.cls) := List.map_congr_left fun j _ => linesN_len c 8 j (lv + 1)
          rw [e]
          omega
        calc _ ≤ (399 + 1) * (outL c i lv (kids c.cls i c.cls.length) k).length := h1
          _ ≤ 400 * 48 := Nat.mul_le_mul_left _ h2
      have hO : indB lv ++ headB c.cls[i] ++ ⟨#[32, 123, 10]⟩ = catL (outL c i lv (kids c.cls i c.cls.length) 0) := by
        simp only [outL, List.take_zero, List.flatMap_nil, catL_one, lnO, lit123, ByteArray.append_assoc, atC_eq hi]
      simp -implicitDefEqProofs [Tryz.f85, List.lookup_cons, and_assoc, pick_and, pick_or, if_and, if_or, hi]
      refine drawP_all _ (by decide) ?_
      simp -implicitDefEqProofs [List.lookup_cons, and_assoc, pick_and, pick_or, if_and, if_or, F45, F91, F90, F124, F93, hi, hI, hok, hg, hlf', hd, hl0, hl9, hlv0, ba_sz, sz123, iOb]
      rw [hO]
      generalize hK : kids c.cls i c.cls.length = ks at hmem hkl hT hsz hO ⊢
      have hnl := nI_len ks
      repeat refine ⟨by omega, ?_⟩
      refine loopP_inv (fun k : Nat => ⟨54, tl [(2, I lv), (3, .optr 0 0 0 0), (8, .v (.string (catL (outL c i lv ks k)))), (35, .osl 1 0), (36, I ks.length), (37, I k)], [cBx c, iOb (nI ks)]⟩) (fun k => k ≤ ks.length) (fun k => ks.length - k) 0 (Nat.zero_le _) ?_ ?_
      · simp only [cBx, iOb]
        refine Wk.tlPN [0, 2] (by simp [pickOkN]) (by simp) ?_
        simp [hold, upd, tl_cons, hnl]
      intro k hk
      by_cases h : k < ks.length
      · obtain ⟨m1, m2⟩ := hmem ks[k] (List.getElem_mem h)
        have hok2 : okI c ((ks[k] : Nat) : Int) := ⟨hok, by omega, by omega⟩
        have h9' : 9 ≤ n + dp c.cls ks[k] := by omega
        have hsuc := outL_succ c i lv ks k h
        have hs1 := hsz (k + 1) (by omega)
        rw [hsuc, ByteArray.size_append] at hs1
        have heq : (lv : Int) + 1 = (dp c.cls ks[k] : Nat) := by omega
        have hto : ((dp c.cls ks[k] : Nat) : Int).toNat = lv + 1 := by omega
        have hwl : IntKind.i64.wrap ((lv : Int) + 1) = (dp c.cls ks[k] : Nat) := by rw [w64 (by omega) (by omega)]; omega
        have hdk : dp c.cls ks[k] = lv + 1 := by omega
        have hw1 := w64n (show k < 4611686018427387904 by omega)
        have hsd : linesN c 8 ks[k] (dp c.cls ks[k]) = linesN c 8 ks[k] (lv + 1) := by rw [hdk]
        simp -implicitDefEqProofs [List.lookup_cons, and_assoc, pick_and, pick_or, if_and, if_or, F45, F91, F90, F124, F93, FPn, F85, h, hnl, nI_get, nI_len, cBx, iOb, m1, hok2, hg, h9', hwl, hsd, ← hsuc]
        refine ⟨by omega, k + 1, by omega, by omega, ?_⟩
        exact Wk.tl (by simp [hold, upd, tl_cons, hw1])
      · have e : k = ks.length := by omega
        subst e
        have hs1 := hsz ks.length (Nat.le_refl _)
        simp -implicitDefEqProofs [List.lookup_cons, and_assoc, pick_and, pick_or, if_and, if_or, F45, F91, F90, F124, F93, FPn, F85, hnl, cBx, iOb, hlv0, ba_sz, sz125, hT]
        refine ⟨by omega, by omega, ?_⟩
        refine fin_pure (by simp) ?_
        simp -implicitDefEqProofs [pur2_i, pur2_b, pur2_s, pur2_nil, pur2_sl, pur2_tup, rn2_tup, rn2_agg, rn2_osl, rn1_v, rn1_osl, rn1_agg, rn0_v, rn0_sl, rn0, pickObs, pur_v, pur_b, pur_s, pur_nil, pur_sl, deI, deIs_sl]
theorem c85 : GenCA K Tryz.prog 85 F85 := genWeak (cPn 9) (fun xs h => ⟨h, by omega⟩) fun _ _ => rfl
end Go.Proofs
