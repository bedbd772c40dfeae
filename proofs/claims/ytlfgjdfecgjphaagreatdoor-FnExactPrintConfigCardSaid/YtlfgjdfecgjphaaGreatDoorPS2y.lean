/-
  What is proved here: contracts of the reference's indent, and of both TreeText. Condition: none.
-/
import Derived.Test.YtlfgjdfecgjphaaGreatDoorPL1y
namespace Go.Proofs
open Go.Abs
set_option linter.unusedSimpArgs false
set_option linter.unnecessarySimpa false
set_option linter.unusedVariables false
set_option maxHeartbeats 8000000
set_option maxRecDepth 20000

theorem pst (h : List Ob) (b : ByteArray) : pur2 h (X.v (Value.string b)) = X.v (Value.string b) := rfl
theorem psi (h : List Ob) (n : Int) : pur2 h (I n) = I n := rfl
theorem indB_succ (k : Nat) : indB (k + 1) = indB k ++ ⟨#[32, 32]⟩ := by
  apply ba_ext2
  simp only [indB, ByteArray.data_append]
  rw [show 2 * (k + 1) = 2 * k + 2 by omega, ← List.replicate_append_replicate]
  simp
def F45 : Fun := ⟨fun xs => xs = [I (deI (xs.getD 0 .top) : Int)] ∧ (fun (n : Int) => (0 ≤ n ∧ n ≤ 1000)) (deI (xs.getD 0 .top) : Int), fun xs => (fun (n : Int) => ((.v (.string (indB n.toNat)), []) : X × List Ob)) (deI (xs.getD 0 .top) : Int)⟩
theorem F45_in {xs : List X} (h : F45.pre xs) : ∃ (n : Int), xs = [I n] ∧ (0 ≤ n ∧ n ≤ 1000) := ⟨_, h.1, h.2⟩
theorem F45_res (n : Int) : F45.res [I n] = (.v (.string (indB n.toNat)), []) := by simp [F45]
theorem F45_mk (n : Int) (h : 0 ≤ n ∧ n ≤ 1000) : F45.pre [I n] := by simpa [F45] using h
theorem c45 : GenCA K Tryz.prog 45 F45 := by
  refine contractA Tryz.mix K [] [] (by simp) (by simp) Tryz.func45 rfl (by decide) ?_
  intro xs hxs
  obtain ⟨n, rfl, hp⟩ := F45_in hxs
  rw [F45_res]
  refine ⟨by rw [Tryz.ntmps45]; simp, ?_⟩
  obtain ⟨h0, h1⟩ := hp
  obtain ⟨n, rfl⟩ := Int.eq_ofNat_of_zero_le h0
  have he : (⟨#[]⟩ : ByteArray) = indB 0 := rfl
  simp -implicitDefEqProofs [Tryz.f45, List.lookup_cons, and_assoc, pick_and, pick_or, if_and, if_or]
  refine loopP_inv (fun k : Nat => ⟨11, tl [(0, I ((n : Int) - k)), (3, .v (.string (indB k)))], []⟩) (fun k => k ≤ n) (fun k => n - k) 0 (Nat.zero_le _) ?_ ?_
  · exact Wk.tl (by simp [hold, upd, tl_cons, he])
  intro k hk
  have hsz := indB_size k
  have hsuc := indB_succ k
  by_cases h : k < n
  · have hw : IntKind.i64.wrap ((n : Int) - k - 1) = (n : Int) - (k + 1) := by rw [w64 (by omega) (by omega)]; omega
    have hc : (0 : Int) < (n : Int) - k := by omega
    have hs2 : (indB k).size + (ByteArray.mk #[32, 32]).size ≤ 9223372036854775807 := by rw [hsz, show (ByteArray.mk #[32, 32]).size = 2 from rfl]; omega
    simp -implicitDefEqProofs [List.lookup_cons, and_assoc, pick_and, pick_or, if_and, if_or, h, hc, hs2, ← hsuc, hw]
    refine ⟨k + 1, by omega, by omega, ?_⟩
    exact Wk.tl (by simp [hold, upd, tl_cons])
  · have e : k = n := by omega
    subst e
    simp -implicitDefEqProofs [List.lookup_cons, and_assoc, pick_and, pick_or, if_and, if_or]
    refine fin_pure (by simp) ?_
    simp -implicitDefEqProofs [pur2_i, pur2_b, pur2_s, pur2_nil, pur2_sl, pur2_tup, rn2_tup, rn2_agg, rn2_osl, rn1_v, rn1_osl, rn1_agg, rn0_v, rn0_sl, rn0, pickObs, pur_v, pur_b, pur_s, pur_nil, pur_sl, deI, deIs_sl]
/-! ### the tree as a text -/
def trL (l : List Cls) (i : Nat) : ByteArray := indB (dp l i - 1) ++ decB (atC l i).id.toNat ++ ⟨#[10]⟩
def trB (l : List Cls) (ks : List Nat) : ByteArray := (ks.map (trL l)).foldl (· ++ ·) ⟨#[]⟩
def trK (l : List Cls) (ks : List Nat) (k : Nat) : ByteArray := trB l (ks.take k)
theorem trK_succ (l : List Cls) (ks : List Nat) (k : Nat) (h : k < ks.length) : trK l ks (k + 1) = trK l ks k ++ trL l ks[k] := by
  unfold trK trB
  rw [takeS ks k h, List.map_append, List.foldl_append]
  rfl
theorem trK_all (l : List Cls) (ks : List Nat) : trK l ks ks.length = trB l ks := by unfold trK; rw [List.take_length]
theorem trL_size {c : Cfg} (h : isCfg c = true) {i : Nat} (hi : i < c.cls.length) : (indB (dp c.cls i - 1) ++ decB (atC c.cls i).id.toNat ++ ⟨#[10]⟩).size ≤ 50 := by
  have T := tree_of (c := c) (by rw [← isCfg_eq]; exact h)
  have h1 := dp_le T hi
  have h2 := (cfg_hd h i hi).1
  unfold hdOk at h2
  have h3 := decB_size (atC c.cls i).id.toNat (by omega)
  simp only [ByteArray.size_append, indB_size, show (ByteArray.mk #[10]).size = 1 from rfl]
  omega
theorem trK_size {c : Cfg} (h : isCfg c = true) (ks : List Nat) (hk : ∀ i ∈ ks, i < c.cls.length) : ∀ k, k ≤ ks.length → (trK c.cls ks k).size ≤ 50 * k
  | 0, _ => by simp [trK, trB, ByteArray.size]
  | k + 1, hk2 => by
    have h1 := trK_size h ks hk k (by omega)
    have h2 := trL_size h (hk _ (List.getElem_mem (show k < ks.length by omega)))
    rw [trK_succ _ _ _ (by omega), ByteArray.size_append]
    unfold trL
    omega
def trR (c : Cfg) : X := if isCfg c = true then .tup [.v (.string (trB c.cls (walk c.cls (topN c.cls)))), B true] else .tup [.v (.string ⟨#[]⟩), B false]
def F17 : Fun := ⟨fun xs => xs = [.agg (cX (deC (xs.getD 0 .top) : Cfg))] ∧ (fun (c : Cfg) => (okC c)) (deC (xs.getD 0 .top) : Cfg), fun xs => (fun (c : Cfg) => ((trR c, []) : X × List Ob)) (deC (xs.getD 0 .top) : Cfg)⟩
theorem F17_in {xs : List X} (h : F17.pre xs) : ∃ (c : Cfg), xs = [.agg (cX c)] ∧ (okC c) := ⟨_, h.1, h.2⟩
theorem F17_res (c : Cfg) : F17.res [.agg (cX c)] = (trR c, []) := by simp [F17]
theorem F17_mk (c : Cfg) (h : okC c) : F17.pre [.agg (cX c)] := by simpa [F17] using h
theorem c17 : GenCA K Tryz.prog 17 F17 := by
  refine contractA Tryz.mix K [(48, F48), (38, F38), (50, F50), (49, F49), (51, F51)] [] (by simp [c48, c38, c50, c49, c51]) (by simp) Tryz.func17 rfl (by decide) ?_
  intro xs hxs
  obtain ⟨c, rfl, hp⟩ := F17_in hxs
  rw [F17_res]
  refine ⟨by rw [Tryz.ntmps17]; simp, ?_⟩
  cases g : isCfg c with
  | false =>
    have e : trR c = .tup [.v (.string ⟨#[]⟩), B false] := by simp [trR, g]
    rw [e]
    simp -implicitDefEqProofs [Tryz.f17, F48, F38, F50, F49, F51, List.lookup_cons, and_assoc, pick_and, pick_or, if_and, if_or, hp, g]
    refine fin_pure (by simp) ?_
    simp -implicitDefEqProofs [pur2_i, pur2_b, pur2_s, pur2_nil, pur2_sl, pur2_tup, rn2_tup, rn2_agg, rn2_osl, rn1_v, rn1_osl, rn1_agg, rn0_v, rn0_sl, rn0, pickObs, pur_v, pur_b, pur_s, pur_nil, pur_sl, deI, deIs_sl]
  | true =>
    have e : trR c = .tup [.v (.string (trB c.cls (walk c.cls (topN c.cls)))), B true] := by simp [trR, g]
    have hT := tree_of (c := c) (by rw [← isCfg_eq]; exact g)
    have hlt : ∀ j ∈ walk c.cls (topN c.cls), j < c.cls.length := fun j hj => walk_lt hT (top_spec g).1 hj
    have hwl := walk_len hT (top_spec g).1
    have hlim := cfg_lim g
    have hord := prn_order c
    rw [e]
    generalize walk c.cls (topN c.cls) = ks at hlt hwl hord ⊢
    obtain ⟨q, hq⟩ : ∃ q, prn c = q := ⟨_, rfl⟩
    rw [hq] at hord
    have hnl := nI_len ks
    have hemp : (⟨#[]⟩ : ByteArray) = trK c.cls ks 0 := rfl
    simp -implicitDefEqProofs [Tryz.f17, F48, F38, F50, F49, F51, List.lookup_cons, and_assoc, pick_and, pick_or, if_and, if_or, hp, g, hq, hord, obF, boxP, sOb, nOb]
    refine loopP_inv (fun k : Nat => ⟨39, tl [(1, .optr 0 0 0 0), (4, .v (.string (trK c.cls ks k))), (14, .osl 1 0), (15, I ks.length), (16, I k)], [cBx c, iOb (nI ks)]⟩) (fun k => k ≤ ks.length) (fun k => ks.length - k) 0 (Nat.zero_le _) ?_ ?_
    · rw [← hemp]
      simp only [cBx, iOb]
      refine Wk.tlPN [0, 3] (by simp [pickOkN]) (by simp) ?_
      simp [hold, upd, tl_cons, hnl]
    intro k hk
    have hks := trK_size g ks hlt k hk
    by_cases h : k < ks.length
    · have hi := hlt _ (List.getElem_mem h)
      have hI : okI c ((ks[k] : Nat) : Int) := ⟨hp, by omega, by omega⟩
      have hsuc := trK_succ c.cls ks k h
      have hts := trL_size g hi
      have hd := (cfg_hd g _ hi).1
      unfold hdOk at hd
      obtain ⟨⟨i0, i9⟩, -⟩ := hd
      have hd8 := dp_le hT hi
      have hdp1 := dp_pos (l := c.cls) ks[k]
      have hch : (chain c.cls 9 ((ks[k] : Nat) : Int)).length = dp c.cls ks[k] := rfl
      have hw1 := w64n (show k < 4611686018427387904 by omega)
      obtain ⟨d, hd1⟩ : ∃ d, dp c.cls ks[k] - 1 = d := ⟨_, rfl⟩
      have hwd : IntKind.i64.wrap ((dp c.cls ks[k] : Int) - 1) = (d : Int) := by rw [w64 (by omega) (by omega)]; omega
      have hrep := repB_ind d
      rw [hd1] at hts
      simp only [ByteArray.size_append, show (ByteArray.mk #[10]).size = 1 from rfl] at hts
      rw [atC_eq hi] at hts i0 i9
      have hlow : trL c.cls ks[k] = indB d ++ decB c.cls[ks[k]].id.toNat ++ ⟨#[10]⟩ := by unfold trL; rw [hd1, atC_eq hi]
      have b1 : c.cls[ks[k]].id ≤ 9223372036854775807 := by omega
      have b2 : (d : Int) ≤ 1048576 := by omega
      have b3 : (ByteArray.mk #[32, 32]).size ≤ 64 := by decide
      rw [hlow] at hsuc
      simp -implicitDefEqProofs [List.lookup_cons, and_assoc, pick_and, pick_or, if_and, if_or, h, hnl, nI_get, nI_len, cBx, iOb]
      refine drawP_pu _ (by decide) ?_
      simp -implicitDefEqProofs [List.lookup_cons, and_assoc, pick_and, pick_or, if_and, if_or, F50, F49, F51, h, hi, hnl, nI_get, nI_len, cBx, iOb, pst, hI, hp, g, hch, hwd, hrep, i0, b1, b2, b3, ba_sz, show (ByteArray.mk #[10]).size = 1 from rfl, ← hsuc]
      refine ⟨by omega, by omega, by omega, k + 1, by omega, by omega, ?_⟩
      exact Wk.tl (by simp [hold, upd, tl_cons, hw1])
    · have e : k = ks.length := by omega
      subst e
      rw [trK_all]
      simp -implicitDefEqProofs [List.lookup_cons, and_assoc, pick_and, pick_or, if_and, if_or, iOb, cBx]
      refine fin_pure (by simp) ?_
      simp -implicitDefEqProofs [pur2_i, pur2_b, pur2_s, pur2_nil, pur2_sl, pur2_tup, rn2_tup, rn2_agg, rn2_osl, rn1_v, rn1_osl, rn1_agg, rn0_v, rn0_sl, rn0, pickObs, pur_v, pur_b, pur_s, pur_nil, pur_sl, deI, deIs_sl]
theorem c16 : GenCA K Tryz.prog 16 F17 := by
  refine contractA Tryz.mix K [(42, F48), (44, F67), (43, F43), (46, F46), (45, F45), (47, F47)] [] (by simp [c42, c44, c43, c46, c45, c47]) (by simp) Tryz.func16 rfl (by decide) ?_
  intro xs hxs
  obtain ⟨c, rfl, hp⟩ := F17_in hxs
  rw [F17_res]
  refine ⟨by rw [Tryz.ntmps16]; simp, ?_⟩
  cases g : isCfg c with
  | false =>
    have e : trR c = .tup [.v (.string ⟨#[]⟩), B false] := by simp [trR, g]
    rw [e]
    simp -implicitDefEqProofs [Tryz.f16, F48, F67, F43, F46, F45, F47, List.lookup_cons, and_assoc, pick_and, pick_or, if_and, if_or, hp, g]
    refine fin_pure (by simp) ?_
    simp -implicitDefEqProofs [pur2_i, pur2_b, pur2_s, pur2_nil, pur2_sl, pur2_tup, rn2_tup, rn2_agg, rn2_osl, rn1_v, rn1_osl, rn1_agg, rn0_v, rn0_sl, rn0, pickObs, pur_v, pur_b, pur_s, pur_nil, pur_sl, deI, deIs_sl]
  | true =>
    have e : trR c = .tup [.v (.string (trB c.cls (walk c.cls (topN c.cls)))), B true] := by simp [trR, g]
    have hT := tree_of (c := c) (by rw [← isCfg_eq]; exact g)
    have hlt : ∀ j ∈ walk c.cls (topN c.cls), j < c.cls.length := fun j hj => walk_lt hT (top_spec g).1 hj
    have hwl := walk_len hT (top_spec g).1
    have hlim := cfg_lim g
    have hIt : okI c (topN c.cls : Int) := ⟨hp, by omega, by have := (top_spec g).1; omega⟩
    rw [e]
    simp -implicitDefEqProofs [Tryz.f16, F48, F67, F43, F46, F45, F47, List.lookup_cons, and_assoc, pick_and, pick_or, if_and, if_or, hp, g]
    refine drawP_pu _ (by decide) ?_
    simp -implicitDefEqProofs [List.lookup_cons, and_assoc, pick_and, pick_or, if_and, if_or, F67, F43, psi, hp, g, hIt, iOb]
    generalize walk c.cls (topN c.cls) = ks at hlt hwl ⊢
    have hnl := nI_len ks
    have hemp : (⟨#[]⟩ : ByteArray) = trK c.cls ks 0 := rfl
    refine loopP_inv (fun k : Nat => ⟨38, tl [(1, .optr 0 0 0 0), (4, .v (.string (trK c.cls ks k))), (13, .sl (iR (nI ks))), (14, I ks.length), (15, I k)], [cBx c]⟩) (fun k => k ≤ ks.length) (fun k => ks.length - k) 0 (Nat.zero_le _) ?_ ?_
    · rw [← hemp]
      simp only [cBx]
      exact Wk.tl (by simp [hold, upd, tl_cons, hnl])
    intro k hk
    have hks := trK_size g ks hlt k hk
    by_cases h : k < ks.length
    · have hi := hlt _ (List.getElem_mem h)
      have hI : okI c ((ks[k] : Nat) : Int) := ⟨hp, by omega, by omega⟩
      have hsuc := trK_succ c.cls ks k h
      have hts := trL_size g hi
      have hd := (cfg_hd g _ hi).1
      unfold hdOk at hd
      obtain ⟨⟨i0, i9⟩, -⟩ := hd
      have hd8 := dp_le hT hi
      have hdp1 := dp_pos (l := c.cls) ks[k]
      have hch : (chain c.cls 9 ((ks[k] : Nat) : Int)).length = dp c.cls ks[k] := rfl
      have hw1 := w64n (show k < 4611686018427387904 by omega)
      obtain ⟨d, hd1⟩ : ∃ d, dp c.cls ks[k] - 1 = d := ⟨_, rfl⟩
      have hwd : IntKind.i64.wrap ((dp c.cls ks[k] : Int) - 1) = (d : Int) := by rw [w64 (by omega) (by omega)]; omega
      have hrep := repB_ind d
      rw [hd1] at hts
      simp only [ByteArray.size_append, show (ByteArray.mk #[10]).size = 1 from rfl] at hts
      rw [atC_eq hi] at hts i0 i9
      have hlow : trL c.cls ks[k] = indB d ++ decB c.cls[ks[k]].id.toNat ++ ⟨#[10]⟩ := by unfold trL; rw [hd1, atC_eq hi]
      have b1 : c.cls[ks[k]].id ≤ 9223372036854775807 := by omega
      have b2 : (d : Int) ≤ 1000 := by omega
      have b3 : (ByteArray.mk #[32, 32]).size ≤ 64 := by decide
      rw [hlow] at hsuc
      simp -implicitDefEqProofs [List.lookup_cons, and_assoc, pick_and, pick_or, if_and, if_or, h, hnl, nI_get, nI_len, cBx, iOb]
      refine drawP_pu _ (by decide) ?_
      simp -implicitDefEqProofs [List.lookup_cons, and_assoc, pick_and, pick_or, if_and, if_or, F46, F45, F47, h, hi, hnl, nI_get, nI_len, cBx, iOb, pst, hI, hp, g, hch, hwd, hrep, i0, b1, b2, b3, ba_sz, show (ByteArray.mk #[10]).size = 1 from rfl, ← hsuc]
      refine ⟨by omega, by omega, by omega, k + 1, by omega, by omega, ?_⟩
      exact Wk.tl (by simp [hold, upd, tl_cons, hw1])
    · have e : k = ks.length := by omega
      subst e
      rw [trK_all]
      simp -implicitDefEqProofs [List.lookup_cons, and_assoc, pick_and, pick_or, if_and, if_or, iOb, cBx]
      refine fin_pure (by simp) ?_
      simp -implicitDefEqProofs [pur2_i, pur2_b, pur2_s, pur2_nil, pur2_sl, pur2_tup, rn2_tup, rn2_agg, rn2_osl, rn1_v, rn1_osl, rn1_agg, rn0_v, rn0_sl, rn0, pickObs, pur_v, pur_b, pur_s, pur_nil, pur_sl, deI, deIs_sl]
end Go.Proofs
