/-
  What is proved here: the contract of the printer's part, that calls itself. Condition: none.
-/
import Derived.Test.YtflhbkcjfmajeaaGreatDoorPR1z
import Derived.Test.YtflhbkcjfmajeaaGreatDoorPWs
namespace Go.Proofs
open Go.Abs
set_option linter.unusedSimpArgs false
set_option linter.unnecessarySimpa false
set_option linter.unusedVariables false
set_option maxHeartbeats 16000000
set_option maxRecDepth 20000

def MPart (n : Nat) : MFun := ⟨[true, false, false], fun xs obs => ∃ (c : Cfg) (s : PS) (i lv : Nat), xs = [.optr 0 0 0 0, I i, I lv] ∧ obs = obF c s ∧ okC c ∧ isCfg c = true ∧ i < c.cls.length ∧ 9 ≤ n + dp c.cls i ∧ lv = dp c.cls i ∧ s.first.length = c.cls.length ∧ s.last.length = c.cls.length ∧ s.lines.length + size c.cls i ≤ 1000 ∧ s.order.length + (walk c.cls i).length ≤ 1000,
  fun xs obs => (.tup [], obG (cOfB (hdO obs)) (partN (cOfB (hdO obs)) (n - 1) (deI (xs.getD 1 .top)).toNat (deI (xs.getD 2 .top)).toNat (psF obs)) 1)⟩
theorem mPart_res (n : Nat) (c : Cfg) (s : PS) (i lv : Nat) : (MPart n).res [.optr 0 0 0 0, I i, I lv] (obF c s) = (.tup [], obG c (partN c (n - 1) i lv s) 1) := by
  show (X.tup [], obG (cOfB (boxP c (.osl 1 0) (.osl 2 0) (.osl 3 0) (.osl 4 0))) (partN (cOfB (boxP c (.osl 1 0) (.osl 2 0) (.osl 3 0) (.osl 4 0))) (n - 1) (deI (I (i : Int))).toNat (deI (I (lv : Int))).toNat (psF (obF c s))) 1) = _
  rw [cOfB_box, psF_ob, show deI (I (i : Int)) = i from rfl, show deI (I (lv : Int)) = lv from rfl, Int.toNat_natCast, Int.toNat_natCast]
theorem lnP (c : Cfg) (L : List ByteArray) (O : List Nat) (F A : List Int) (lv : Nat) (t : ByteArray) (h1 : lv ≤ 9) (h2 : t.size ≤ 2097152) (h3 : L.length ≤ 100000) : MLine.pre [.optr 0 0 0 0, I lv, .v (.string t)] [⟨79, 8, 0, [[.v (.string c.name), .sl (tR c.cls), .sl (tR c.fil), I c.dflt, .osl 1 0, .osl 2 0, .osl 3 0, .osl 4 0]], true, true, none⟩, ⟨9, 1, 0, sR L, false, true, none⟩, ⟨3, 1, 0, iR (nI O), false, true, none⟩, ⟨3, 1, 0, iR F, false, true, none⟩, ⟨3, 1, 0, iR A, false, true, none⟩] := ⟨c, lv, t, rfl, h1, h2, .inl ⟨⟨L, O, F, A⟩, rfl, h3⟩⟩
theorem lnR (c : Cfg) (L L' : List ByteArray) (O : List Nat) (F A : List Int) (lv : Nat) (t : ByteArray) (h : L ++ [indB lv ++ t] = L') : MLine.res [.optr 0 0 0 0, I lv, .v (.string t)] [⟨79, 8, 0, [[.v (.string c.name), .sl (tR c.cls), .sl (tR c.fil), I c.dflt, .osl 1 0, .osl 2 0, .osl 3 0, .osl 4 0]], true, true, none⟩, ⟨9, 1, 0, sR L, false, true, none⟩, ⟨3, 1, 0, iR (nI O), false, true, none⟩, ⟨3, 1, 0, iR F, false, true, none⟩, ⟨3, 1, 0, iR A, false, true, none⟩] = (.tup [], [⟨79, 8, 0, [[.v (.string c.name), .sl (tR c.cls), .sl (tR c.fil), I c.dflt, .osl 1 1, .osl 2 0, .osl 3 0, .osl 4 0]], true, true, none⟩, ⟨9, 1, 1, sR L', false, true, none⟩, ⟨3, 1, 0, iR (nI O), false, true, none⟩, ⟨3, 1, 0, iR F, false, true, none⟩, ⟨3, 1, 0, iR A, false, true, none⟩]) := by
  subst h
  exact mLine_F c ⟨L, O, F, A⟩ lv t
theorem lnM : MLine.mu = [true, false, false] := rfl
theorem ptP (n : Nat) (c : Cfg) (s : PS) (i : Nat) (lv : Nat) (h1 : okC c) (h2 : isCfg c = true) (h3 : i < c.cls.length) (h4 : 9 ≤ n + dp c.cls i) (h5 : lv + 1 = dp c.cls i) (h6 : s.first.length = c.cls.length) (h7 : s.last.length = c.cls.length) (h8 : s.lines.length + size c.cls i ≤ 1000) (h9 : s.order.length + (walk c.cls i).length ≤ 1000) : (MPart n).pre [.optr 0 0 0 0, I i, I ((lv : Int) + 1)] [⟨79, 8, 0, [[.v (.string c.name), .sl (tR c.cls), .sl (tR c.fil), I c.dflt, .osl 1 0, .osl 2 0, .osl 3 0, .osl 4 0]], true, true, none⟩, ⟨9, 1, 0, sR s.lines, false, true, none⟩, ⟨3, 1, 0, iR (nI s.order), false, true, none⟩, ⟨3, 1, 0, iR s.first, false, true, none⟩, ⟨3, 1, 0, iR s.last, false, true, none⟩] := ⟨c, s, i, lv + 1, by simp, rfl, h1, h2, h3, h4, h5, h6, h7, h8, h9⟩
theorem ptR (n : Nat) (c : Cfg) (s t : PS) (i : Nat) (lv : Nat) (h : partN c (n - 1) i (lv + 1) s = t) : (MPart n).res [.optr 0 0 0 0, I i, I ((lv : Int) + 1)] [⟨79, 8, 0, [[.v (.string c.name), .sl (tR c.cls), .sl (tR c.fil), I c.dflt, .osl 1 0, .osl 2 0, .osl 3 0, .osl 4 0]], true, true, none⟩, ⟨9, 1, 0, sR s.lines, false, true, none⟩, ⟨3, 1, 0, iR (nI s.order), false, true, none⟩, ⟨3, 1, 0, iR s.first, false, true, none⟩, ⟨3, 1, 0, iR s.last, false, true, none⟩] = (.tup [], [⟨79, 8, 0, [[.v (.string c.name), .sl (tR c.cls), .sl (tR c.fil), I c.dflt, .osl 1 1, .osl 2 1, .osl 3 0, .osl 4 0]], true, true, none⟩, ⟨9, 1, 1, sR t.lines, false, true, none⟩, ⟨3, 1, 1, iR (nI t.order), false, true, none⟩, ⟨3, 1, 0, iR t.first, false, true, none⟩, ⟨3, 1, 0, iR t.last, false, true, none⟩]) := by
  subst h
  have e : ((lv + 1 : Nat) : Int) = (lv : Int) + 1 := by simp
  rw [← e]
  exact mPart_res n c s i (lv + 1)
theorem ptM (n : Nat) : (MPart n).mu = [true, false, false] := rfl
theorem szL : (ByteArray.mk #[32, 108, 105, 109, 105, 116, 32]).size = 7 := rfl
theorem szS : (ByteArray.mk #[59]).size = 1 := rfl
theorem szO : (ByteArray.mk #[32, 123]).size = 2 := rfl
theorem szC : (ByteArray.mk #[125]).size = 1 := rfl
theorem oA (O : List Nat) (i : Nat) (O' : List Nat) (h : O ++ [i] = O') : iR (nI O) ++ [[I (i : Int)]] = iR (nI O') := by
  subst h
  rw [nI_one i, nI_app]
theorem mPart : ∀ n, GenNA K Tryz.prog 86 (MPart n)
  | 0 => by
    refine contractNA Tryz.mix K [] [] [] (by simp) (by simp) (by simp) Tryz.func86 rfl (by decide) ?_
    rintro xs obs us ⟨c, s, i, lv, rfl, rfl, ho, hg, hi, h9, hlv, h1, h2, h3, h4⟩ hu
    have T := tree_of (c := c) (by rw [← isCfg_eq]; exact hg)
    have := dp_le T hi
    omega
  | n + 1 => by
    refine contractNA Tryz.mix K [(103, F103), (108, F108), (109, F109), (110, F110)] [] [(85, MLine), (86, MPart n)] (by simp [c103, c108, c109, c110]) (by simp) (by simp [n85, mPart n]) Tryz.func86 rfl (by decide) ?_
    rintro xs obs us ⟨c, s, i, lv, rfl, rfl, ho, hg, hi, h9, hlv, hf, hl, hsz, how⟩ hu
    obtain ⟨u0, u1, u2, u3, u4, rfl⟩ : ∃ u0 u1 u2 u3 u4, us = [u0, u1, u2, u3, u4] := by
      match us, hu with
      | [a, b, c, d, e], _ => exact ⟨a, b, c, d, e, rfl⟩
    rw [mPart_res]
    have T := tree_of (c := c) (by rw [← isCfg_eq]; exact hg)
    have hdp := dp_le T hi
    have hdpp := dp_pos (l := c.cls) i
    have hI : okI c (i : Int) := ⟨ho, by omega, by omega⟩
    have hoC : okC ⟨c.name, c.cls, c.fil, c.dflt⟩ := ho
    have hIC : okI ⟨c.name, c.cls, c.fil, c.dflt⟩ (i : Int) := hI
    obtain ⟨hd, hl0, hl60⟩ := cfg_hd hg i hi
    rw [atC_eq hi] at hd hl0 hl60
    have hds := headB_size hd
    have hns := numB_size c.cls[i].lim.toNat (by omega)
    have hl9 : c.cls[i].lim ≤ 1000000000 := by omega
    have hlv9 : lv ≤ 9 := by omega
    have hif : i < s.first.length := by omega
    have hil : i < s.last.length := by omega
    have hszp := size_pos c.cls i
    have hwp : 1 ≤ (walk c.cls i).length := by rw [walk_eq T hi]; simp
    obtain ⟨o1, ho1⟩ : ∃ o1, s.order ++ [i] = o1 := ⟨_, rfl⟩
    have hO := oA s.order i o1 ho1
    have hol : s.order.length ≤ 1000 := by omega
    refine ⟨⟨by rw [Tryz.ntmps86]; simp, by simp, fun k ob hob => ?_⟩, ?_⟩
    · match k, hob with
      | 0, hob => simp [obF] at hob; subst hob; exact ⟨_, rfl, rfl, rfl, rfl, rfl⟩
      | 1, hob => simp [obF] at hob; subst hob; exact ⟨_, rfl, rfl, rfl, rfl, rfl⟩
      | 2, hob => simp [obF] at hob; subst hob; exact ⟨_, rfl, rfl, rfl, rfl, rfl⟩
      | 3, hob => simp [obF] at hob; subst hob; exact ⟨_, rfl, rfl, rfl, rfl, rfl⟩
      | 4, hob => simp [obF] at hob; subst hob; exact ⟨_, rfl, rfl, rfl, rfl, rfl⟩
      | k + 5, hob => simp [obF] at hob
    by_cases hlf : leafB c.cls i = true
    · -- a leaf
      have hP : partN c (n + 1 - 1) i lv s = leafP c i lv s := by
        cases n with
        | zero => rfl
        | succ m => simp [partN, hlf]
      obtain ⟨l1, hl1⟩ : ∃ l1, s.lines ++ [indB lv ++ (headB c.cls[i] ++ ⟨#[32, 108, 105, 109, 105, 116, 32]⟩ ++ numB c.cls[i].lim.toNat ++ ⟨#[59]⟩)] = l1 := ⟨_, rfl⟩
      have hts : (headB c.cls[i] ++ ⟨#[32, 108, 105, 109, 105, 116, 32]⟩ ++ numB c.cls[i].lim.toNat ++ ⟨#[59]⟩).size ≤ 2097152 := by
        simp only [ByteArray.size_append, show (ByteArray.mk #[32, 108, 105, 109, 105, 116, 32]).size = 7 from rfl, show (ByteArray.mk #[59]).size = 1 from rfl]
        omega
      have j1 := lnP c s.lines o1 s.first s.last lv _ hlv9 hts (by omega)
      have j2 := lnR c s.lines l1 o1 s.first s.last lv _ hl1
      have hll : l1.length = s.lines.length + 1 := by rw [← hl1]; simp
      rw [hP]
      simp -implicitDefEqProofs [Tryz.f86, List.lookup_cons, and_assoc, pick_and, pick_or, if_and, if_or, F103, F108, F109, F110, obF, boxP, sOb, nOb, hi, ho, hoC, hI, hIC, hlf, hd, hl0, hl9, hO, j1, j2, lnM, pickOkN, nI_len, ba_sz, szL, szS, OpOk, eBuildSlice, eAppend, srcRows, srcOk, chunk]
      refine ⟨by omega, by omega, ?_⟩
      refine drawP_x _ [(0, 0), (1, 0), (2, 0), (3, 0), (4, 0), (5, 0), (6, 0), (7, 0), (8, 0), (9, 0), (10, 0)] [10] (by decide) ?_
      simp -implicitDefEqProofs [List.lookup_cons, and_assoc, pick_and, pick_or, if_and, if_or, F103, F108, F109, F110, obF, boxP, sOb, nOb, hi, ho, hoC, hI, hIC, hlf, hd, hl0, hl9, hO, j1, j2, lnM, pickOkN, nI_len, ba_sz, szL, szS, OpOk, eBuildSlice, eAppend, srcRows, srcOk, chunk]
      repeat refine ⟨by omega, ?_⟩
      refine drawP_x _ [(0, 0), (1, 0), (2, 0), (3, 0), (4, 0), (5, 0), (6, 0), (7, 0), (8, 0), (9, 0), (10, 0), (11, 0)] [11] (by decide) ?_
      simp -implicitDefEqProofs [List.lookup_cons, and_assoc, pick_and, pick_or, if_and, if_or, F103, F108, F109, F110, obF, boxP, sOb, nOb, hi, ho, hoC, hI, hIC, hlf, hd, hl0, hl9, hO, j1, j2, lnM, pickOkN, nI_len, ba_sz, szL, szS, OpOk, eBuildSlice, eAppend, srcRows, srcOk, chunk, hif, hil]
      refine drawP_x _ [(0, 0), (1, 0), (2, 0), (3, 0), (4, 0), (5, 0), (6, 0), (7, 0), (8, 0), (9, 0), (10, 0), (11, 0)] [11] (by decide) ?_
      simp -implicitDefEqProofs [List.lookup_cons, and_assoc, pick_and, pick_or, if_and, if_or, F103, F108, F109, F110, obF, boxP, sOb, nOb, hi, ho, hoC, hI, hIC, hlf, hd, hl0, hl9, hO, j1, j2, lnM, pickOkN, nI_len, ba_sz, szL, szS, OpOk, eBuildSlice, eAppend, srcRows, srcOk, chunk, hif, hil]
      refine finN [0, 1, 2, 3, 4] [0, 1, 1, 0, 0] (by simp [pickOkN]) (by simp [upd, tl_cons]) ?_
      simp [obG, boxP, sOb, nOb, one, leafP, ho1, hll]
      rw [← hl1]
      unfold lnL
      rw [atC_eq hi]
    · -- one with children
      have hkn : ∃ k, k ∈ kids c.cls i c.cls.length := by
        rcases hks : kids c.cls i c.cls.length with _ | ⟨k, ks⟩
        · exact absurd (leaf_kids.2 hks) hlf
        · exact ⟨k, by simp⟩
      obtain ⟨k0, hk0⟩ := hkn
      have hd0 := dp_kid T hi (mem_kids.1 hk0).1 (mem_kids.1 hk0).2
      have hd8 := dp_le T (mem_kids.1 hk0).1
      obtain ⟨m, rfl⟩ : ∃ m, n = m + 1 := ⟨n - 1, by omega⟩
      have hroom := fold_room T (n := m) (lv := lv) hi (by omega) (openP c i lv s)
      have hmem : ∀ k ∈ kids c.cls i c.cls.length, k < c.cls.length ∧ dp c.cls k = dp c.cls i + 1 := fun k hk => ⟨(mem_kids.1 hk).1, dp_kid T hi (mem_kids.1 hk).1 (mem_kids.1 hk).2⟩
      have hseq := size_eq T hi
      rw [if_neg hlf] at hseq
      have hweq : (walk c.cls i).length = 1 + ((kids c.cls i c.cls.length).map fun k => (walk c.cls k).length).sum := by rw [walk_eq T hi, List.length_cons, List.length_flatMap]; omega
      have hP : partN c (m + 1 + 1 - 1) i lv s = closeP i lv ((kids c.cls i c.cls.length).foldl (fun t k => partN c m k (lv + 1) t) (openP c i lv s)) := by
        show partN c (m + 1) i lv s = _
        simp only [partN, hlf, if_false, Bool.false_eq_true]
      have hst := sum_take_le (kids c.cls i c.cls.length)
      have hkl := kids_len c.cls i c.cls.length
      rw [hP]
      obtain ⟨l1, hl1⟩ : ∃ l1, s.lines ++ [indB lv ++ (headB c.cls[i] ++ ⟨#[32, 123]⟩)] = l1 := ⟨_, rfl⟩
      have hts : (headB c.cls[i] ++ ⟨#[32, 123]⟩).size ≤ 2097152 := by
        simp only [ByteArray.size_append, szO]
        omega
      have j1 := lnP c s.lines o1 s.first s.last lv _ hlv9 hts (by omega)
      have j2 := lnR c s.lines l1 o1 s.first s.last lv _ hl1
      have hll : l1.length = s.lines.length + 1 := by rw [← hl1]; simp
      obtain ⟨s0, hs0⟩ : ∃ s0, openP c i lv s = s0 := ⟨_, rfl⟩
      have e0 : s0.lines = l1 := by rw [← hs0, ← hl1]; simp only [openP, lnO]; rw [atC_eq hi]
      have e1 : s0.order = o1 := by rw [← hs0, ← ho1]; rfl
      have e2 : s0.first = s.first.set i (l1.length : Int) := by rw [← hs0, hll]; simp only [openP]; simp
      have e3 : s0.last = s.last := by rw [← hs0]; rfl
      rw [hs0] at hroom ⊢
      generalize hK : kids c.cls i c.cls.length = ks at hroom hmem hseq hweq hst hkl ⊢
      have hnl := nI_len ks
      have hf2 : s0.first.length = c.cls.length := by rw [e2]; simp [hf]
      have hl2 : s0.last.length = c.cls.length := by rw [e3, hl]
      have ho2 : s0.order.length = s.order.length + 1 := by rw [e1, ← ho1]; simp
      have hs0l : s0.lines.length = l1.length := by rw [e0]
      have hlim := cfg_lim hg
      simp -implicitDefEqProofs [Tryz.f86, List.lookup_cons, and_assoc, pick_and, pick_or, if_and, if_or, F103, F108, F109, F110, obF, boxP, sOb, nOb, hi, ho, hoC, hI, hIC, hlf, hd, hl0, hl9, hO, j1, j2, lnM, pickOkN, nI_len, ba_sz, szL, szS, OpOk, eBuildSlice, eAppend, srcRows, srcOk, chunk, szO]
      refine ⟨by omega, by omega, ?_⟩
      repeat refine ⟨by omega, ?_⟩
      refine drawP_x _ [(0, 0), (1, 0), (2, 0), (3, 0), (4, 0), (5, 0), (6, 0), (7, 0), (8, 0), (9, 0), (10, 0), (11, 0)] [11] (by decide) ?_
      simp -implicitDefEqProofs [List.lookup_cons, and_assoc, pick_and, pick_or, if_and, if_or, F103, F108, F109, F110, obF, boxP, sOb, nOb, hi, ho, hoC, hI, hIC, hlf, hd, hl0, hl9, hO, j1, j2, lnM, pickOkN, nI_len, ba_sz, szL, szS, OpOk, eBuildSlice, eAppend, srcRows, srcOk, chunk, szO, hif, hil, hK, iOb]
      refine loopP_inv (fun k : Nat => ⟨103, tl [(0, .optr 0 0 0 0), (1, I i), (2, I lv), (77, .osl 5 0), (78, I ks.length), (79, I k), (1000, .pin 0 0 u0), (1003, .pin 3 0 u3), (1004, .pin 4 0 u4)], obF c ((ks.take k).foldl (fun t k => partN c m k (lv + 1) t) s0) ++ [⟨3, 1, 0, iR (nI ks), false, true, none⟩]⟩) (fun k => k ≤ ks.length) (fun k => ks.length - k) 0 (Nat.zero_le _) ?_ ?_
      · refine Wk.tlPN [0, 1, 2, 3, 4, 7] (by simp [pickOkN]) ?_ ?_
        · simp [obF, boxP, sOb, nOb, e0, e1, e2, e3]
        · simp [hold, upd, tl_cons]
      intro k hk
      obtain ⟨r1, r2, r3, r4⟩ := hroom k hk
      by_cases h : k < ks.length
      · obtain ⟨m1, m2⟩ := hmem ks[k] (List.getElem_mem h)
        have hw := w64n (show k < 4611686018427387904 by omega)
        have hwl := w64n (show lv < 4611686018427387904 by omega)
        have hsum := sum_take ks (size c.cls) k h
        have hsum2 := sum_take ks (fun k => (walk c.cls k).length) k h
        have hle1 := hst (size c.cls) (k + 1)
        have hle2 := hst (fun k => (walk c.cls k).length) (k + 1)
        have hft := fold_take (f := fun t k => partN c m k (lv + 1) t) ks s0 k h
        obtain ⟨q, hq⟩ : ∃ q, (ks.take k).foldl (fun t k => partN c m k (lv + 1) t) s0 = q := ⟨_, rfl⟩
        rw [hq] at r1 r2 r3 r4 hft ⊢
        obtain ⟨q', hq'⟩ : ∃ q', partN c m ks[k] (lv + 1) q = q' := ⟨_, rfl⟩
        rw [hq'] at hft
        have p1 := ptP (m + 1) c q ks[k] lv ho hg m1 (by omega) (by omega) (by omega) (by omega) (by omega) (by omega)
        have p2 := ptR (m + 1) c q q' ks[k] lv hq'
        simp -implicitDefEqProofs [List.lookup_cons, and_assoc, pick_and, pick_or, if_and, if_or, F103, F108, F109, F110, obF, boxP, sOb, nOb, hi, ho, hoC, hI, hIC, hlf, hd, hl0, hl9, hO, lnM, pickOkN, nI_len, ba_sz, szL, szS, OpOk, eBuildSlice, eAppend, srcRows, srcOk, chunk, h, hnl, nI_get, p1, p2, ptM, hwl]
        refine ⟨k + 1, by omega, by omega, ?_⟩
        rw [hft]
        refine Wk.tlPN [0, 1, 2, 3, 4, 5] (by simp [pickOkN]) ?_ ?_
        · simp [obF, boxP, sOb, nOb]
        · simp [hold, upd, tl_cons, hw]
      · have e : k = ks.length := by omega
        subst e
        rw [List.take_length] at r1 r2 r3 r4 ⊢
        obtain ⟨q, hq⟩ : ∃ q, ks.foldl (fun t k => partN c m k (lv + 1) t) s0 = q := ⟨_, rfl⟩
        rw [hq] at r1 r2 r3 r4 ⊢
        have hle1 := hst (size c.cls) ks.length
        obtain ⟨l2, hl2'⟩ : ∃ l2, q.lines ++ [indB lv ++ ⟨#[125]⟩] = l2 := ⟨_, rfl⟩
        have j3 := lnP c q.lines q.order q.first q.last lv ⟨#[125]⟩ hlv9 (by rw [szC]; omega) (by omega)
        have j4 := lnR c q.lines l2 q.order q.first q.last lv _ hl2'
        have hll2 : l2.length = q.lines.length + 1 := by rw [← hl2']; simp
        have hqa : i < q.last.length := by omega
        simp -implicitDefEqProofs [List.lookup_cons, and_assoc, pick_and, pick_or, if_and, if_or, F103, F108, F109, F110, obF, boxP, sOb, nOb, hi, ho, hoC, hI, hIC, hlf, hd, hl0, hl9, hO, lnM, pickOkN, nI_len, ba_sz, szL, szS, OpOk, eBuildSlice, eAppend, srcRows, srcOk, chunk, hnl, j3, j4]
        refine drawP_x _ [(0, 0), (1, 0), (2, 0), (3, 0), (4, 0), (5, 0), (6, 0), (7, 0), (8, 0), (9, 0), (10, 0), (11, 0)] [11] (by decide) ?_
        simp -implicitDefEqProofs [List.lookup_cons, and_assoc, pick_and, pick_or, if_and, if_or, F103, F108, F109, F110, obF, boxP, sOb, nOb, hi, ho, hoC, hI, hIC, hlf, hd, hl0, hl9, hO, lnM, pickOkN, nI_len, ba_sz, szL, szS, OpOk, eBuildSlice, eAppend, srcRows, srcOk, chunk, hqa]
        refine finN [0, 1, 2, 3, 4] [0, 1, 1, 0, 0] (by simp [pickOkN]) (by simp [upd, tl_cons]) ?_
        simp [obG, boxP, sOb, nOb, one, closeP, hll2]
        rw [← hl2']
        rfl
end Go.Proofs
