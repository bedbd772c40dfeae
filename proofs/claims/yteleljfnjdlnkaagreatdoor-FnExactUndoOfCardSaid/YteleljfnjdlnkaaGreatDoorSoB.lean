/-
  What is proved here: the contract of the library's merge in place at Cls. Condition: none.
  What is proved here: contracts of the library's stable sort at Cls. Condition: none.
-/
import Derived.Test.YteleljfnjdlnkaaGreatDoorSoA
namespace Go.Proofs
open Go.Abs Go.Srt
set_option linter.unusedSimpArgs false
set_option linter.unnecessarySimpa false
set_option linter.unusedVariables false
set_option maxHeartbeats 8000000
set_option maxRecDepth 20000

theorem wu64 {n : Int} (h0 : 0 ≤ n) (h1 : n < 18446744073709551616) : IntKind.u64.wrap n = n := by
  simp [IntKind.wrap, IntKind.bits, IntKind.signed]
  omega
theorem fd2 (i j : Nat) : ((i : Int) + j).fdiv 2 = (((i + j) / 2 : Nat) : Int) := by
  rw [Int.fdiv_eq_ediv_of_nonneg _ (by omega)]
  omega
theorem mu130 : M130.mu = [true] := rfl
theorem pre130 (l : List Cls) (a m b : Nat) (h1 : a < m) (h2 : m < b) (h3 : b ≤ l.length) (h4 : l.length ≤ 1000) : M130.pre [.osl 0 0, I a, I m, I b, .fn 104 []] [⟨58, 8, 0, tR l, false, true, none⟩] := ⟨l, a, m, b, rfl, rfl, h1, h2, h3, h4⟩
theorem res130 (l : List Cls) (a m b : Nat) : M130.res [.osl 0 0, I a, I m, I b, .fn 104 []] [⟨58, 8, 0, tR l, false, true, none⟩] = (.tup [], [⟨58, 8, 0, tR (rot l a m b), false, true, none⟩]) := by
  simp [M130, obCls, nACls, lOCls]
def MWCls (n : Nat) : MFun := ⟨[true], fun xs obs => ∃ (l : List Cls) (a m b : Nat), xs = [.osl 0 0, I a, I m, I b, .fn 104 []] ∧ obs = [obCls l] ∧ a < m ∧ m < b ∧ b ≤ l.length ∧ l.length ≤ 1000 ∧ b - a ≤ n,
  fun xs obs => (.tup [], [obCls (sym Cls.z ltCls (nACls xs 1) (nACls xs 2) (nACls xs 3) (lOCls obs))])⟩
theorem muWCls (n : Nat) : (MWCls n).mu = [true] := rfl
theorem preWCls (n : Nat) (l : List Cls) (a m b : Nat) (h1 : a < m) (h2 : m < b) (h3 : b ≤ l.length) (h4 : l.length ≤ 1000) (h5 : b - a ≤ n) : (MWCls n).pre [.osl 0 0, I a, I m, I b, .fn 104 []] [⟨58, 8, 0, tR l, false, true, none⟩] := ⟨l, a, m, b, rfl, rfl, h1, h2, h3, h4, h5⟩
theorem resWCls (n : Nat) (l : List Cls) (a m b : Nat) : (MWCls n).res [.osl 0 0, I a, I m, I b, .fn 104 []] [⟨58, 8, 0, tR l, false, true, none⟩] = (.tup [], [⟨58, 8, 0, tR (sym Cls.z ltCls a m b l), false, true, none⟩]) := by
  simp [MWCls, obCls, nACls, lOCls]
theorem atXCls (L : List Cls) (i : Nat) (h : i < L.length) (x : Cls) (hx : x = L.getD i Cls.z) : ∀ h', L[i]'(h') = x := fun h' => by rw [hx]; exact geCls L i h'
set_option maxHeartbeats 32000000
theorem mWCls : ∀ n, GenMA K Tryz.prog 126 (MWCls n)
  | 0 => by
    refine contractMA Tryz.mix K [] [] (by simp) (by simp) Tryz.func126 rfl (by decide) ?_
    rintro xs obs us ⟨l, a, m, b, rfl, rfl, h1, h2, h3, h4, h5⟩ hu
    omega
  | n + 1 => by
    refine contractMA Tryz.mix K [(104, F104)] [(130, M130), (126, MWCls n)] (by simp [c104]) (by simp [m130, mWCls n]) Tryz.func126 rfl (by decide) ?_
    rintro xs obs us ⟨l, a, m, b, rfl, rfl, h1, h2, h3, h4, h5⟩ hu
    obtain ⟨u, rfl⟩ : ∃ u, us = [u] := by simpa [List.length_eq_one_iff] using hu
    refine ⟨⟨by rw [Tryz.ntmps126]; simp, by simp, fun k ob hob => ?_⟩, ?_⟩
    · obtain ⟨rfl, rfl⟩ := oneCls l k ob hob
      exact ⟨_, rfl, rfl, rfl, rfl, rfl, rfl⟩
    by_cases k1 : m = a + 1
    · -- one stands in front
      have hsy := sym_a Cls.z ltCls a m b l k1
      have w1 : IntKind.i64.wrap ((m : Int) - a) = 1 := by rw [w64 (by omega) (by omega)]; omega
      obtain ⟨x, hx⟩ : ∃ x, x = l.getD a Cls.z := ⟨_, rfl⟩
      have hx' := atXCls l a (by omega) x hx
      rw [← hx] at hsy
      obtain ⟨z1, z2, _⟩ := bs_all (fun h => ltCls (l.getD h Cls.z) x) _ m b (Nat.le_refl _) (by omega)
      simp -implicitDefEqProofs [Tryz.f126, List.lookup_cons, and_assoc, pick_and, pick_or, if_and, if_or, w1, obCls]
      refine loopP_inv (fun s : Nat × Nat => ⟨220, tl [(0, .osl 0 0), (1, I a), (2, I m), (3, I b), (4, .fn 104 []), (10, I s.1), (11, I s.2), (1000, .pin 0 0 u)], [obCls l]⟩)
        (fun s => m ≤ s.1 ∧ s.1 ≤ s.2 ∧ s.2 ≤ b ∧ bs (fun h => ltCls (l.getD h Cls.z) x) s.1 s.2 = bs (fun h => ltCls (l.getD h Cls.z) x) m b) (fun s => s.2 - s.1) (m, b) ⟨Nat.le_refl _, by simp only; omega, Nat.le_refl _, rfl⟩ (Wk.tl (by simp [hold, upd, tl_cons])) ?_
      rintro ⟨i, j⟩ ⟨c1, c2, c3, c4⟩
      simp only at c1 c2 c3 c4
      by_cases h : i < j
      · obtain ⟨q, hq⟩ : ∃ q, q = (i + j) / 2 := ⟨_, rfl⟩
        have g1 : q < l.length := by omega
        have g2 : a < l.length := by omega
        have v1 : IntKind.i64.wrap ((i : Int) + j) = (i : Int) + j := w64 (by omega) (by omega)
        have v2 : IntKind.u64.wrap ((i : Int) + j) = (i : Int) + j := wu64 (by omega) (by omega)
        have v3 : ((i : Int) + j).fdiv (2 ^ min 1 IntKind.u64.bits) = (q : Int) := by rw [hq]; exact fd2 i j
        have v4 : IntKind.i64.wrap (q : Int) = (q : Int) := w64 (by omega) (by omega)
        have v5 := w64n (show q < 4611686018427387904 by omega)
        obtain ⟨y, hy⟩ : ∃ y, y = l.getD q Cls.z := ⟨_, rfl⟩
        have hy' := atXCls l q g1 y hy
        have e1 := bs_yes (fun h => ltCls (l.getD h Cls.z) x) h
        have e2 := bs_no (fun h => ltCls (l.getD h Cls.z) x) h
        simp only [← hq, ← hy] at e1 e2
        simp -implicitDefEqProofs [List.lookup_cons, and_assoc, pick_and, pick_or, if_and, if_or, h, obCls, eConv, v1, v2, v3, v4]
        refine drawP_all _ (by decide) ?_
        by_cases hlt : y.id < x.id
        · have e3 := e1 (by simp [ltCls, hlt])
          rw [c4] at e3
          simp -implicitDefEqProofs [List.lookup_cons, and_assoc, pick_and, pick_or, if_and, if_or, g1, g2, hx', hy', F104, hlt, v5]
          refine ⟨q + 1, by omega, j, by omega, c3, e3.symm, by omega, ?_⟩
          exact Wk.tl (by simp [hold, upd, tl_cons])
        · have e3 := e2 (by simp [ltCls, hlt])
          rw [c4] at e3
          simp -implicitDefEqProofs [List.lookup_cons, and_assoc, pick_and, pick_or, if_and, if_or, g1, g2, hx', hy', F104, hlt, v5]
          refine ⟨i, c1, q, by omega, by omega, e3.symm, by omega, ?_⟩
          exact Wk.tl (by simp [hold, upd, tl_cons])
      · have hij : i = j := by omega
        subst hij
        rw [bs_end _ (by omega)] at c4
        rw [← c4] at hsy z1 z2
        obtain ⟨p, hp⟩ : ∃ p, p = i - 1 := ⟨_, rfl⟩
        have v1 : IntKind.i64.wrap ((i : Int) - 1) = (p : Int) := by rw [w64 (by omega) (by omega)]; omega
        simp -implicitDefEqProofs [List.lookup_cons, and_assoc, pick_and, pick_or, if_and, if_or, obCls]
        refine loopP_inv (fun k : Nat => ⟨220, tl [(0, .osl 0 0), (1, I a), (2, I m), (3, I b), (4, .fn 104 []), (10, I i), (13, I k), (1000, .pin 0 0 u)], [obCls (rot l a (a + 1) (k + 1))]⟩)
          (fun k => a ≤ k ∧ k ≤ p) (fun k => p - k) a ⟨Nat.le_refl _, by omega⟩ ?_ ?_
        · simp only [rot_one l a (show a < l.length by omega)]
          exact Wk.tl (by simp [hold, upd, tl_cons])
        rintro k ⟨d1, d2⟩
        have hln := rot_len l a (a + 1) (k + 1) (by omega) (by omega) (by omega)
        by_cases h : k < p
        · have hup := rot_up Cls.z l a k d1 (by omega)
          generalize rot l a (a + 1) (k + 1) = L at *
          obtain ⟨x, hx⟩ : ∃ x, x = L.getD k Cls.z := ⟨_, rfl⟩
          obtain ⟨y, hy⟩ : ∃ y, y = L.getD (k + 1) Cls.z := ⟨_, rfl⟩
          obtain ⟨q, hq⟩ : ∃ q, q = k + 1 := ⟨_, rfl⟩
          have v2 : IntKind.i64.wrap ((k : Int) + 1) = (q : Int) := by rw [w64 (by omega) (by omega)]; omega
          rw [← hq] at hy
          have g1 : k < l.length := by omega
          have g2 : q < l.length := by omega
          have hx' := atXCls L k (by omega) x hx
          have hy' := atXCls L q (by omega) y hy
          have hs : tR (rot l a (a + 1) (k + 2)) = tR ((L.set k y).set q x) := by
            rw [← hup, hx, hy, hq]; rfl
          simp -implicitDefEqProofs [List.lookup_cons, and_assoc, pick_and, pick_or, if_and, if_or, h, v1, v2, obCls]
          refine drawP_x _ [(0, 0), (1, 0), (5, 0), (6, 0), (7, 0), (8, 0), (9, 0), (10, 0), (11, 0), (12, 0), (13, 0), (14, 0), (15, 0), (2, 0), (3, 0), (4, 0), (16, 1), (17, 1)] [15, 17] (by decide) ?_
          simp -implicitDefEqProofs [List.lookup_cons, and_assoc, pick_and, pick_or, if_and, if_or, v2, g1, g2, hln, hx', hy', sCls, rCls, tCls, dCls, tR_set, getSet_ne, show q ≠ k by omega, show k ≠ q by omega]
          refine ⟨q, by omega, by omega, by omega, ?_⟩
          rw [show q + 1 = k + 2 by omega, hs]
          exact Wk.tl (by simp [hold, upd, tl_cons])
        · have hkp : k + 1 = i := by omega
          rw [hkp, ← hsy]
          have hnk : ¬ (k : Int) < p := by omega
          simp -implicitDefEqProofs [List.lookup_cons, and_assoc, pick_and, pick_or, if_and, if_or, h, v1, hnk, obCls]
          refine finM1 0 [] (obCls (sym Cls.z ltCls a m b l)) (by simp [pickOk, -List.all_eq_true, tR_ok]) (by simp [obCls]) (by simp [obCls, upd, tl_cons]) ?_
          simp -implicitDefEqProofs [pur2_i, pur2_b, pur2_s, pur2_nil, pur2_sl, pur2_tup, rn2_tup, rn2_agg, rn2_osl, rn1_v, rn1_osl, rn1_agg, rn0_v, rn0_sl, rn0, pickObs, pur_v, pur_b, pur_s, pur_nil, pur_sl, deI, deIs_sl, MWCls, obCls, nACls, lOCls, one, rn2]
    by_cases k2 : b = m + 1
    · -- one stands behind
      have hsy := sym_b Cls.z ltCls a m b l k1 k2
      have w1 : ¬ IntKind.i64.wrap ((m : Int) - a) = 1 := by rw [w64 (by omega) (by omega)]; omega
      have w2 : IntKind.i64.wrap ((b : Int) - m) = 1 := by rw [w64 (by omega) (by omega)]; omega
      obtain ⟨x, hx⟩ : ∃ x, x = l.getD m Cls.z := ⟨_, rfl⟩
      have hx' := atXCls l m (by omega) x hx
      rw [← hx] at hsy
      obtain ⟨z1, z2, _⟩ := bs_all (fun h => !ltCls x (l.getD h Cls.z)) _ a m (Nat.le_refl _) (by omega)
      simp -implicitDefEqProofs [Tryz.f126, List.lookup_cons, and_assoc, pick_and, pick_or, if_and, if_or, w1, w2, obCls]
      refine loopP_inv (fun s : Nat × Nat => ⟨220, tl [(0, .osl 0 0), (1, I a), (2, I m), (3, I b), (4, .fn 104 []), (14, I s.1), (15, I s.2), (1000, .pin 0 0 u)], [obCls l]⟩)
        (fun s => a ≤ s.1 ∧ s.1 ≤ s.2 ∧ s.2 ≤ m ∧ bs (fun h => !ltCls x (l.getD h Cls.z)) s.1 s.2 = bs (fun h => !ltCls x (l.getD h Cls.z)) a m) (fun s => s.2 - s.1) (a, m) ⟨Nat.le_refl _, by simp only; omega, Nat.le_refl _, rfl⟩ (Wk.tl (by simp [hold, upd, tl_cons])) ?_
      rintro ⟨i, j⟩ ⟨c1, c2, c3, c4⟩
      simp only at c1 c2 c3 c4
      by_cases h : i < j
      · obtain ⟨q, hq⟩ : ∃ q, q = (i + j) / 2 := ⟨_, rfl⟩
        have g1 : q < l.length := by omega
        have g2 : m < l.length := by omega
        have v1 : IntKind.i64.wrap ((i : Int) + j) = (i : Int) + j := w64 (by omega) (by omega)
        have v2 : IntKind.u64.wrap ((i : Int) + j) = (i : Int) + j := wu64 (by omega) (by omega)
        have v3 : ((i : Int) + j).fdiv (2 ^ min 1 IntKind.u64.bits) = (q : Int) := by rw [hq]; exact fd2 i j
        have v4 : IntKind.i64.wrap (q : Int) = (q : Int) := w64 (by omega) (by omega)
        have v5 := w64n (show q < 4611686018427387904 by omega)
        obtain ⟨y, hy⟩ : ∃ y, y = l.getD q Cls.z := ⟨_, rfl⟩
        have hy' := atXCls l q g1 y hy
        have e1 := bs_yes (fun h => !ltCls x (l.getD h Cls.z)) h
        have e2 := bs_no (fun h => !ltCls x (l.getD h Cls.z)) h
        simp only [← hq, ← hy] at e1 e2
        simp -implicitDefEqProofs [List.lookup_cons, and_assoc, pick_and, pick_or, if_and, if_or, h, obCls, eConv, v1, v2, v3, v4]
        refine drawP_all _ (by decide) ?_
        by_cases hlt : x.id < y.id
        · have e3 := e2 (by simp [ltCls, hlt])
          rw [c4] at e3
          simp -implicitDefEqProofs [List.lookup_cons, and_assoc, pick_and, pick_or, if_and, if_or, g1, g2, hx', hy', F104, hlt, v5]
          refine ⟨i, c1, q, by omega, by omega, e3.symm, by omega, ?_⟩
          exact Wk.tl (by simp [hold, upd, tl_cons])
        · have e3 := e1 (by simp [ltCls, hlt])
          rw [c4] at e3
          simp -implicitDefEqProofs [List.lookup_cons, and_assoc, pick_and, pick_or, if_and, if_or, g1, g2, hx', hy', F104, hlt, v5]
          refine ⟨q + 1, by omega, j, by omega, c3, e3.symm, by omega, ?_⟩
          exact Wk.tl (by simp [hold, upd, tl_cons])
      · have hij : i = j := by omega
        subst hij
        rw [bs_end _ (by omega)] at c4
        rw [← c4] at hsy z1 z2
        simp -implicitDefEqProofs [List.lookup_cons, and_assoc, pick_and, pick_or, if_and, if_or, obCls]
        refine loopP_inv (fun k : Nat => ⟨220, tl [(0, .osl 0 0), (1, I a), (2, I m), (3, I b), (4, .fn 104 []), (14, I i), (17, I k), (1000, .pin 0 0 u)], [obCls (rot l k m (m + 1))]⟩)
          (fun k => i ≤ k ∧ k ≤ m) (fun k => k) m ⟨by omega, Nat.le_refl _⟩ ?_ ?_
        · simp only [rot_none l m (show m < l.length by omega)]
          exact Wk.tl (by simp [hold, upd, tl_cons])
        rintro k ⟨d1, d2⟩
        have hln := rot_len l k m (m + 1) (by omega) (by omega) (by omega)
        by_cases h : i < k
        · obtain ⟨q, hq⟩ : ∃ q, q = k - 1 := ⟨_, rfl⟩
          have hdn := rot_dn Cls.z l m q (by omega) (by omega)
          rw [show q + 1 = k by omega] at hdn
          generalize rot l k m (m + 1) = L at *
          obtain ⟨x, hx⟩ : ∃ x, x = L.getD k Cls.z := ⟨_, rfl⟩
          obtain ⟨y, hy⟩ : ∃ y, y = L.getD q Cls.z := ⟨_, rfl⟩
          have v2 : IntKind.i64.wrap ((k : Int) - 1) = (q : Int) := by rw [w64 (by omega) (by omega)]; omega
          have g1 : k < l.length := by omega
          have g2 : q < l.length := by omega
          have hx' := atXCls L k (by omega) x hx
          have hy' := atXCls L q (by omega) y hy
          have hs : tR (rot l q m (m + 1)) = tR ((L.set k y).set q x) := by
            rw [← hdn, hx, hy]; rfl
          simp -implicitDefEqProofs [List.lookup_cons, and_assoc, pick_and, pick_or, if_and, if_or, h, v2, obCls]
          refine drawP_x _ [(0, 0), (1, 0), (5, 0), (6, 0), (7, 0), (8, 0), (9, 0), (10, 0), (11, 0), (12, 0), (13, 0), (14, 0), (15, 0), (2, 0), (3, 0), (4, 0), (16, 1), (17, 1)] [15, 17] (by decide) ?_
          simp -implicitDefEqProofs [List.lookup_cons, and_assoc, pick_and, pick_or, if_and, if_or, v2, g1, g2, hln, hx', hy', sCls, rCls, tCls, dCls, tR_set, getSet_ne, show q ≠ k by omega, show k ≠ q by omega]
          refine ⟨q, by omega, by omega, by omega, ?_⟩
          rw [hs]
          exact Wk.tl (by simp [hold, upd, tl_cons])
        · have hkp : k = i := by omega
          subst hkp
          rw [← hsy]
          simp -implicitDefEqProofs [List.lookup_cons, and_assoc, pick_and, pick_or, if_and, if_or, obCls]
          refine finM1 0 [] (obCls (sym Cls.z ltCls a m b l)) (by simp [pickOk, -List.all_eq_true, tR_ok]) (by simp [obCls]) (by simp [obCls, upd, tl_cons]) ?_
          simp -implicitDefEqProofs [pur2_i, pur2_b, pur2_s, pur2_nil, pur2_sl, pur2_tup, rn2_tup, rn2_agg, rn2_osl, rn1_v, rn1_osl, rn1_agg, rn0_v, rn0_sl, rn0, pickObs, pur_v, pur_b, pur_s, pur_nil, pur_sl, deI, deIs_sl, MWCls, obCls, nACls, lOCls, one, rn2]
    -- both halves are long
    have hsy := sym_c Cls.z ltCls a m b l k1 k2
    have w1 : ¬ IntKind.i64.wrap ((m : Int) - a) = 1 := by rw [w64 (by omega) (by omega)]; omega
    have w2 : ¬ IntKind.i64.wrap ((b : Int) - m) = 1 := by rw [w64 (by omega) (by omega)]; omega
    obtain ⟨mid, hmid⟩ : ∃ q, q = (a + b) / 2 := ⟨_, rfl⟩
    obtain ⟨N, hN⟩ : ∃ q, q = mid + m := ⟨_, rfl⟩
    obtain ⟨N1, hN1⟩ : ∃ q, q = N - 1 := ⟨_, rfl⟩
    have v1 : IntKind.i64.wrap ((a : Int) + b) = (a : Int) + b := w64 (by omega) (by omega)
    have v2 : IntKind.u64.wrap ((a : Int) + b) = (a : Int) + b := wu64 (by omega) (by omega)
    have v3 : ((a : Int) + b).fdiv (2 ^ min 1 IntKind.u64.bits) = (mid : Int) := by rw [hmid]; exact fd2 a b
    have v4 : IntKind.i64.wrap (mid : Int) = (mid : Int) := w64 (by omega) (by omega)
    have v5 : IntKind.i64.wrap ((mid : Int) + m) = (N : Int) := by rw [w64 (by omega) (by omega)]; omega
    have v6 : IntKind.i64.wrap ((N : Int) - 1) = (N1 : Int) := by rw [w64 (by omega) (by omega)]; omega
    obtain ⟨b1, b2, b3, b4, b5⟩ := cutS_bd Cls.z ltCls l h1 h2
    obtain ⟨S, hS⟩ : ∃ q, q = cutS Cls.z ltCls a m b l := ⟨_, rfl⟩
    obtain ⟨e, he⟩ : ∃ q, q = N - S := ⟨_, rfl⟩
    rw [← hS, ← hmid, ← hN, ← he] at hsy
    rw [← hS] at b1 b2
    rw [← hS, ← hmid] at b3
    rw [← hS, ← hmid, ← hN, ← he] at b4 b5
    have v7 : IntKind.i64.wrap ((N : Int) - S) = (e : Int) := by rw [w64 (by omega) (by omega)]; omega
    have h5 : (m < e) = (S < mid) := propext ⟨fun _ => by omega, fun _ => by omega⟩
    have h6 : (mid < e) = (S < m) := propext ⟨fun _ => by omega, fun _ => by omega⟩
    have q1 : S < m → S < mid → M130.pre [.osl 0 0, I S, I m, I e, .fn 104 []] [⟨58, 8, 0, tR l, false, true, none⟩] := fun x1 x2 => pre130 l S m e x1 (by omega) (by omega) (by omega)
    have q2 := res130 l S m e
    have p1 : ∀ L : List Cls, L.length = l.length → a < S → S < mid → (MWCls n).pre [.osl 0 0, I a, I S, I mid, .fn 104 []] [⟨58, 8, 0, tR L, false, true, none⟩] := fun L hL x1 x2 => preWCls n L a S mid x1 x2 (by omega) (by omega) (by omega)
    have p2 := fun L : List Cls => resWCls n L a S mid
    have r1 : ∀ L : List Cls, L.length = l.length → S < m → e < b → (MWCls n).pre [.osl 0 0, I mid, I e, I b, .fn 104 []] [⟨58, 8, 0, tR L, false, true, none⟩] := fun L hL x1 x2 => preWCls n L mid e b (by omega) x2 (by omega) (by omega) (by omega)
    have r2 := fun L : List Cls => resWCls n L mid e b
    have hrl : (rot l S m e).length = l.length := rot_len l S m e (by omega) (by omega) (by omega)
    have hsl : ∀ L : List Cls, L.length = l.length → a < S → S < mid → (sym Cls.z ltCls a S mid L).length = l.length := fun L hL x1 x2 => by
      rw [← hL]
      exact (sym_all Cls.z (fun x : Cls => x.id) _ a S mid L (Nat.le_refl _) x1 x2 (by omega)).1.length_eq
    by_cases hmm : mid < m
    · obtain ⟨s0, hs0⟩ : ∃ q, q = N - b := ⟨_, rfl⟩
      obtain ⟨r0, hr0⟩ : ∃ q, q = mid := ⟨_, rfl⟩
      have w3 : IntKind.i64.wrap ((N : Int) - b) = (s0 : Int) := by rw [w64 (by omega) (by omega)]; omega
      have hcut : S = bs (fun c => !ltCls (l.getD (N1 - c) Cls.z) (l.getD c Cls.z)) s0 r0 := by
        rw [hS, cutS, if_pos (by omega), if_pos (by omega), ← hmid, ← hN, ← hN1, hs0, hr0]
      simp -implicitDefEqProofs [Tryz.f126, List.lookup_cons, and_assoc, pick_and, pick_or, if_and, if_or, w1, w2, eConv, v1, v2, v3, v4, v5, v6, hmm, w3, obCls]
      refine loopP_inv (fun s : Nat × Nat => ⟨220, tl [(0, .osl 0 0), (1, I a), (2, I m), (3, I b), (4, .fn 104 []), (18, I mid), (19, I N), (20, I s.1), (21, I s.2), (22, I N1), (1000, .pin 0 0 u)], [obCls l]⟩)
        (fun s => s0 ≤ s.1 ∧ s.1 ≤ s.2 ∧ s.2 ≤ r0 ∧ bs (fun c => !ltCls (l.getD (N1 - c) Cls.z) (l.getD c Cls.z)) s.1 s.2 = S) (fun s => s.2 - s.1) (s0, r0) ⟨Nat.le_refl _, by simp only; omega, Nat.le_refl _, hcut.symm⟩ (Wk.tl (by simp [hold, upd, tl_cons, hr0])) ?_
      rintro ⟨i, j⟩ ⟨c1, c2, c3, c4⟩
      simp only at c1 c2 c3 c4
      by_cases h : i < j
      · obtain ⟨q, hq⟩ : ∃ q, q = (i + j) / 2 := ⟨_, rfl⟩
        obtain ⟨p, hp⟩ : ∃ q', q' = N1 - q := ⟨_, rfl⟩
        have g1 : q < l.length := by omega
        have g2 : p < l.length := by omega
        have v1 : IntKind.i64.wrap ((i : Int) + j) = (i : Int) + j := w64 (by omega) (by omega)
        have v2 : IntKind.u64.wrap ((i : Int) + j) = (i : Int) + j := wu64 (by omega) (by omega)
        have v3 : ((i : Int) + j).fdiv (2 ^ min 1 IntKind.u64.bits) = (q : Int) := by rw [hq]; exact fd2 i j
        have v4 : IntKind.i64.wrap (q : Int) = (q : Int) := w64 (by omega) (by omega)
        have v5 := w64n (show q < 4611686018427387904 by omega)
        have v6 : IntKind.i64.wrap ((N1 : Int) - q) = (p : Int) := by rw [w64 (by omega) (by omega)]; omega
        obtain ⟨x, hx⟩ : ∃ x, x = l.getD p Cls.z := ⟨_, rfl⟩
        have hx' := atXCls l p g2 x hx
        obtain ⟨y, hy⟩ : ∃ y, y = l.getD q Cls.z := ⟨_, rfl⟩
        have hy' := atXCls l q g1 y hy
        have e1 := bs_yes (fun c => !ltCls (l.getD (N1 - c) Cls.z) (l.getD c Cls.z)) h
        have e2 := bs_no (fun c => !ltCls (l.getD (N1 - c) Cls.z) (l.getD c Cls.z)) h
        simp only [← hq, ← hp, ← hy, ← hx] at e1 e2
        simp -implicitDefEqProofs [List.lookup_cons, and_assoc, pick_and, pick_or, if_and, if_or, h, obCls, eConv, v1, v2, v3, v4]
        refine drawP_all _ (by decide) ?_
        by_cases hlt : x.id < y.id
        · have e3 := e2 (by simp [ltCls, hlt])
          rw [c4] at e3
          simp -implicitDefEqProofs [List.lookup_cons, and_assoc, pick_and, pick_or, if_and, if_or, g1, g2, hx', hy', F104, hlt, v5, v6]
          refine ⟨i, c1, q, by omega, by omega, e3.symm, by omega, ?_⟩
          exact Wk.tl (by simp [hold, upd, tl_cons])
        · have e3 := e1 (by simp [ltCls, hlt])
          rw [c4] at e3
          simp -implicitDefEqProofs [List.lookup_cons, and_assoc, pick_and, pick_or, if_and, if_or, g1, g2, hx', hy', F104, hlt, v5, v6]
          refine ⟨q + 1, by omega, j, by omega, c3, e3.symm, by omega, ?_⟩
          exact Wk.tl (by simp [hold, upd, tl_cons])
      · have hij : i = j := by omega
        subst hij
        rw [bs_end _ (by omega)] at c4
        subst c4
        by_cases a1 : i < m <;> by_cases a2 : i < mid <;> by_cases a3 : a < i <;> by_cases a4 : e < b
        all_goals first | (exfalso; omega) | skip
        all_goals
          simp only [sym1, sym2, h5, h6, a1, a2, a3, a4, and_self, and_true, true_and, and_false, false_and, if_true, if_false] at hsy
          simp -implicitDefEqProofs [List.lookup_cons, and_assoc, pick_and, pick_or, if_and, if_or, v7, obCls, h5, h6, a1, a2, a3, a4, mu130, q1, q2, muWCls, p1, p2, r1, r2, hrl, hsl, pickOk, -List.all_eq_true]
          refine finM1 0 [] (obCls (sym Cls.z ltCls a m b l)) (by simp [pickOk, -List.all_eq_true, tR_ok]) (by rw [hsy]; simp [obCls]) (by simp [obCls, upd, tl_cons]) ?_
          simp -implicitDefEqProofs [pur2_i, pur2_b, pur2_s, pur2_nil, pur2_sl, pur2_tup, rn2_tup, rn2_agg, rn2_osl, rn1_v, rn1_osl, rn1_agg, rn0_v, rn0_sl, rn0, pickObs, pur_v, pur_b, pur_s, pur_nil, pur_sl, deI, deIs_sl, MWCls, obCls, nACls, lOCls, one, rn2, hsy]
    · obtain ⟨s0, hs0⟩ : ∃ q, q = a := ⟨_, rfl⟩
      obtain ⟨r0, hr0⟩ : ∃ q, q = m := ⟨_, rfl⟩
      have hcut : S = bs (fun c => !ltCls (l.getD (N1 - c) Cls.z) (l.getD c Cls.z)) s0 r0 := by
        rw [hS, cutS, if_neg (by omega), if_neg (by omega), ← hmid, ← hN, ← hN1, hs0, hr0]
      simp -implicitDefEqProofs [Tryz.f126, List.lookup_cons, and_assoc, pick_and, pick_or, if_and, if_or, w1, w2, eConv, v1, v2, v3, v4, v5, v6, hmm, obCls]
      refine loopP_inv (fun s : Nat × Nat => ⟨220, tl [(0, .osl 0 0), (1, I a), (2, I m), (3, I b), (4, .fn 104 []), (18, I mid), (19, I N), (20, I s.1), (21, I s.2), (22, I N1), (1000, .pin 0 0 u)], [obCls l]⟩)
        (fun s => s0 ≤ s.1 ∧ s.1 ≤ s.2 ∧ s.2 ≤ r0 ∧ bs (fun c => !ltCls (l.getD (N1 - c) Cls.z) (l.getD c Cls.z)) s.1 s.2 = S) (fun s => s.2 - s.1) (s0, r0) ⟨Nat.le_refl _, by simp only; omega, Nat.le_refl _, hcut.symm⟩ (Wk.tl (by simp [hold, upd, tl_cons, hs0, hr0])) ?_
      rintro ⟨i, j⟩ ⟨c1, c2, c3, c4⟩
      simp only at c1 c2 c3 c4
      by_cases h : i < j
      · obtain ⟨q, hq⟩ : ∃ q, q = (i + j) / 2 := ⟨_, rfl⟩
        obtain ⟨p, hp⟩ : ∃ q', q' = N1 - q := ⟨_, rfl⟩
        have g1 : q < l.length := by omega
        have g2 : p < l.length := by omega
        have v1 : IntKind.i64.wrap ((i : Int) + j) = (i : Int) + j := w64 (by omega) (by omega)
        have v2 : IntKind.u64.wrap ((i : Int) + j) = (i : Int) + j := wu64 (by omega) (by omega)
        have v3 : ((i : Int) + j).fdiv (2 ^ min 1 IntKind.u64.bits) = (q : Int) := by rw [hq]; exact fd2 i j
        have v4 : IntKind.i64.wrap (q : Int) = (q : Int) := w64 (by omega) (by omega)
        have v5 := w64n (show q < 4611686018427387904 by omega)
        have v6 : IntKind.i64.wrap ((N1 : Int) - q) = (p : Int) := by rw [w64 (by omega) (by omega)]; omega
        obtain ⟨x, hx⟩ : ∃ x, x = l.getD p Cls.z := ⟨_, rfl⟩
        have hx' := atXCls l p g2 x hx
        obtain ⟨y, hy⟩ : ∃ y, y = l.getD q Cls.z := ⟨_, rfl⟩
        have hy' := atXCls l q g1 y hy
        have e1 := bs_yes (fun c => !ltCls (l.getD (N1 - c) Cls.z) (l.getD c Cls.z)) h
        have e2 := bs_no (fun c => !ltCls (l.getD (N1 - c) Cls.z) (l.getD c Cls.z)) h
        simp only [← hq, ← hp, ← hy, ← hx] at e1 e2
        simp -implicitDefEqProofs [List.lookup_cons, and_assoc, pick_and, pick_or, if_and, if_or, h, obCls, eConv, v1, v2, v3, v4]
        refine drawP_all _ (by decide) ?_
        by_cases hlt : x.id < y.id
        · have e3 := e2 (by simp [ltCls, hlt])
          rw [c4] at e3
          simp -implicitDefEqProofs [List.lookup_cons, and_assoc, pick_and, pick_or, if_and, if_or, g1, g2, hx', hy', F104, hlt, v5, v6]
          refine ⟨i, c1, q, by omega, by omega, e3.symm, by omega, ?_⟩
          exact Wk.tl (by simp [hold, upd, tl_cons])
        · have e3 := e1 (by simp [ltCls, hlt])
          rw [c4] at e3
          simp -implicitDefEqProofs [List.lookup_cons, and_assoc, pick_and, pick_or, if_and, if_or, g1, g2, hx', hy', F104, hlt, v5, v6]
          refine ⟨q + 1, by omega, j, by omega, c3, e3.symm, by omega, ?_⟩
          exact Wk.tl (by simp [hold, upd, tl_cons])
      · have hij : i = j := by omega
        subst hij
        rw [bs_end _ (by omega)] at c4
        subst c4
        by_cases a1 : i < m <;> by_cases a2 : i < mid <;> by_cases a3 : a < i <;> by_cases a4 : e < b
        all_goals first | (exfalso; omega) | skip
        all_goals
          simp only [sym1, sym2, h5, h6, a1, a2, a3, a4, and_self, and_true, true_and, and_false, false_and, if_true, if_false] at hsy
          simp -implicitDefEqProofs [List.lookup_cons, and_assoc, pick_and, pick_or, if_and, if_or, v7, obCls, h5, h6, a1, a2, a3, a4, mu130, q1, q2, muWCls, p1, p2, r1, r2, hrl, hsl, pickOk, -List.all_eq_true]
          refine finM1 0 [] (obCls (sym Cls.z ltCls a m b l)) (by simp [pickOk, -List.all_eq_true, tR_ok]) (by rw [hsy]; simp [obCls]) (by simp [obCls, upd, tl_cons]) ?_
          simp -implicitDefEqProofs [pur2_i, pur2_b, pur2_s, pur2_nil, pur2_sl, pur2_tup, rn2_tup, rn2_agg, rn2_osl, rn1_v, rn1_osl, rn1_agg, rn0_v, rn0_sl, rn0, pickObs, pur_v, pur_b, pur_s, pur_nil, pur_sl, deI, deIs_sl, MWCls, obCls, nACls, lOCls, one, rn2, hsy]
end Go.Proofs

namespace Go.Proofs
open Go.Abs Go.Srt
set_option linter.unusedSimpArgs false
set_option linter.unnecessarySimpa false
set_option linter.unusedVariables false
set_option maxHeartbeats 8000000
set_option maxRecDepth 20000

theorem mu125 : M125.mu = [true] := rfl
theorem pre125 (l : List Cls) (a b : Nat) (h1 : a ≤ 1000) (h2 : b ≤ l.length) (h3 : l.length ≤ 1000) : M125.pre [.osl 0 0, I a, I b, .fn 104 []] [⟨58, 8, 0, tR l, false, true, none⟩] := ⟨l, a, b, rfl, rfl, h1, h2, h3⟩
theorem res125 (l : List Cls) (a b : Nat) : M125.res [.osl 0 0, I a, I b, .fn 104 []] [⟨58, 8, 0, tR l, false, true, none⟩] = (.tup [], [⟨58, 8, 0, tR (insS Cls.z ltCls a b l), false, true, none⟩]) := by
  simp [M125, obCls, nACls, lOCls]
def M120 : MFun := ⟨[true], fun xs obs => ∃ (l : List Cls), xs = [.osl 0 0, I l.length, .fn 104 []] ∧ obs = [obCls l] ∧ l.length ≤ 39,
  fun xs obs => (.tup [], [obCls (stab Cls.z ltCls (lOCls obs))])⟩
theorem m120 : GenMA K Tryz.prog 120 M120 := by
  refine contractMA Tryz.mix K [] [(125, M125), (126, MWCls 100)] (by simp) (by simp [m125, mWCls 100]) Tryz.func120 rfl (by decide) ?_
  rintro xs obs us ⟨l, rfl, rfl, h1⟩ hu
  obtain ⟨u, rfl⟩ : ∃ u, us = [u] := by simpa [List.length_eq_one_iff] using hu
  refine ⟨⟨by rw [Tryz.ntmps120]; simp, by simp, fun k ob hob => ?_⟩, ?_⟩
  · obtain ⟨rfl, rfl⟩ := oneCls l k ob hob
    exact ⟨_, rfl, rfl, rfl, rfl, rfl, rfl⟩
  by_cases hs : l.length < 20
  · have hst : stab Cls.z ltCls l = insS Cls.z ltCls 0 l.length l := by unfold stab; rw [if_pos hs]
    have i1 := pre125 l 0 l.length (by omega) (by omega) (by omega)
    have i2 := res125 l 0 l.length
    have n1 : ¬ (20 : Int) ≤ l.length := by omega
    have n2 : ¬ (20 : Int) < l.length := by omega
    rw [← hst] at i2
    simp at i1 i2
    simp -implicitDefEqProofs [Tryz.f120, List.lookup_cons, and_assoc, pick_and, pick_or, if_and, if_or]
    refine loopP_inv (fun i : Unit => ⟨63, tl [(0, .osl 0 0), (1, I l.length), (2, .fn 104 []), (6, I 20), (7, I 0), (8, I 20), (1000, .pin 0 0 u)], [obCls l]⟩) (fun _ => True) (fun _ => 0) () trivial (Wk.tl (by simp [hold, upd, tl_cons])) ?_
    rintro ⟨⟩ -
    simp -implicitDefEqProofs [List.lookup_cons, and_assoc, pick_and, pick_or, if_and, if_or, n1, obCls, mu125, i1, i2, pickOk, -List.all_eq_true]
    refine loopP_inv (fun i : Unit => ⟨63, tl [(0, .osl 0 0), (1, I l.length), (2, .fn 104 []), (6, I 20), (1000, .pin 0 0 u)], [obCls (stab Cls.z ltCls l)]⟩) (fun _ => True) (fun _ => 0) () trivial (Wk.tl (by simp [hold, upd, tl_cons])) ?_
    rintro ⟨⟩ -
    simp -implicitDefEqProofs [List.lookup_cons, and_assoc, pick_and, pick_or, if_and, if_or, n2, obCls]
    refine finM1 0 [] (obCls (stab Cls.z ltCls l)) (by simp [pickOk, -List.all_eq_true, tR_ok]) (by simp [obCls]) (by simp [obCls, upd, tl_cons]) ?_
    simp -implicitDefEqProofs [pur2_i, pur2_b, pur2_s, pur2_nil, pur2_sl, pur2_tup, rn2_tup, rn2_agg, rn2_osl, rn1_v, rn1_osl, rn1_agg, rn0_v, rn0_sl, rn0, pickObs, pur_v, pur_b, pur_s, pur_nil, pur_sl, deI, deIs_sl, M120, obCls, nACls, lOCls, one, rn2]
  · obtain ⟨n, hn⟩ : ∃ n, n = l.length := ⟨_, rfl⟩
    rw [← hn] at h1 hs ⊢
    have i1 := pre125 l 0 20 (by omega) (by omega) (by omega)
    have i2 := res125 l 0 20
    have j1 := pre125 (insS Cls.z ltCls 0 20 l) 20 n (by omega) (by rw [insS_len]; omega) (by rw [insS_len]; omega)
    have j2 := res125 (insS Cls.z ltCls 0 20 l) 20 n
    have l1 : (insS Cls.z ltCls 20 n (insS Cls.z ltCls 0 20 l)).length = n := by rw [insS_len, insS_len, hn]
    have k1 : 20 < n → (MWCls 100).pre [.osl 0 0, I (0 : Nat), I (20 : Nat), I n, .fn 104 []] [⟨58, 8, 0, tR (insS Cls.z ltCls 20 n (insS Cls.z ltCls 0 20 l)), false, true, none⟩] := fun h => preWCls 100 _ 0 20 n (by omega) h (by omega) (by omega) (by omega)
    have k2 := resWCls 100 (insS Cls.z ltCls 20 n (insS Cls.z ltCls 0 20 l)) 0 20 n
    have hst1 : n = 20 → stab Cls.z ltCls l = insS Cls.z ltCls 20 n (insS Cls.z ltCls 0 20 l) := fun h => by unfold stab; rw [if_neg (by omega), if_pos (by omega), ← hn]
    have hst2 : 20 < n → stab Cls.z ltCls l = sym Cls.z ltCls 0 20 n (insS Cls.z ltCls 20 n (insS Cls.z ltCls 0 20 l)) := fun h => by unfold stab; rw [if_neg (by omega), if_neg (by omega), ← hn]
    simp at i1 i2 j1 j2 k1 k2
    generalize insS Cls.z ltCls 20 n (insS Cls.z ltCls 0 20 l) = L2 at *
    generalize insS Cls.z ltCls 0 20 l = L1 at *
    have n1 : (20 : Int) ≤ n := by omega
    have w20 : IntKind.i64.wrap 20 = 20 := by decide
    have w40 : IntKind.i64.wrap 40 = 40 := by decide
    have n2 : ¬ (40 : Int) ≤ n := by omega
    have n3 : ¬ (40 : Int) < n := by omega
    simp -implicitDefEqProofs [Tryz.f120, List.lookup_cons, and_assoc, pick_and, pick_or, if_and, if_or]
    refine loopP_inv (fun i : Bool => ⟨63, tl [(0, .osl 0 0), (1, I n), (2, .fn 104 []), (6, I 20), (7, I (if i then 20 else 0)), (8, I (if i then 40 else 20)), (1000, .pin 0 0 u)], [obCls (if i then L1 else l)]⟩) (fun _ => True) (fun i => if i then 0 else 1) false trivial (Wk.tl (by simp [hold, upd, tl_cons])) ?_
    rintro (_ | _) -
    · simp -implicitDefEqProofs [List.lookup_cons, and_assoc, pick_and, pick_or, if_and, if_or, n1, obCls, mu125, i1, i2, pickOk, -List.all_eq_true]
      exact Wk.tl (by simp [hold, upd, tl_cons]; decide)
    simp -implicitDefEqProofs [List.lookup_cons, and_assoc, pick_and, pick_or, if_and, if_or, n2, obCls, mu125, j1, j2, pickOk, -List.all_eq_true]
    by_cases h20 : n = 20
    · rw [← hst1 h20]
      refine loopP_inv (fun i : Unit => ⟨63, tl [(0, .osl 0 0), (1, I n), (2, .fn 104 []), (6, I 20), (1000, .pin 0 0 u)], [obCls (stab Cls.z ltCls l)]⟩) (fun _ => True) (fun _ => 0) () trivial (Wk.tl (by simp [hold, upd, tl_cons])) ?_
      rintro ⟨⟩ -
      have n4 : ¬ (20 : Int) < n := by omega
      simp -implicitDefEqProofs [List.lookup_cons, and_assoc, pick_and, pick_or, if_and, if_or, n4, obCls]
      refine finM1 0 [] (obCls (stab Cls.z ltCls l)) (by simp [pickOk, -List.all_eq_true, tR_ok]) (by simp [obCls]) (by simp [obCls, upd, tl_cons]) ?_
      simp -implicitDefEqProofs [pur2_i, pur2_b, pur2_s, pur2_nil, pur2_sl, pur2_tup, rn2_tup, rn2_agg, rn2_osl, rn1_v, rn1_osl, rn1_agg, rn0_v, rn0_sl, rn0, pickObs, pur_v, pur_b, pur_s, pur_nil, pur_sl, deI, deIs_sl, M120, obCls, nACls, lOCls, one, rn2]
    · have n4 : (20 : Int) < n := by omega
      have n5 : 20 < n := by omega
      have hst3 := hst2 n5
      have k3 := k1 n5
      rw [← hst3] at k2
      refine loopP_inv (fun i : Bool => ⟨63, tl [(0, .osl 0 0), (1, I n), (2, .fn 104 []), (6, I (if i then 40 else 20)), (1000, .pin 0 0 u)], [obCls (if i then stab Cls.z ltCls l else L2)]⟩) (fun _ => True) (fun i => if i then 0 else 1) false trivial (Wk.tl (by simp [hold, upd, tl_cons])) ?_
      rintro (_ | _) -
      · simp -implicitDefEqProofs [List.lookup_cons, and_assoc, pick_and, pick_or, if_and, if_or, n4, obCls]
        refine loopP_inv (fun i : Unit => ⟨63, tl [(0, .osl 0 0), (1, I n), (2, .fn 104 []), (6, I 20), (7, I 0), (8, I 40), (1000, .pin 0 0 u)], [obCls L2]⟩) (fun _ => True) (fun _ => 0) () trivial (Wk.tl (by simp [hold, upd, tl_cons]; decide)) ?_
        rintro ⟨⟩ -
        simp -implicitDefEqProofs [List.lookup_cons, and_assoc, pick_and, pick_or, if_and, if_or, n2, n4, w20, w40, obCls, muWCls, k3, k2, pickOk, -List.all_eq_true]
        exact Wk.tl (by simp [hold, upd, tl_cons])
      · simp -implicitDefEqProofs [List.lookup_cons, and_assoc, pick_and, pick_or, if_and, if_or, n3, obCls]
        refine finM1 0 [] (obCls (stab Cls.z ltCls l)) (by simp [pickOk, -List.all_eq_true, tR_ok]) (by simp [obCls]) (by simp [obCls, upd, tl_cons]) ?_
        simp -implicitDefEqProofs [pur2_i, pur2_b, pur2_s, pur2_nil, pur2_sl, pur2_tup, rn2_tup, rn2_agg, rn2_osl, rn1_v, rn1_osl, rn1_agg, rn0_v, rn0_sl, rn0, pickObs, pur_v, pur_b, pur_s, pur_nil, pur_sl, deI, deIs_sl, M120, obCls, nACls, lOCls, one, rn2]

def M103 : MFun := ⟨[true], fun xs obs => ∃ (l : List Cls), xs = [.osl 0 0, .fn 104 []] ∧ obs = [obCls l] ∧ l.length ≤ 39, fun xs obs => (.tup [], [obCls (stab Cls.z ltCls (lOCls obs))])⟩
theorem m103 : GenMA K Tryz.prog 103 M103 := by
  refine contractMA Tryz.mix K [] [(120, M120)] (by simp) (by simp [m120]) Tryz.func103 rfl (by decide) ?_
  rintro xs obs us ⟨l, rfl, rfl, h1⟩ hu
  obtain ⟨u, rfl⟩ : ∃ u, us = [u] := by simpa [List.length_eq_one_iff] using hu
  refine ⟨⟨by rw [Tryz.ntmps103]; simp, by simp, fun k ob hob => ?_⟩, ?_⟩
  · obtain ⟨rfl, rfl⟩ := oneCls l k ob hob
    exact ⟨_, rfl, rfl, rfl, rfl, rfl, rfl⟩
  have i1 : M120.pre [.osl 0 0, I l.length, .fn 104 []] [⟨58, 8, 0, tR l, false, true, none⟩] := ⟨l, rfl, rfl, h1⟩
  have i2 : M120.res [.osl 0 0, I l.length, .fn 104 []] [⟨58, 8, 0, tR l, false, true, none⟩] = (.tup [], [⟨58, 8, 0, tR (stab Cls.z ltCls l), false, true, none⟩]) := by simp [M120, obCls, lOCls]
  have i3 : M120.mu = [true] := rfl
  simp -implicitDefEqProofs [Tryz.f103, List.lookup_cons, and_assoc, pick_and, pick_or, if_and, if_or, obCls, i1, i2, i3, pickOk, -List.all_eq_true]
  refine finM1 0 [] (obCls (stab Cls.z ltCls l)) (by simp [pickOk, -List.all_eq_true, tR_ok]) (by simp [obCls]) (by simp [obCls, upd, tl_cons]) ?_
  simp -implicitDefEqProofs [pur2_i, pur2_b, pur2_s, pur2_nil, pur2_sl, pur2_tup, rn2_tup, rn2_agg, rn2_osl, rn1_v, rn1_osl, rn1_agg, rn0_v, rn0_sl, rn0, pickObs, pur_v, pur_b, pur_s, pur_nil, pur_sl, deI, deIs_sl, M103, obCls, nACls, lOCls, one, rn2]
end Go.Proofs
