/-
  What is proved here: contracts of the library's stable sort at classes and at filters. Condition: none.
  What is proved here: contracts of the library's swaps of ranges and turns at Cls. Condition: none.
  What is proved here: the contract of the library's turn of a range at Cls. Condition: none.
  What is proved here: the contract of the library's insertion sort at Cls. Condition: none.
-/
import Derived.Test.YtdpmlddmdogggaaGreatDoorLKj
import Derived.Test.YtdpmlddmdogggaaGreatDoorSrt
set_option linter.unusedVariables false
set_option linter.unusedSimpArgs false
set_option linter.unnecessarySimpa false
set_option maxHeartbeats 8000000
set_option maxRecDepth 20000
namespace Go.Proofs
open Go.Abs Go.Srt
def cmpI (a b : Int) : Int := if a < b then -1 else if b < a then 1 else 0
@[simp] theorem cmpI_neg (a b : Int) : (cmpI a b < 0) = (a < b) := by
  unfold cmpI
  refine propext ⟨fun h => ?_, fun h => by rw [if_pos h]; omega⟩
  split at h
  · assumption
  · split at h <;> omega
def F118 : Fun := ⟨fun xs => xs = [I (deI (xs.getD 0 .top) : Int), I (deI (xs.getD 1 .top) : Int)] ∧ (fun (a : Int) (b : Int) => (True)) (deI (xs.getD 0 .top) : Int) (deI (xs.getD 1 .top) : Int), fun xs => (fun (a : Int) (b : Int) => ((I (cmpI a b), []) : X × List Ob)) (deI (xs.getD 0 .top) : Int) (deI (xs.getD 1 .top) : Int)⟩
theorem F118_in {xs : List X} (h : F118.pre xs) : ∃ (a : Int) (b : Int), xs = [I a, I b] ∧ (True) := ⟨_, _, h.1, h.2⟩
theorem F118_res (a : Int) (b : Int) : F118.res [I a, I b] = (I (cmpI a b), []) := by simp [F118]
theorem c118 : GenCA K Tryz.prog 118 F118 := by
  refine contractA Tryz.mix K [] [] (by simp) (by simp) Tryz.func118 rfl (by decide) ?_
  intro xs hxs
  obtain ⟨a, b, rfl, hp⟩ := F118_in hxs
  rw [F118_res]
  refine ⟨by rw [Tryz.ntmps118]; simp, ?_⟩
  by_cases h1 : a < b
  · simp -implicitDefEqProofs [Tryz.f118, List.lookup_cons, eS, h1]
    refine fin_pure (by simp) ?_
    simp -implicitDefEqProofs [fS, rn0, pickObs, deI, cmpI, h1]
  · by_cases h2 : b < a
    · simp -implicitDefEqProofs [Tryz.f118, List.lookup_cons, eS, h1, h2]
      refine fin_pure (by simp) ?_
      simp -implicitDefEqProofs [fS, rn0, pickObs, deI, cmpI, h1, h2]
    · simp -implicitDefEqProofs [Tryz.f118, List.lookup_cons, eS, h1, h2]
      refine fin_pure (by simp) ?_
      simp -implicitDefEqProofs [fS, rn0, pickObs, deI, cmpI, h1, h2]
theorem insS_triv {α : Type} (d : α) (lt : α → α → Bool) (a b : Nat) (l : List α) (h : b ≤ a + 1) : insS d lt a b l = l := by
  cases b with
  | zero => rfl
  | succ m => unfold insS; rw [if_neg (by omega)]
theorem insS_step {α : Type} (d : α) (lt : α → α → Bool) (a i : Nat) (l : List α) (h : a < i) : insS d lt a (i + 1) l = sink d lt a i (insS d lt a i l) := by
  conv => lhs; unfold insS
  rw [if_pos h]
theorem getSet_ne {α : Type} (l : List α) (i j : Nat) (a : α) (h : j ≠ i) : (l.set i a)[j]? = l[j]? := by rw [List.getElem?_set_ne (Ne.symm h)]
theorem getE {α : Type} (d : α) (l : List α) (i : Nat) (h : i < l.length) : l[i] = l.getD i d := by simp [List.getD_eq_getElem?_getD, h]
def ltCls (x y : Cls) : Bool := decide (x.id < y.id)
def F117 : Fun := ⟨fun xs => xs = [.agg (rX (deA (xs.getD 0 .top) : Cls)), .agg (rX (deA (xs.getD 1 .top) : Cls))] ∧ (fun (a : Cls) (b : Cls) => (True)) (deA (xs.getD 0 .top) : Cls) (deA (xs.getD 1 .top) : Cls), fun xs => (fun (a : Cls) (b : Cls) => ((I (cmpI a.id b.id), []) : X × List Ob)) (deA (xs.getD 0 .top) : Cls) (deA (xs.getD 1 .top) : Cls)⟩
theorem F117_in {xs : List X} (h : F117.pre xs) : ∃ (a : Cls) (b : Cls), xs = [.agg (rX a), .agg (rX b)] ∧ (True) := ⟨_, _, h.1, h.2⟩
theorem F117_res (a : Cls) (b : Cls) : F117.res [.agg (rX a), .agg (rX b)] = (I (cmpI a.id b.id), []) := by simp [F117]
theorem c117 : GenCA K Tryz.prog 117 F117 := by
  refine contractA Tryz.mix K [(118, F118)] [] (by simp [c118]) (by simp) Tryz.func117 rfl (by decide) ?_
  intro xs hxs
  obtain ⟨a, b, rfl, hp⟩ := F117_in hxs
  rw [F117_res]
  refine ⟨by rw [Tryz.ntmps117]; simp, ?_⟩
  simp -implicitDefEqProofs [Tryz.f117, F118, List.lookup_cons, eS]
  refine fin_pure (by simp) ?_
  simp -implicitDefEqProofs [fS, rn0, pickObs, deI]
end Go.Proofs
namespace Go.Proofs
open Go.Abs Go.Srt
def lOCls (obs : List Ob) : List Cls := match obs with
  | ob :: _ => deT (.sl ob.rows)
  | [] => []
@[simp] theorem lOCls_ob (l : List Cls) : lOCls [obCls l] = l := by simp [lOCls, obCls]
def nACls (xs : List X) (i : Nat) : Nat := (deI (xs.getD i .top)).toNat
theorem geCls (l : List Cls) (i : Nat) (h : i < l.length) : l[i] = l.getD i Cls.z := getE Cls.z l i h
theorem gQCls (l : List Cls) (i : Nat) (h : i < l.length) : l[i]? = some (l.getD i Cls.z) := by simp [List.getD_eq_getElem?_getD, h]
theorem rCls (x : Cls) : (rX x).length = 8 := rfl
theorem sCls (x : Cls) (l : List Cls) (p : Nat) : (tR l).set p [I x.id, I x.par, I x.rate, I x.ceil, I x.burst, I x.cburst, I x.prio, I x.lim] = tR (l.set p x) := tR_set l p x
theorem tCls (x : Cls) : (rX x).take 8 = rX x := rfl
theorem dCls (x : Cls) : (rX x).drop 8 = [] := rfl
theorem oneCls (l : List Cls) : ∀ (k : Nat) ob, [obCls l][k]? = some ob → k = 0 ∧ ob = obCls l := by
  rintro (_ | j) ob hob
  · simp at hob; exact ⟨rfl, hob.symm⟩
  · simp at hob
def M202 : MFun := ⟨[true], fun xs obs => ∃ (l : List Cls) (a b n : Nat), xs = [.osl 0 0, I a, I b, I n, .fn 117 []] ∧ obs = [obCls l] ∧ a + n ≤ b ∧ b + n ≤ l.length ∧ l.length ≤ 1000,
  fun xs obs => (.tup [], [obCls (swr Cls.z (lOCls obs) (nACls xs 1) (nACls xs 2) (nACls xs 3))])⟩
theorem m202 : GenMA K Tryz.prog 202 M202 := by
  refine contractMA Tryz.mix K [] [] (by simp) (by simp) Tryz.func202 rfl (by decide) ?_
  rintro xs obs us ⟨l, a, b, n, rfl, rfl, h1, h2, h3⟩ hu
  obtain ⟨u, rfl⟩ : ∃ u, us = [u] := by simpa [List.length_eq_one_iff] using hu
  refine ⟨⟨by rw [Tryz.ntmps202]; simp, by simp, fun k ob hob => ?_⟩, ?_⟩
  · obtain ⟨rfl, rfl⟩ := oneCls l k ob hob
    exact ⟨_, rfl, rfl, rfl, rfl, rfl, rfl⟩
  simp -implicitDefEqProofs [Tryz.f202, List.lookup_cons, eS]
  refine loopP_inv (fun i : Nat => ⟨38, tl [(0, .osl 0 0), (1, I a), (2, I b), (3, I n), (10, I i), (1000, .pin 0 0 u)], [obCls (swr Cls.z l a b i)]⟩) (fun i => i ≤ n) (fun i => n - i) 0 (Nat.zero_le _) (Wk.tl (by simp [hold, upd, tl_cons])) ?_
  intro i hi
  have hlen := swr_len Cls.z l a b i
  by_cases h : i < n
  · obtain ⟨p, hp⟩ : ∃ p, p = a + i := ⟨_, rfl⟩
    obtain ⟨q, hq⟩ : ∃ q, q = b + i := ⟨_, rfl⟩
    have g1 : p < l.length := by omega
    have g2 : q < l.length := by omega
    have w1 : IntKind.i64.wrap ((a : Int) + i) = (p : Int) := by rw [w64 (by omega) (by omega)]; omega
    have w2 : IntKind.i64.wrap ((b : Int) + i) = (q : Int) := by rw [w64 (by omega) (by omega)]; omega
    have w3 := w64n (show i < 4611686018427387904 by omega)
    have hs : swr Cls.z l a b (i + 1) = ((swr Cls.z l a b i).set p ((swr Cls.z l a b i).getD q Cls.z)).set q ((swr Cls.z l a b i).getD p Cls.z) := by rw [hp, hq]; rfl
    have hs2 : obCls (swr Cls.z l a b (i + 1)) = obCls (((swr Cls.z l a b i).set p ((swr Cls.z l a b i).getD q Cls.z)).set q ((swr Cls.z l a b i).getD p Cls.z)) := by rw [hs]
    have hg1 : (swr Cls.z l a b i)[p]? = some ((swr Cls.z l a b i).getD p Cls.z) := gQCls _ _ (by omega)
    have hg2 : (swr Cls.z l a b i)[q]? = some ((swr Cls.z l a b i).getD q Cls.z) := gQCls _ _ (by omega)
    generalize swr Cls.z l a b i = L at *
    generalize L.getD p Cls.z = x at *
    generalize L.getD q Cls.z = y at *
    have hx : L[p]'(by omega) = x := by rw [List.getElem?_eq_getElem (by omega)] at hg1; exact Option.some.inj hg1
    have hy : L[q]'(by omega) = y := by rw [List.getElem?_eq_getElem (by omega)] at hg2; exact Option.some.inj hg2
    simp -implicitDefEqProofs [List.lookup_cons, eS, h, obCls]
    refine drawP_x _ [(0, 0), (1, 0), (2, 0), (3, 0), (8, 0), (9, 0), (10, 0), (11, 0), (12, 0), (13, 0), (14, 0), (15, 0), (16, 0), (17, 0), (18, 0), (19, 0), (20, 0), (21, 0), (4, 0), (5, 0), (6, 0), (7, 0), (22, 1), (23, 1)] [21, 23] (by decide) ?_
    simp -implicitDefEqProofs [List.lookup_cons, eS, w1, w2, w3, g1, g2, hlen, hx, hy, sCls, rCls, tCls, dCls, tR_set, getSet_ne, show q ≠ p by omega, show p ≠ q by omega]
    refine ⟨i + 1, by omega, by omega, ?_⟩
    have hs3 : tR (swr Cls.z l a b (i + 1)) = tR ((L.set p y).set q x) := by rw [hs]
    rw [hs3]
    exact Wk.tl (by simp [hold, upd, tl_cons])
  · have e : i = n := by omega
    subst e
    simp -implicitDefEqProofs [List.lookup_cons, eS, obCls]
    refine finM1 0 [] (obCls (swr Cls.z l a b i)) (by simp [pickOk, -List.all_eq_true, tR_ok]) (by simp [obCls]) (by simp [obCls, upd, tl_cons]) ?_
    simp -implicitDefEqProofs [fS, rn0, pickObs, deI, M202, obCls, nACls, lOCls, one, rn2]
end Go.Proofs
namespace Go.Proofs
open Go.Abs Go.Srt
theorem mu202 : M202.mu = [true] := rfl
theorem pre202 (l : List Cls) (a b n : Nat) (h1 : a + n ≤ b) (h2 : b + n ≤ l.length) (h3 : l.length ≤ 1000) : M202.pre [.osl 0 0, I a, I b, I n, .fn 117 []] [⟨81, 8, 0, tR l, false, true, none⟩] := ⟨l, a, b, n, rfl, rfl, h1, h2, h3⟩
theorem res202 (l : List Cls) (a b n : Nat) : M202.res [.osl 0 0, I a, I b, I n, .fn 117 []] [⟨81, 8, 0, tR l, false, true, none⟩] = (.tup [], [⟨81, 8, 0, tR (swr Cls.z l a b n), false, true, none⟩]) := by
  simp [M202, obCls, nACls, lOCls]
def M191 : MFun := ⟨[true], fun xs obs => ∃ (l : List Cls) (a m b : Nat), xs = [.osl 0 0, I a, I m, I b, .fn 117 []] ∧ obs = [obCls l] ∧ a < m ∧ m < b ∧ b ≤ l.length ∧ l.length ≤ 1000,
  fun xs obs => (.tup [], [obCls (rot (lOCls obs) (nACls xs 1) (nACls xs 2) (nACls xs 3))])⟩
theorem m191 : GenMA K Tryz.prog 191 M191 := by
  refine contractMA Tryz.mix K [] [(202, M202)] (by simp) (by simp [m202]) Tryz.func191 rfl (by decide) ?_
  rintro xs obs us ⟨l, a, m, b, rfl, rfl, h1, h2, h3, h4⟩ hu
  obtain ⟨u, rfl⟩ : ∃ u, us = [u] := by simpa [List.length_eq_one_iff] using hu
  refine ⟨⟨by rw [Tryz.ntmps191]; simp, by simp, fun k ob hob => ?_⟩, ?_⟩
  · obtain ⟨rfl, rfl⟩ := oneCls l k ob hob
    exact ⟨_, rfl, rfl, rfl, rfl, rfl, rfl⟩
  obtain ⟨i0, hi0⟩ : ∃ i, i = m - a := ⟨_, rfl⟩
  obtain ⟨j0, hj0⟩ : ∃ j, j = b - m := ⟨_, rfl⟩
  have w1 : IntKind.i64.wrap ((m : Int) - a) = (i0 : Int) := by rw [w64 (by omega) (by omega)]; omega
  have w2 : IntKind.i64.wrap ((b : Int) - m) = (j0 : Int) := by rw [w64 (by omega) (by omega)]; omega
  simp -implicitDefEqProofs [Tryz.f191, List.lookup_cons, eS, w1, w2]
  refine loopP_inv (fun s : Nat × Nat × List Cls => ⟨58, tl [(0, .osl 0 0), (1, I a), (2, I m), (3, I b), (4, .fn 117 []), (10, I s.1), (11, I s.2.1), (1000, .pin 0 0 u)], [obCls s.2.2]⟩)
    (fun s => 0 < s.1 ∧ 0 < s.2.1 ∧ s.1 ≤ m ∧ m + s.2.1 ≤ l.length ∧ s.2.2.length = l.length ∧ rot s.2.2 (m - s.1) m (m + s.2.1) = rot l a m b) (fun s => s.1 + s.2.1) (i0, j0, l)
    ⟨by simp only; omega, by simp only; omega, by simp only; omega, by simp only; omega, rfl, by simp only; rw [show m - i0 = a by omega, show m + j0 = b by omega]⟩ (Wk.tl (by simp [hold, upd, tl_cons])) ?_
  rintro ⟨i, j, L⟩ ⟨c1, c2, c3, c4, c5, c6⟩
  simp only at c1 c2 c3 c4 c5 c6
  obtain ⟨p, hp⟩ : ∃ p, p = m - i := ⟨_, rfl⟩
  have v1 : IntKind.i64.wrap ((m : Int) - i) = (p : Int) := by rw [w64 (by omega) (by omega)]; omega
  by_cases h : i = j
  · subst h
    have q1 := pre202 L p m i (by omega) (by omega) (by omega)
    have q2 := res202 L p m i
    have e : swr Cls.z L p m i = rot l a m b := by rw [hp, rot_same Cls.z L m i c3 (by omega)]; exact c6
    simp -implicitDefEqProofs [List.lookup_cons, eS, obCls, v1, mu202, q1, q2, pickOk, -List.all_eq_true, e]
    refine finM1 0 [] (obCls (rot l a m b)) (by simp [pickOk, -List.all_eq_true, tR_ok]) (by simp [obCls]) (by simp [obCls, upd, tl_cons]) ?_
    simp -implicitDefEqProofs [fS, rn0, pickObs, deI, M191, obCls, nACls, lOCls, one, rn2]
  · have hne : ¬ (i : Int) = j := by omega
    by_cases h' : j < i
    · have q1 := pre202 L p m j (by omega) (by omega) (by omega)
      have q2 := res202 L p m j
      obtain ⟨i', hi'⟩ : ∃ i', i' = i - j := ⟨_, rfl⟩
      have v2 : IntKind.i64.wrap ((i : Int) - j) = (i' : Int) := by rw [w64 (by omega) (by omega)]; omega
      have e : rot (swr Cls.z L p m j) (m - i') m (m + j) = rot l a m b := by rw [hp, hi', rot_lo Cls.z L m i j c3 (by omega) h']; exact c6
      have e' := swr_len Cls.z L p m j
      simp -implicitDefEqProofs [List.lookup_cons, eS, obCls, h, hne, h', v1, v2, mu202, q1, q2, pickOk, -List.all_eq_true]
      refine ⟨i', by omega, j, by omega, by omega, by omega, swr Cls.z L p m j, by omega, e, by omega, ?_⟩
      exact Wk.tl (by simp [hold, upd, tl_cons])
    · obtain ⟨j', hj'⟩ : ∃ j', j' = j - i := ⟨_, rfl⟩
      obtain ⟨q, hq⟩ : ∃ q, q = m + j - i := ⟨_, rfl⟩
      have q1 := pre202 L p q i (by omega) (by omega) (by omega)
      have q2 := res202 L p q i
      have v2 : IntKind.i64.wrap ((j : Int) - i) = (j' : Int) := by rw [w64 (by omega) (by omega)]; omega
      have v3 : IntKind.i64.wrap ((m : Int) + j) = (m : Int) + j := w64 (by omega) (by omega)
      have v4 : IntKind.i64.wrap ((m : Int) + j - i) = (q : Int) := by rw [w64 (by omega) (by omega)]; omega
      have e : rot (swr Cls.z L p q i) (m - i) m (m + j') = rot l a m b := by rw [hp, hq, hj', rot_hi Cls.z L m i j c3 (by omega) (by omega)]; exact c6
      have e' := swr_len Cls.z L p q i
      simp -implicitDefEqProofs [List.lookup_cons, eS, obCls, h, hne, h', v1, v2, v3, v4, mu202, q1, q2, pickOk, -List.all_eq_true]
      refine ⟨i, by omega, j', by omega, by omega, by omega, swr Cls.z L p q i, by omega, e, by omega, ?_⟩
      exact Wk.tl (by simp [hold, upd, tl_cons])
end Go.Proofs
namespace Go.Proofs
open Go.Abs Go.Srt
def M165 : MFun := ⟨[true], fun xs obs => ∃ (l : List Cls) (a b : Nat), xs = [.osl 0 0, I a, I b, .fn 117 []] ∧ obs = [obCls l] ∧ a ≤ 1000 ∧ b ≤ l.length ∧ l.length ≤ 1000,
  fun xs obs => (.tup [], [obCls (insS Cls.z ltCls (nACls xs 1) (nACls xs 2) (lOCls obs))])⟩
theorem sink_stopCls (a j : Nat) (L : List Cls) (h : ¬ (a < j ∧ ltCls (L.getD j Cls.z) (L.getD (j - 1) Cls.z) = true)) : sink Cls.z ltCls a j L = L := by
  cases j with
  | zero => rfl
  | succ m => unfold sink; exact if_neg h
theorem sink_goCls (a j : Nat) (L : List Cls) (h1 : a < j) (h2 : ltCls (L.getD j Cls.z) (L.getD (j - 1) Cls.z) = true) : sink Cls.z ltCls a j L = sink Cls.z ltCls a (j - 1) ((L.set j (L.getD (j - 1) Cls.z)).set (j - 1) (L.getD j Cls.z)) := by
  cases j with
  | zero => omega
  | succ m =>
    conv => lhs; unfold sink
    exact if_pos ⟨h1, h2⟩
theorem m165 : GenMA K Tryz.prog 165 M165 := by
  refine contractMA Tryz.mix K [(117, F117)] [] (by simp [c117]) (by simp) Tryz.func165 rfl (by decide) ?_
  rintro xs obs us ⟨l, a, b, rfl, rfl, h0, h1, h2⟩ hu
  obtain ⟨u, rfl⟩ : ∃ u, us = [u] := by simpa [List.length_eq_one_iff] using hu
  refine ⟨⟨by rw [Tryz.ntmps165]; simp, by simp, fun k ob hob => ?_⟩, ?_⟩
  · obtain ⟨rfl, rfl⟩ := oneCls l k ob hob
    exact ⟨_, rfl, rfl, rfl, rfl, rfl, rfl⟩
  have w0 := w64n (show a < 4611686018427387904 by omega)
  simp -implicitDefEqProofs [Tryz.f165, List.lookup_cons, eS, w0]
  refine loopP_inv (fun i : Nat => ⟨53, tl [(0, .osl 0 0), (1, I a), (2, I b), (3, .fn 117 []), (8, I i), (1000, .pin 0 0 u)], [obCls (insS Cls.z ltCls a i l)]⟩) (fun i => a + 1 ≤ i ∧ (i ≤ b ∨ i = a + 1)) (fun i => b - i) (a + 1) ⟨Nat.le_refl _, .inr rfl⟩ ?_ ?_
  · simp only [insS_triv Cls.z ltCls a (a + 1) l (Nat.le_refl _)]
    exact Wk.tl (by simp [hold, upd, tl_cons])
  rintro i ⟨hi1, hi2⟩
  by_cases h : i < b
  · have hw := w64n (show i < 4611686018427387904 by omega)
    have hst := insS_step Cls.z ltCls a i l (by omega)
    have hln := insS_len Cls.z ltCls a i l
    simp -implicitDefEqProofs [List.lookup_cons, eS, h, obCls]
    refine loopP_inv (fun s : Nat × List Cls => ⟨53, tl [(0, .osl 0 0), (1, I a), (2, I b), (3, .fn 117 []), (8, I i), (9, I s.1), (1000, .pin 0 0 u)], [obCls s.2]⟩)
      (fun s => a ≤ s.1 ∧ s.1 ≤ i ∧ s.2.length = l.length ∧ sink Cls.z ltCls a s.1 s.2 = insS Cls.z ltCls a (i + 1) l) (fun s => s.1) (i, insS Cls.z ltCls a i l) ⟨by simp only; omega, Nat.le_refl _, hln, hst.symm⟩ (Wk.tl (by simp [hold, upd, tl_cons])) ?_
    rintro ⟨j, L⟩ ⟨c1, c2, c3, c4⟩
    simp only at c1 c2 c3 c4
    by_cases hj : a < j
    · obtain ⟨q, hq⟩ : ∃ q, q = j - 1 := ⟨_, rfl⟩
      have g1 : j < l.length := by omega
      have g2 : q < l.length := by omega
      have v1 : IntKind.i64.wrap ((j : Int) - 1) = (q : Int) := by rw [w64 (by omega) (by omega)]; omega
      have hg1 : L[j]? = some (L.getD j Cls.z) := gQCls _ _ (by omega)
      have hg2 : L[q]? = some (L.getD q Cls.z) := gQCls _ _ (by omega)
      have e1 := sink_goCls a j L hj
      have e2 := sink_stopCls a j L
      rw [← hq] at e1 e2
      generalize L.getD j Cls.z = x at *
      generalize L.getD q Cls.z = y at *
      have hx : L[j]'(by omega) = x := by rw [List.getElem?_eq_getElem (by omega)] at hg1; exact Option.some.inj hg1
      have hy : L[q]'(by omega) = y := by rw [List.getElem?_eq_getElem (by omega)] at hg2; exact Option.some.inj hg2
      by_cases hlt : x.id < y.id
      · have e3 := e1 (by simp [ltCls, hlt])
        rw [c4] at e3
        simp -implicitDefEqProofs [List.lookup_cons, eS, obCls]
        refine drawP_all _ (by decide) ?_
        simp -implicitDefEqProofs [List.lookup_cons, eS, hj, v1, g1, g2, c3, hx, hy, F117, sCls, rCls, tCls, dCls, hlt]
        refine drawP_x _ [(0, 0), (1, 0), (5, 0), (6, 0), (7, 0), (8, 0), (9, 0), (10, 0), (11, 0), (12, 0), (13, 0), (14, 0), (15, 0), (2, 0), (3, 0), (4, 0), (16, 1), (17, 1)] [15, 17] (by decide) ?_
        simp -implicitDefEqProofs [List.lookup_cons, eS, v1, g1, g2, c3, hx, hy, sCls, rCls, tCls, dCls, tR_set, getSet_ne, show q ≠ j by omega, show j ≠ q by omega]
        refine ⟨q, by omega, by omega, (L.set j y).set q x, by simpa using c3, e3.symm, by omega, ?_⟩
        exact Wk.tl (by simp [hold, upd, tl_cons])
      · have e3 := e2 (by simp [ltCls, hlt])
        rw [c4] at e3
        simp -implicitDefEqProofs [List.lookup_cons, eS, obCls]
        refine drawP_all _ (by decide) ?_
        simp -implicitDefEqProofs [List.lookup_cons, eS, hj, v1, g1, g2, c3, hx, hy, F117, sCls, rCls, tCls, dCls, hlt, hw]
        refine ⟨i + 1, by omega, by omega, by omega, ?_⟩
        rw [e3]
        exact Wk.tl (by simp [hold, upd, tl_cons])
    · have e3 := sink_stopCls a j L (fun e => hj e.1)
      rw [c4] at e3
      simp -implicitDefEqProofs [List.lookup_cons, eS, obCls]
      refine drawP_all _ (by decide) ?_
      simp -implicitDefEqProofs [List.lookup_cons, eS, hj, hw]
      refine ⟨i + 1, by omega, by omega, by omega, ?_⟩
      rw [e3]
      exact Wk.tl (by simp [hold, upd, tl_cons])
  · have e : insS Cls.z ltCls a i l = insS Cls.z ltCls a b l := by
      rcases hi2 with h2 | h2
      · rw [show i = b by omega]
      · rw [insS_triv Cls.z ltCls a i l (by omega), insS_triv Cls.z ltCls a b l (by omega)]
    rw [e]
    simp -implicitDefEqProofs [List.lookup_cons, eS, h, obCls]
    refine finM1 0 [] (obCls (insS Cls.z ltCls a b l)) (by simp [pickOk, -List.all_eq_true, tR_ok]) (by simp [obCls]) (by simp [obCls, upd, tl_cons]) ?_
    simp -implicitDefEqProofs [fS, rn0, pickObs, deI, M165, obCls, nACls, lOCls, one, rn2]
end Go.Proofs
