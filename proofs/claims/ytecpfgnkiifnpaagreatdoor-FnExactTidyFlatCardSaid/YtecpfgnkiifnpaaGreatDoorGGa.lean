/-
  What is proved here: contracts of both checks of a storable configuration. Condition: none.
  What is said here: the flat text of a configuration, as a function. Condition: none.
-/
import Derived.Test.YtecpfgnkiifnpaaGreatDoorT9ao
import Derived.Test.YtecpfgnkiifnpaaGreatDoorF1ao
import Derived.Test.YtecpfgnkiifnpaaGreatDoorCCa
set_option linter.unusedVariables false
set_option linter.unusedSimpArgs false
set_option linter.unnecessarySimpa false
set_option maxHeartbeats 8000000
set_option maxRecDepth 20000
namespace Go.Proofs
open Go.Abs
def stOk (c : Cfg) : Bool := nmOk c.name && decide (c.cls.length ≤ 24) && decide (c.fil.length ≤ 16) && rng 0 1000000000 c.dflt && c.cls.all okN && c.fil.all okF0
theorem all_sC (l : List Cls) (p : Cls → Bool) (k : Nat) (h : k < l.length) (h1 : (l.take k).all p = true) (h2 : p l[k] = true) : (l.take (k + 1)).all p = true := by
  rw [takeS l k h, List.all_append, h1]; simp [h2]
theorem all_bC (l : List Cls) (p : Cls → Bool) (k : Nat) (h : k < l.length) (h2 : p l[k] = false) : l.all p = false := not_true fun h3 => by
  rw [List.all_eq_true] at h3
  rw [h3 _ (List.getElem_mem h)] at h2; cases h2
theorem all_sF (l : List Fil) (p : Fil → Bool) (k : Nat) (h : k < l.length) (h1 : (l.take k).all p = true) (h2 : p l[k] = true) : (l.take (k + 1)).all p = true := by
  rw [takeS l k h, List.all_append, h1]; simp [h2]
theorem all_bF (l : List Fil) (p : Fil → Bool) (k : Nat) (h : k < l.length) (h2 : p l[k] = false) : l.all p = false := not_true fun h3 => by
  rw [List.all_eq_true] at h3
  rw [h3 _ (List.getElem_mem h)] at h2; cases h2
/-! ### storable -/
def F42 : Fun := ⟨fun xs => xs = [.agg (cX (deC (xs.getD 0 .top) : Cfg))] ∧ (fun (c : Cfg) => (okC c)) (deC (xs.getD 0 .top) : Cfg), fun xs => (fun (c : Cfg) => ((B (stOk c), []) : X × List Ob)) (deC (xs.getD 0 .top) : Cfg)⟩
theorem F42_in {xs : List X} (h : F42.pre xs) : ∃ (c : Cfg), xs = [.agg (cX c)] ∧ (okC c) := ⟨_, h.1, h.2⟩
theorem F42_res (c : Cfg) : F42.res [.agg (cX c)] = (B (stOk c), []) := by simp [F42]
theorem F42_mk (c : Cfg) (h : okC c) : F42.pre [.agg (cX c)] := by simpa [F42] using h
theorem c42 : GenCA K3 Tryz.prog 42 F42 := by
  refine contractA Tryz.mix K3 [(71, F71), (72, F72), (74, F74), (73, F73), (75, F75)] [] (by simp [c71, toK3 c72, toK3 c74, toK3 c73, toK3 c75]) (by simp) Tryz.func42 rfl (by decide) ?_
  intro xs hxs
  obtain ⟨c, rfl, hp⟩ := F42_in hxs
  rw [F42_res]
  refine ⟨by rw [Tryz.ntmps42]; simp, ?_⟩
  obtain ⟨hl1, hl2, hn⟩ := hp
  cases hN : nmOk c.name with
  | false =>
    simp -implicitDefEqProofs [Tryz.f42, F71, F72, F74, F73, F75, List.lookup_cons, eS, hn, hN]
    refine fin_pure (by simp) ?_
    simp -implicitDefEqProofs [fS, rn0, pickObs, deI, stOk, hN]
  | true =>
  by_cases h24 : 24 < c.cls.length
  · have h24' : ¬ c.cls.length ≤ 24 := by omega
    have i24 : (24 : Int) < c.cls.length := by omega
    have j24 : ¬ (c.cls.length : Int) ≤ 24 := by omega
    simp -implicitDefEqProofs [Tryz.f42, F71, F72, F74, F73, F75, List.lookup_cons, eS, hn, hN, h24, i24, j24]
    refine fin_pure (by simp) ?_
    simp -implicitDefEqProofs [fS, rn0, pickObs, deI, stOk, h24']
  have i24 : ¬ (24 : Int) < c.cls.length := by omega
  have j24 : (c.cls.length : Int) ≤ 24 := by omega
  by_cases h16 : 16 < c.fil.length
  · have h16' : ¬ c.fil.length ≤ 16 := by omega
    have i16 : (16 : Int) < c.fil.length := by omega
    have j16 : ¬ (c.fil.length : Int) ≤ 16 := by omega
    simp -implicitDefEqProofs [Tryz.f42, F71, F72, F74, F73, F75, List.lookup_cons, eS, hn, hN, h24, h16, i24, j24, i16, j16]
    refine fin_pure (by simp) ?_
    simp -implicitDefEqProofs [fS, rn0, pickObs, deI, stOk, h16']
  have i16 : ¬ (16 : Int) < c.fil.length := by omega
  have j16 : (c.fil.length : Int) ≤ 16 := by omega
  have g24 : c.cls.length ≤ 24 := by omega
  have g16 : c.fil.length ≤ 16 := by omega
  cases hD : rng 0 1000000000 c.dflt with
  | false =>
    simp -implicitDefEqProofs [Tryz.f42, F71, F72, F74, F73, F75, List.lookup_cons, eS, hn, hN, h24, h16, i24, j24, i16, j16, hD]
    refine fin_pure (by simp) ?_
    simp -implicitDefEqProofs [fS, rn0, pickObs, deI, stOk, hD]
  | true =>
  simp -implicitDefEqProofs [Tryz.f42, List.lookup_cons, eS, F71, F72, hn, hN, h24, h16, i24, j24, i16, j16, hD]
  refine loopP_inv (fun k : Nat => ⟨53, tl [(1, .optr 0 0 0 0), (30, .sl (tR c.cls)), (31, I c.cls.length), (32, I k)], [cBx c]⟩) (fun k => k ≤ c.cls.length ∧ (c.cls.take k).all okN = true) (fun k => c.cls.length - k) 0 ⟨Nat.zero_le _, rfl⟩ (Wk.tl (by simp [hold, upd, tl_cons])) ?_
  rintro k ⟨hk, ha⟩
  by_cases h : k < c.cls.length
  · have hw1 := w64n (show k < 4611686018427387904 by omega)
    cases hq : okN c.cls[k] with
    | true =>
      have hg := all_sC c.cls okN k h ha hq
      have h4 : (nums c.cls[k]).length = 8 := rfl
      have hq' : (nums c.cls[k]).all (rng 0 1000000000) = true := hq
      simp -implicitDefEqProofs [List.lookup_cons, eS, h, cBx, iOb, F74, F73, h4, hq', -List.all_eq_true, -List.all_eq_false]
      refine ⟨k + 1, by omega, hg, by omega, ?_⟩
      exact Wk.tlD (m := 1) rfl (by simp [hold, upd, tl_cons, hw1]) (by simp [okL_cons, okL_nil, ok1, ok0]) (okH_cBx _ _ _ (by simp [okH_nil]))
    | false =>
      have hA := all_bC c.cls okN k h hq
      have h4 : (nums c.cls[k]).length = 8 := rfl
      have hq' : (nums c.cls[k]).all (rng 0 1000000000) = false := hq
      simp -implicitDefEqProofs [List.lookup_cons, eS, h, cBx, iOb, F74, F73, h4, hq', -List.all_eq_true, -List.all_eq_false]
      refine fin_pure (by simp) ?_
      simp -implicitDefEqProofs [fS, rn0, pickObs, deI, stOk, hA, -List.all_eq_true, -List.all_eq_false]
  · have e : k = c.cls.length := by omega
    subst e
    rw [List.take_length] at ha
    have haC := ha
    simp -implicitDefEqProofs [List.lookup_cons, eS, cBx]
    refine loopP_inv (fun k : Nat => ⟨53, tl [(1, .optr 0 0 0 0), (42, .sl (tR c.fil)), (43, I c.fil.length), (44, I k)], [cBx c]⟩) (fun k => k ≤ c.fil.length ∧ (c.fil.take k).all okF0 = true) (fun k => c.fil.length - k) 0 ⟨Nat.zero_le _, rfl⟩ (Wk.tl (by simp [hold, upd, tl_cons])) ?_
    rintro k ⟨hk, ha⟩
    by_cases h : k < c.fil.length
    · have hw1 := w64n (show k < 4611686018427387904 by omega)
      cases hq : okF0 c.fil[k] with
      | true =>
        have hg := all_sF c.fil okF0 k h ha hq
        have h4 : (numsF c.fil[k]).length = 5 := rfl
        have hq' : (numsF c.fil[k]).all (rng 0 1000000000) = true := hq
        simp -implicitDefEqProofs [List.lookup_cons, eS, h, cBx, iOb, F75, F73, h4, hq', -List.all_eq_true, -List.all_eq_false]
        refine ⟨k + 1, by omega, hg, by omega, ?_⟩
        exact Wk.tlD (m := 1) rfl (by simp [hold, upd, tl_cons, hw1]) (by simp [okL_cons, okL_nil, ok1, ok0]) (okH_cBx _ _ _ (by simp [okH_nil]))
      | false =>
        have hA := all_bF c.fil okF0 k h hq
        have h4 : (numsF c.fil[k]).length = 5 := rfl
        have hq' : (numsF c.fil[k]).all (rng 0 1000000000) = false := hq
        simp -implicitDefEqProofs [List.lookup_cons, eS, h, cBx, iOb, F75, F73, h4, hq', -List.all_eq_true, -List.all_eq_false]
        refine fin_pure (by simp) ?_
        simp -implicitDefEqProofs [fS, rn0, pickObs, deI, stOk, hA, -List.all_eq_true, -List.all_eq_false]
    · have e : k = c.fil.length := by omega
      subst e
      rw [List.take_length] at ha
      have haF := ha
      simp -implicitDefEqProofs [List.lookup_cons, eS, cBx]
      refine fin_pure (by simp) ?_
      simp -implicitDefEqProofs [fS, rn0, pickObs, deI, stOk, hN, g24, g16, hD, haC, haF, -List.all_eq_true]
def F67 : Fun := ⟨fun xs => xs = [I (deI (xs.getD 0 .top) : Int)] ∧ (fun (n : Int) => (True)) (deI (xs.getD 0 .top) : Int), fun xs => (fun (n : Int) => ((B (rng 0 1000000000 n), []) : X × List Ob)) (deI (xs.getD 0 .top) : Int)⟩
theorem F67_in {xs : List X} (h : F67.pre xs) : ∃ (n : Int), xs = [I n] ∧ (True) := ⟨_, h.1, h.2⟩
theorem F67_res (n : Int) : F67.res [I n] = (B (rng 0 1000000000 n), []) := by simp [F67]
theorem F67_mk (n : Int) (h : True) : F67.pre [I n] := by simpa [F67] using h
theorem c67 : GenCA K3 Tryz.prog 67 F67 := by
  refine contractA Tryz.mix K3 [(29, F29)] [] (by simp [toK3 c29]) (by simp) Tryz.func67 rfl (by decide) ?_
  intro xs hxs
  obtain ⟨n, rfl, hp⟩ := F67_in hxs
  rw [F67_res]
  refine ⟨by rw [Tryz.ntmps67]; simp, ?_⟩
  simp -implicitDefEqProofs [Tryz.f67, F29, List.lookup_cons, eS]
  refine fin_pure (by simp) ?_
  simp -implicitDefEqProofs [fS, rn0, pickObs, deI]
theorem c38 : GenCA K3 Tryz.prog 38 F42 := by
  refine contractA Tryz.mix K3 [(66, F74), (65, F75), (64, F64), (28, F71), (67, F67)] [] (by simp [toK3 c66, toK3 c65, toK3 c64, c28, c67]) (by simp) Tryz.func38 rfl (by decide) ?_
  intro xs hxs
  obtain ⟨c, rfl, hp⟩ := F42_in hxs
  rw [F42_res]
  refine ⟨by rw [Tryz.ntmps38]; simp, ?_⟩
  obtain ⟨hl1, hl2, hn⟩ := hp
  simp -implicitDefEqProofs [Tryz.f38, List.lookup_cons, eS]
  refine loopP_inv (fun k : Nat => ⟨51, tl [(1, .optr 0 0 0 0), (8, .sl (tR c.cls)), (9, I c.cls.length), (10, I k)], [cBx c]⟩) (fun k => k ≤ c.cls.length ∧ (c.cls.take k).all okN = true) (fun k => c.cls.length - k) 0 ⟨Nat.zero_le _, rfl⟩ (Wk.tl (by simp [hold, upd, tl_cons])) ?_
  rintro k ⟨hk, ha⟩
  by_cases h : k < c.cls.length
  · have hw1 := w64n (show k < 4611686018427387904 by omega)
    cases hq : okN c.cls[k] with
    | true =>
      have hg := all_sC c.cls okN k h ha hq
      have h4 : (nums c.cls[k]).length = 8 := rfl
      have hq' : (nums c.cls[k]).all (rng 0 1000000000) = true := hq
      simp -implicitDefEqProofs [List.lookup_cons, eS, h, cBx, iOb, F74, F64, h4, hq', -List.all_eq_true, -List.all_eq_false]
      refine ⟨k + 1, by omega, hg, by omega, ?_⟩
      exact Wk.tlD (m := 1) rfl (by simp [hold, upd, tl_cons, hw1]) (by simp [okL_cons, okL_nil, ok1, ok0]) (okH_cBx _ _ _ (by simp [okH_nil]))
    | false =>
      have hA := all_bC c.cls okN k h hq
      have h4 : (nums c.cls[k]).length = 8 := rfl
      have hq' : (nums c.cls[k]).all (rng 0 1000000000) = false := hq
      simp -implicitDefEqProofs [List.lookup_cons, eS, h, cBx, iOb, F74, F64, h4, hq', -List.all_eq_true, -List.all_eq_false]
      refine fin_pure (by simp) ?_
      simp -implicitDefEqProofs [fS, rn0, pickObs, deI, stOk, hA, -List.all_eq_true, -List.all_eq_false]
  · have e : k = c.cls.length := by omega
    subst e
    rw [List.take_length] at ha
    have haC := ha
    simp -implicitDefEqProofs [List.lookup_cons, eS, cBx]
    refine loopP_inv (fun k : Nat => ⟨51, tl [(1, .optr 0 0 0 0), (20, .sl (tR c.fil)), (21, I c.fil.length), (22, I k)], [cBx c]⟩) (fun k => k ≤ c.fil.length ∧ (c.fil.take k).all okF0 = true) (fun k => c.fil.length - k) 0 ⟨Nat.zero_le _, rfl⟩ (Wk.tl (by simp [hold, upd, tl_cons])) ?_
    rintro k ⟨hk, ha⟩
    by_cases h : k < c.fil.length
    · have hw1 := w64n (show k < 4611686018427387904 by omega)
      cases hq : okF0 c.fil[k] with
      | true =>
        have hg := all_sF c.fil okF0 k h ha hq
        have h4 : (numsF c.fil[k]).length = 5 := rfl
        have hq' : (numsF c.fil[k]).all (rng 0 1000000000) = true := hq
        simp -implicitDefEqProofs [List.lookup_cons, eS, h, cBx, iOb, F75, F64, h4, hq', -List.all_eq_true, -List.all_eq_false]
        refine ⟨k + 1, by omega, hg, by omega, ?_⟩
        exact Wk.tlD (m := 1) rfl (by simp [hold, upd, tl_cons, hw1]) (by simp [okL_cons, okL_nil, ok1, ok0]) (okH_cBx _ _ _ (by simp [okH_nil]))
      | false =>
        have hA := all_bF c.fil okF0 k h hq
        have h4 : (numsF c.fil[k]).length = 5 := rfl
        have hq' : (numsF c.fil[k]).all (rng 0 1000000000) = false := hq
        simp -implicitDefEqProofs [List.lookup_cons, eS, h, cBx, iOb, F75, F64, h4, hq', -List.all_eq_true, -List.all_eq_false]
        refine fin_pure (by simp) ?_
        simp -implicitDefEqProofs [fS, rn0, pickObs, deI, stOk, hA, -List.all_eq_true, -List.all_eq_false]
    · have e : k = c.fil.length := by omega
      subst e
      rw [List.take_length] at ha
      have haF := ha
      simp -implicitDefEqProofs [List.lookup_cons, eS, cBx]
      cases hN : nmOk c.name with
      | false =>
        simp -implicitDefEqProofs [List.lookup_cons, eS, F71, F67, hn, hN]
        refine fin_pure (by simp) ?_
        simp -implicitDefEqProofs [fS, rn0, pickObs, deI, stOk, hN]
      | true =>
      by_cases h24 : c.cls.length ≤ 24
      · have j24 : (c.cls.length : Int) ≤ 24 := by omega
        by_cases h16 : c.fil.length ≤ 16
        · have j16 : (c.fil.length : Int) ≤ 16 := by omega
          simp -implicitDefEqProofs [List.lookup_cons, eS, F71, F67, hn, hN, h24, h16, j24, j16]
          refine fin_pure (by simp) ?_
          simp -implicitDefEqProofs [fS, rn0, pickObs, deI, stOk, hN, h24, h16, haC, haF, -List.all_eq_true]
        · have j16 : ¬ (c.fil.length : Int) ≤ 16 := by omega
          simp -implicitDefEqProofs [List.lookup_cons, eS, F71, F67, hn, hN, h24, h16, j24, j16]
          refine fin_pure (by simp) ?_
          simp -implicitDefEqProofs [fS, rn0, pickObs, deI, stOk, h16]
      · have j24 : ¬ (c.cls.length : Int) ≤ 24 := by omega
        simp -implicitDefEqProofs [List.lookup_cons, eS, F71, F67, hn, hN, h24, j24]
        refine fin_pure (by simp) ?_
        simp -implicitDefEqProofs [fS, rn0, pickObs, deI, stOk, h24]
end Go.Proofs
namespace Go.Proofs
open Go.Abs
def nlB : ByteArray := ⟨#[10]⟩
def hdT (c : Cfg) : ByteArray := ⟨#[99, 111, 110, 102, 105, 103, 32]⟩ ++ c.name ++ ⟨#[10, 100, 101, 102, 97, 117, 108, 116, 32]⟩ ++ numB c.dflt.toNat ++ ⟨#[10]⟩
def cT : List Cls → ByteArray
  | [] => emB
  | x :: l => (lineC x ++ nlB) ++ cT l
def fT : List Fil → ByteArray
  | [] => emB
  | x :: l => (lineF x ++ nlB) ++ fT l
theorem em_r (a : ByteArray) : a ++ emB = a := by apply ba_ext; simp [ByteArray.data_append, emB]
theorem em_l (a : ByteArray) : emB ++ a = a := by apply ba_ext; simp [ByteArray.data_append, emB]
theorem cT_snoc (l : List Cls) (x : Cls) : cT (l ++ [x]) = cT l ++ (lineC x ++ nlB) := by
  induction l with
  | nil => simp [cT, em_l, em_r]
  | cons y l ih => simp only [List.cons_append, cT, ih, ba_assoc]
theorem fT_snoc (l : List Fil) (x : Fil) : fT (l ++ [x]) = fT l ++ (lineF x ++ nlB) := by
  induction l with
  | nil => simp [fT, em_l, em_r]
  | cons y l ih => simp only [List.cons_append, fT, ih, ba_assoc]
theorem lineC_size {x : Cls} (h : okN x = true) : (lineC x).size ≤ 1000 := by
  have := flat_size (txts x) rfl (txts_size h)
  rw [flat_eq (txts x) rfl] at this
  exact this
theorem lineF_size {x : Fil} (h : okF x = true) : (lineF x).size ≤ 1000000 := by
  have := flat_sizeF (fTx x) rfl (fun t ht => by have := fTx_size (okF_s h) t ht; omega)
  rw [flat_eqF (fTx x) rfl] at this
  exact this
theorem nl_size : nlB.size = 1 := rfl
theorem cT_size : ∀ (l : List Cls), (∀ x ∈ l, okN x = true) → (cT l).size ≤ 1001 * l.length
  | [], _ => by simp [cT, emB, ByteArray.size]
  | x :: l, h => by
    have h1 := lineC_size (h x List.mem_cons_self)
    have h2 := cT_size l fun y hy => h y (List.mem_cons_of_mem _ hy)
    simp only [cT, ba_sz, nl_size, List.length_cons]
    omega
theorem fT_size : ∀ (l : List Fil), (∀ x ∈ l, okF x = true) → (fT l).size ≤ 1000001 * l.length
  | [], _ => by simp [fT, emB, ByteArray.size]
  | x :: l, h => by
    have h1 := lineF_size (h x List.mem_cons_self)
    have h2 := fT_size l fun y hy => h y (List.mem_cons_of_mem _ hy)
    simp only [fT, ba_sz, nl_size, List.length_cons]
    omega
def txT (c : Cfg) : ByteArray := hdT c ++ cT c.cls ++ fT c.fil
def ftOk (c : Cfg) : Bool := stOk c && c.fil.all okF
def ftR (c : Cfg) : X := if ftOk c = true then .tup [.v (.string (txT c)), B true] else .tup [.v (.string emB), B false]
theorem stOk_s {c : Cfg} (h : stOk c = true) : c.cls.length ≤ 24 ∧ c.fil.length ≤ 16 ∧ (0 ≤ c.dflt ∧ c.dflt ≤ 1000000000) ∧ ∀ x ∈ c.cls, okN x = true := by
  simp only [stOk, rng, Bool.and_eq_true, decide_eq_true_eq, List.all_eq_true] at h
  exact ⟨h.1.1.1.1.2, h.1.1.1.2, h.1.1.2, h.1.2⟩
theorem hdT_size {c : Cfg} (hn : c.name.size ≤ 1048576) (h : 0 ≤ c.dflt ∧ c.dflt ≤ 1000000000) : (hdT c).size ≤ 1050000 := by
  have := numB_size c.dflt.toNat (by omega)
  unfold hdT
  simp only [ba_sz, show (ByteArray.mk #[99, 111, 110, 102, 105, 103, 32]).size = 7 from rfl, show (ByteArray.mk #[10, 100, 101, 102, 97, 117, 108, 116, 32]).size = 9 from rfl, show (ByteArray.mk #[10]).size = 1 from rfl]
  omega
end Go.Proofs
