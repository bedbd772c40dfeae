/-
  What is proved here: contracts of both texts of a change, with no check. Condition: none.
-/
import Derived.Test.YtlkohlnkhpknhaaDoorQ2t
import Derived.Test.YtlkohlnkhpknhaaDoorQ1t
namespace Go.Proofs
open Go.Abs
set_option linter.unusedSimpArgs false
set_option linter.unnecessarySimpa false
set_option linter.unusedVariables false
set_option maxHeartbeats 8000000
set_option maxRecDepth 20000

def chTx (x : Chg) : ByteArray :=
  if x.kind = 1 then ⟨#[110, 97, 109, 101, 32]⟩ ++ x.nm
  else if x.kind = 2 then ⟨#[100, 101, 102, 97, 117, 108, 116, 32]⟩ ++ decB x.num.toNat
  else if x.kind = 3 then ⟨#[100, 114, 111, 112, 32, 102, 105, 108, 116, 101, 114, 32]⟩ ++ decB x.num.toNat
  else if x.kind = 4 then ⟨#[100, 114, 111, 112, 32, 99, 108, 97, 115, 115, 32]⟩ ++ decB x.num.toNat
  else if x.kind = 5 then ⟨#[112, 117, 116, 32]⟩ ++ headB x.cl ++ ⟨#[32, 112, 97, 114, 101, 110, 116, 32]⟩ ++ decB x.a1.toNat ++ ⟨#[32, 108, 105, 109, 105, 116, 32]⟩ ++ decB x.a7.toNat
  else ⟨#[112, 117, 116, 32]⟩ ++ filB x.fi
def chOk (x : Chg) : Prop := x.nm.size ≤ 1048576 ∧ (x.kind = 1 ∨ (x.kind = 2 ∧ 0 ≤ x.num ∧ x.num ≤ 999) ∨ (x.kind = 3 ∧ 0 ≤ x.num ∧ x.num ≤ 999) ∨ (x.kind = 4 ∧ 0 ≤ x.num ∧ x.num ≤ 999) ∨ (x.kind = 5 ∧ hdOk x.cl ∧ (0 ≤ x.a1 ∧ x.a1 ≤ 999) ∧ (0 ≤ x.a7 ∧ x.a7 ≤ 999)) ∨ (x.kind = 6 ∧ flOk x.fi))
theorem clsC_hd {y : Cls} (h : clsC y = true) : hdOk y ∧ (0 ≤ y.par ∧ y.par ≤ 999) ∧ (0 ≤ y.lim ∧ y.lim ≤ 999) := by
  simp [clsC, Cls.ok, Cls.rateOk, Cls.burstOk, rng] at h
  unfold hdOk
  omega
theorem filC_fl {y : Fil} (h : filC y = true) : flOk y := by
  simp [filC, Fil.ok, rng] at h
  unfold flOk
  omega
theorem chOk_of {x : Chg} (hn : x.nm.size ≤ 1048576) (h : isCh x = true) : chOk x := by
  refine ⟨hn, ?_⟩
  unfold isCh at h
  by_cases k1 : x.kind = 1
  · exact .inl k1
  by_cases k2 : x.kind = 2
  · rw [if_neg k1, if_pos k2] at h
    simp [rng] at h
    exact .inr (.inl ⟨k2, by omega, by omega⟩)
  by_cases k3 : x.kind = 3
  · rw [if_neg k1, if_neg k2, if_pos k3] at h
    simp [rng] at h
    exact .inr (.inr (.inl ⟨k3, by omega, by omega⟩))
  by_cases k4 : x.kind = 4
  · rw [if_neg k1, if_neg k2, if_neg k3, if_pos k4] at h
    simp [rng] at h
    exact .inr (.inr (.inr (.inl ⟨k4, by omega, by omega⟩)))
  by_cases k5 : x.kind = 5
  · rw [if_neg k1, if_neg k2, if_neg k3, if_neg k4, if_pos k5] at h
    simp only [Bool.and_eq_true] at h
    obtain ⟨h5, h6, h7⟩ := clsC_hd h.2
    exact .inr (.inr (.inr (.inr (.inl ⟨k5, h5, h6, h7⟩))))
  by_cases k6 : x.kind = 6
  · rw [if_neg k1, if_neg k2, if_neg k3, if_neg k4, if_neg k5, if_pos k6] at h
    simp only [Bool.and_eq_true] at h
    exact .inr (.inr (.inr (.inr (.inr ⟨k6, filC_fl h.2⟩))))
  · rw [if_neg k1, if_neg k2, if_neg k3, if_neg k4, if_neg k5, if_neg k6] at h
    cases h
def F42 : Fun := ⟨fun xs => xs = [.agg (rX (deA (xs.getD 0 .top) : Chg))] ∧ (fun (x : Chg) => (chOk x)) (deA (xs.getD 0 .top) : Chg), fun xs => (fun (x : Chg) => ((.v (.string (chTx x)), []) : X × List Ob)) (deA (xs.getD 0 .top) : Chg)⟩
theorem F42_in {xs : List X} (h : F42.pre xs) : ∃ (x : Chg), xs = [.agg (rX x)] ∧ (chOk x) := ⟨_, h.1, h.2⟩
theorem F42_res (x : Chg) : F42.res [.agg (rX x)] = (.v (.string (chTx x)), []) := by simp [F42]
theorem F42_mk (x : Chg) (h : chOk x) : F42.pre [.agg (rX x)] := by simpa [F42] using h
theorem c42 : GenCA K Tryd.prog 42 F42 := by
  refine contractA Tryd.mix K [(36, F36), (74, F74), (75, F75)] [] (by simp [c36, c74, c75]) (by simp) Tryd.func42 rfl (by decide) ?_
  intro xs hxs
  obtain ⟨x, rfl, hp⟩ := F42_in hxs
  rw [F42_res]
  refine ⟨by rw [Tryd.ntmps42]; simp, ?_⟩
  obtain ⟨hn, hp⟩ := hp
  rcases hp with k1 | ⟨k2, n0, n1⟩ | ⟨k3, n0, n1⟩ | ⟨k4, n0, n1⟩ | ⟨k5, hh, ⟨p0, p1⟩, ⟨l0, l1⟩⟩ | ⟨k6, hf⟩
  · simp -implicitDefEqProofs [Tryd.f42, F36, F74, F75, List.lookup_cons, and_assoc, pick_and, pick_or, if_and, if_or, k1, ba_sz, show (ByteArray.mk #[110, 97, 109, 101, 32]).size = 5 from rfl]
    repeat refine ⟨by omega, ?_⟩
    refine fin_pure (by simp) ?_
    simp -implicitDefEqProofs [pur2_i, pur2_b, pur2_s, pur2_nil, pur2_sl, pur2_tup, rn2_tup, rn2_agg, rn2_osl, rn1_v, rn1_osl, rn1_agg, rn0_v, rn0_sl, rn0, pickObs, pur_v, pur_b, pur_s, pur_nil, pur_sl, deI, deIs_sl, chTx, k1]
  · have n2 : x.num ≤ 9223372036854775807 := by omega
    have q := decB_size x.num.toNat (by omega)
    simp -implicitDefEqProofs [Tryd.f42, F36, F74, F75, List.lookup_cons, and_assoc, pick_and, pick_or, if_and, if_or, k2, n0, n2, ba_sz, show (ByteArray.mk #[100, 101, 102, 97, 117, 108, 116, 32]).size = 8 from rfl]
    repeat refine ⟨by omega, ?_⟩
    refine fin_pure (by simp) ?_
    simp -implicitDefEqProofs [pur2_i, pur2_b, pur2_s, pur2_nil, pur2_sl, pur2_tup, rn2_tup, rn2_agg, rn2_osl, rn1_v, rn1_osl, rn1_agg, rn0_v, rn0_sl, rn0, pickObs, pur_v, pur_b, pur_s, pur_nil, pur_sl, deI, deIs_sl, chTx, k2]
  · have n2 : x.num ≤ 9223372036854775807 := by omega
    have q := decB_size x.num.toNat (by omega)
    simp -implicitDefEqProofs [Tryd.f42, F36, F74, F75, List.lookup_cons, and_assoc, pick_and, pick_or, if_and, if_or, k3, n0, n2, ba_sz, show (ByteArray.mk #[100, 114, 111, 112, 32, 102, 105, 108, 116, 101, 114, 32]).size = 12 from rfl]
    repeat refine ⟨by omega, ?_⟩
    refine fin_pure (by simp) ?_
    simp -implicitDefEqProofs [pur2_i, pur2_b, pur2_s, pur2_nil, pur2_sl, pur2_tup, rn2_tup, rn2_agg, rn2_osl, rn1_v, rn1_osl, rn1_agg, rn0_v, rn0_sl, rn0, pickObs, pur_v, pur_b, pur_s, pur_nil, pur_sl, deI, deIs_sl, chTx, k3]
  · have n2 : x.num ≤ 9223372036854775807 := by omega
    have q := decB_size x.num.toNat (by omega)
    simp -implicitDefEqProofs [Tryd.f42, F36, F74, F75, List.lookup_cons, and_assoc, pick_and, pick_or, if_and, if_or, k4, n0, n2, ba_sz, show (ByteArray.mk #[100, 114, 111, 112, 32, 99, 108, 97, 115, 115, 32]).size = 11 from rfl]
    repeat refine ⟨by omega, ?_⟩
    refine fin_pure (by simp) ?_
    simp -implicitDefEqProofs [pur2_i, pur2_b, pur2_s, pur2_nil, pur2_sl, pur2_tup, rn2_tup, rn2_agg, rn2_osl, rn1_v, rn1_osl, rn1_agg, rn0_v, rn0_sl, rn0, pickObs, pur_v, pur_b, pur_s, pur_nil, pur_sl, deI, deIs_sl, chTx, k4]
  · have q1 := decB_size x.a1.toNat (by omega)
    have q2 := decB_size x.a7.toNat (by omega)
    have q3 := headB_size hh
    have p2 : x.a1 ≤ 9223372036854775807 := by omega
    have l2 : x.a7 ≤ 9223372036854775807 := by omega
    unfold Chg.cl at hh q3
    simp -implicitDefEqProofs [Tryd.f42, F36, F74, F75, List.lookup_cons, and_assoc, pick_and, pick_or, if_and, if_or, k5]
    refine drawP_all _ (by decide) ?_
    simp -implicitDefEqProofs [List.lookup_cons, and_assoc, pick_and, pick_or, if_and, if_or, F36, F74, F75, hh, p0, p2, l0, l2, ba_sz, show (ByteArray.mk #[112, 117, 116, 32]).size = 4 from rfl, show (ByteArray.mk #[32, 112, 97, 114, 101, 110, 116, 32]).size = 8 from rfl, show (ByteArray.mk #[32, 108, 105, 109, 105, 116, 32]).size = 7 from rfl]
    repeat refine ⟨by omega, ?_⟩
    refine fin_pure (by simp) ?_
    simp -implicitDefEqProofs [pur2_i, pur2_b, pur2_s, pur2_nil, pur2_sl, pur2_tup, rn2_tup, rn2_agg, rn2_osl, rn1_v, rn1_osl, rn1_agg, rn0_v, rn0_sl, rn0, pickObs, pur_v, pur_b, pur_s, pur_nil, pur_sl, deI, deIs_sl, chTx, k5, Chg.cl]
  · have q3 := filB_size hf
    unfold Chg.fi at hf q3
    simp -implicitDefEqProofs [Tryd.f42, F36, F74, F75, List.lookup_cons, and_assoc, pick_and, pick_or, if_and, if_or, k6, hf, ba_sz, show (ByteArray.mk #[112, 117, 116, 32]).size = 4 from rfl]
    repeat refine ⟨by omega, ?_⟩
    refine fin_pure (by simp) ?_
    simp -implicitDefEqProofs [pur2_i, pur2_b, pur2_s, pur2_nil, pur2_sl, pur2_tup, rn2_tup, rn2_agg, rn2_osl, rn1_v, rn1_osl, rn1_agg, rn0_v, rn0_sl, rn0, pickObs, pur_v, pur_b, pur_s, pur_nil, pur_sl, deI, deIs_sl, chTx, k6, Chg.fi]
theorem c40 : GenCA K Tryd.prog 40 F42 := by
  refine contractA Tryd.mix K [(58, F58), (67, F74), (68, F75)] [] (by simp [c58, c67, c68]) (by simp) Tryd.func40 rfl (by decide) ?_
  intro xs hxs
  obtain ⟨x, rfl, hp⟩ := F42_in hxs
  rw [F42_res]
  refine ⟨by rw [Tryd.ntmps40]; simp, ?_⟩
  obtain ⟨hn, hp⟩ := hp
  rcases hp with k1 | ⟨k2, n0, n1⟩ | ⟨k3, n0, n1⟩ | ⟨k4, n0, n1⟩ | ⟨k5, hh, ⟨p0, p1⟩, ⟨l0, l1⟩⟩ | ⟨k6, hf⟩
  · simp -implicitDefEqProofs [Tryd.f40, F58, F74, F75, List.lookup_cons, and_assoc, pick_and, pick_or, if_and, if_or, k1, ba_sz, show (ByteArray.mk #[110, 97, 109, 101, 32]).size = 5 from rfl]
    repeat refine ⟨by omega, ?_⟩
    refine fin_pure (by simp) ?_
    simp -implicitDefEqProofs [pur2_i, pur2_b, pur2_s, pur2_nil, pur2_sl, pur2_tup, rn2_tup, rn2_agg, rn2_osl, rn1_v, rn1_osl, rn1_agg, rn0_v, rn0_sl, rn0, pickObs, pur_v, pur_b, pur_s, pur_nil, pur_sl, deI, deIs_sl, chTx, k1]
  · have n2 : x.num ≤ 9223372036854775807 := by omega
    have q := decB_size x.num.toNat (by omega)
    simp -implicitDefEqProofs [Tryd.f40, F58, F74, F75, List.lookup_cons, and_assoc, pick_and, pick_or, if_and, if_or, k2, n0, n2, ba_sz, show (ByteArray.mk #[100, 101, 102, 97, 117, 108, 116, 32]).size = 8 from rfl]
    repeat refine ⟨by omega, ?_⟩
    refine fin_pure (by simp) ?_
    simp -implicitDefEqProofs [pur2_i, pur2_b, pur2_s, pur2_nil, pur2_sl, pur2_tup, rn2_tup, rn2_agg, rn2_osl, rn1_v, rn1_osl, rn1_agg, rn0_v, rn0_sl, rn0, pickObs, pur_v, pur_b, pur_s, pur_nil, pur_sl, deI, deIs_sl, chTx, k2]
  · have n2 : x.num ≤ 9223372036854775807 := by omega
    have q := decB_size x.num.toNat (by omega)
    simp -implicitDefEqProofs [Tryd.f40, F58, F74, F75, List.lookup_cons, and_assoc, pick_and, pick_or, if_and, if_or, k3, n0, n2, ba_sz, show (ByteArray.mk #[100, 114, 111, 112, 32, 102, 105, 108, 116, 101, 114, 32]).size = 12 from rfl]
    repeat refine ⟨by omega, ?_⟩
    refine fin_pure (by simp) ?_
    simp -implicitDefEqProofs [pur2_i, pur2_b, pur2_s, pur2_nil, pur2_sl, pur2_tup, rn2_tup, rn2_agg, rn2_osl, rn1_v, rn1_osl, rn1_agg, rn0_v, rn0_sl, rn0, pickObs, pur_v, pur_b, pur_s, pur_nil, pur_sl, deI, deIs_sl, chTx, k3]
  · have n2 : x.num ≤ 9223372036854775807 := by omega
    have q := decB_size x.num.toNat (by omega)
    simp -implicitDefEqProofs [Tryd.f40, F58, F74, F75, List.lookup_cons, and_assoc, pick_and, pick_or, if_and, if_or, k4, n0, n2, ba_sz, show (ByteArray.mk #[100, 114, 111, 112, 32, 99, 108, 97, 115, 115, 32]).size = 11 from rfl]
    repeat refine ⟨by omega, ?_⟩
    refine fin_pure (by simp) ?_
    simp -implicitDefEqProofs [pur2_i, pur2_b, pur2_s, pur2_nil, pur2_sl, pur2_tup, rn2_tup, rn2_agg, rn2_osl, rn1_v, rn1_osl, rn1_agg, rn0_v, rn0_sl, rn0, pickObs, pur_v, pur_b, pur_s, pur_nil, pur_sl, deI, deIs_sl, chTx, k4]
  · have q1 := decB_size x.a1.toNat (by omega)
    have q2 := decB_size x.a7.toNat (by omega)
    have q3 := headB_size hh
    have p2 : x.a1 ≤ 9223372036854775807 := by omega
    have l2 : x.a7 ≤ 9223372036854775807 := by omega
    unfold Chg.cl at hh q3
    simp -implicitDefEqProofs [Tryd.f40, F58, F74, F75, List.lookup_cons, and_assoc, pick_and, pick_or, if_and, if_or, k5]
    refine drawP_all _ (by decide) ?_
    simp -implicitDefEqProofs [List.lookup_cons, and_assoc, pick_and, pick_or, if_and, if_or, F58, F74, F75, hh, p0, p2, l0, l2, ba_sz, show (ByteArray.mk #[112, 117, 116, 32]).size = 4 from rfl, show (ByteArray.mk #[32, 112, 97, 114, 101, 110, 116, 32]).size = 8 from rfl, show (ByteArray.mk #[32, 108, 105, 109, 105, 116, 32]).size = 7 from rfl]
    repeat refine ⟨by omega, ?_⟩
    refine fin_pure (by simp) ?_
    simp -implicitDefEqProofs [pur2_i, pur2_b, pur2_s, pur2_nil, pur2_sl, pur2_tup, rn2_tup, rn2_agg, rn2_osl, rn1_v, rn1_osl, rn1_agg, rn0_v, rn0_sl, rn0, pickObs, pur_v, pur_b, pur_s, pur_nil, pur_sl, deI, deIs_sl, chTx, k5, Chg.cl]
  · have q3 := filB_size hf
    unfold Chg.fi at hf q3
    simp -implicitDefEqProofs [Tryd.f40, F58, F74, F75, List.lookup_cons, and_assoc, pick_and, pick_or, if_and, if_or, k6, hf, ba_sz, show (ByteArray.mk #[112, 117, 116, 32]).size = 4 from rfl]
    repeat refine ⟨by omega, ?_⟩
    refine fin_pure (by simp) ?_
    simp -implicitDefEqProofs [pur2_i, pur2_b, pur2_s, pur2_nil, pur2_sl, pur2_tup, rn2_tup, rn2_agg, rn2_osl, rn1_v, rn1_osl, rn1_agg, rn0_v, rn0_sl, rn0, pickObs, pur_v, pur_b, pur_s, pur_nil, pur_sl, deI, deIs_sl, chTx, k6, Chg.fi]
end Go.Proofs
