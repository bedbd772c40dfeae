/-
  What is proved here: the head of a class and the line of a filter as texts, on both sides. Condition: none.
-/
import Derived.Test.YtlkohlnkhpknhaaDoorF1t
namespace Go.Proofs
open Go.Abs
set_option linter.unusedSimpArgs false
set_option linter.unnecessarySimpa false
set_option linter.unusedVariables false
set_option maxHeartbeats 8000000
set_option maxRecDepth 20000

/-! ### the head of a class -/
def headB (x : Cls) : ByteArray := ⟨#[99, 108, 97, 115, 115, 32]⟩ ++ decB x.id.toNat ++ ⟨#[32, 114, 97, 116, 101, 32]⟩ ++ numB x.rate.toNat ++ ⟨#[32, 99, 101, 105, 108, 32]⟩ ++ numB x.ceil.toNat ++ ⟨#[32, 98, 117, 114, 115, 116, 32]⟩ ++ numB x.burst.toNat ++ ⟨#[32, 99, 98, 117, 114, 115, 116, 32]⟩ ++ numB x.cburst.toNat ++ ⟨#[32, 112, 114, 105, 111, 32]⟩ ++ decB x.prio.toNat
def hdOk (x : Cls) : Prop := (0 ≤ x.id ∧ x.id ≤ 999) ∧ (0 ≤ x.rate ∧ x.rate ≤ 1000000000) ∧ (0 ≤ x.ceil ∧ x.ceil ≤ 1000000000) ∧ (0 ≤ x.burst ∧ x.burst ≤ 1000000000) ∧ (0 ≤ x.cburst ∧ x.cburst ≤ 1000000000) ∧ (0 ≤ x.prio ∧ x.prio ≤ 999)
theorem headB_size {x : Cls} (h : hdOk x) : (headB x).size ≤ 300 := by
  obtain ⟨⟨a1, a2⟩, ⟨b1, b2⟩, ⟨c1, c2⟩, ⟨d1, d2⟩, ⟨e1, e2⟩, ⟨f1, f2⟩⟩ := h
  have q1 := decB_size x.id.toNat (by omega)
  have q2 := numB_size x.rate.toNat (by omega)
  have q3 := numB_size x.ceil.toNat (by omega)
  have q4 := numB_size x.burst.toNat (by omega)
  have q5 := numB_size x.cburst.toNat (by omega)
  have q6 := decB_size x.prio.toNat (by omega)
  unfold headB
  simp only [ba_sz, show (ByteArray.mk #[99, 108, 97, 115, 115, 32]).size = 6 from rfl, show (ByteArray.mk #[32, 114, 97, 116, 101, 32]).size = 6 from rfl, show (ByteArray.mk #[32, 99, 101, 105, 108, 32]).size = 6 from rfl, show (ByteArray.mk #[32, 98, 117, 114, 115, 116, 32]).size = 7 from rfl, show (ByteArray.mk #[32, 99, 98, 117, 114, 115, 116, 32]).size = 8 from rfl, show (ByteArray.mk #[32, 112, 114, 105, 111, 32]).size = 6 from rfl]
  omega
def F74 : Fun := ⟨fun xs => xs = [.agg (rX (deA (xs.getD 0 .top) : Cls))] ∧ (fun (x : Cls) => (hdOk x)) (deA (xs.getD 0 .top) : Cls), fun xs => (fun (x : Cls) => ((.v (.string (headB x)), []) : X × List Ob)) (deA (xs.getD 0 .top) : Cls)⟩
theorem F74_in {xs : List X} (h : F74.pre xs) : ∃ (x : Cls), xs = [.agg (rX x)] ∧ (hdOk x) := ⟨_, h.1, h.2⟩
theorem F74_res (x : Cls) : F74.res [.agg (rX x)] = (.v (.string (headB x)), []) := by simp [F74]
theorem F74_mk (x : Cls) (h : hdOk x) : F74.pre [.agg (rX x)] := by simpa [F74] using h
theorem c74 : GenCA K Tryd.prog 74 F74 := by
  refine contractA Tryd.mix K [(36, F36), (78, F78)] [] (by simp [c36, c78]) (by simp) Tryd.func74 rfl (by decide) ?_
  intro xs hxs
  obtain ⟨x, rfl, hp⟩ := F74_in hxs
  rw [F74_res]
  refine ⟨by rw [Tryd.ntmps74]; simp, ?_⟩
  obtain ⟨⟨a1, a2⟩, ⟨b1, b2⟩, ⟨c1, c2⟩, ⟨d1, d2⟩, ⟨e1, e2⟩, ⟨f1, f2⟩⟩ := hp
  have q1 := decB_size x.id.toNat (by omega)
  have q2 := numB_size x.rate.toNat (by omega)
  have q3 := numB_size x.ceil.toNat (by omega)
  have q4 := numB_size x.burst.toNat (by omega)
  have q5 := numB_size x.cburst.toNat (by omega)
  have q6 := decB_size x.prio.toNat (by omega)
  have a3 : x.id ≤ 9223372036854775807 := by omega
  have f3 : x.prio ≤ 9223372036854775807 := by omega
  simp -implicitDefEqProofs [Tryd.f74, F36, F78, List.lookup_cons, and_assoc, pick_and, pick_or, if_and, if_or]
  refine drawP_all _ (by decide) ?_
  simp -implicitDefEqProofs [List.lookup_cons, and_assoc, pick_and, pick_or, if_and, if_or, F36, F78, a1, a3, b1, b2, c1, c2, d1, d2, e1, e2, f1, f3, ba_sz, show (ByteArray.mk #[99, 108, 97, 115, 115, 32]).size = 6 from rfl, show (ByteArray.mk #[32, 114, 97, 116, 101, 32]).size = 6 from rfl, show (ByteArray.mk #[32, 99, 101, 105, 108, 32]).size = 6 from rfl, show (ByteArray.mk #[32, 98, 117, 114, 115, 116, 32]).size = 7 from rfl, show (ByteArray.mk #[32, 99, 98, 117, 114, 115, 116, 32]).size = 8 from rfl, show (ByteArray.mk #[32, 112, 114, 105, 111, 32]).size = 6 from rfl]
  repeat refine ⟨by omega, ?_⟩
  refine fin_pure (by simp) ?_
  simp -implicitDefEqProofs [pur2_i, pur2_b, pur2_s, pur2_nil, pur2_sl, pur2_tup, rn2_tup, rn2_agg, rn2_osl, rn1_v, rn1_osl, rn1_agg, rn0_v, rn0_sl, rn0, pickObs, pur_v, pur_b, pur_s, pur_nil, pur_sl, deI, deIs_sl, headB]
theorem c67 : GenCA K Tryd.prog 67 F74 := by
  refine contractA Tryd.mix K [(58, F58), (44, F44)] [] (by simp [c58, c44]) (by simp) Tryd.func67 rfl (by decide) ?_
  intro xs hxs
  obtain ⟨x, rfl, hp⟩ := F74_in hxs
  rw [F74_res]
  refine ⟨by rw [Tryd.ntmps67]; simp, ?_⟩
  obtain ⟨⟨a1, a2⟩, ⟨b1, b2⟩, ⟨c1, c2⟩, ⟨d1, d2⟩, ⟨e1, e2⟩, ⟨f1, f2⟩⟩ := hp
  have q1 := decB_size x.id.toNat (by omega)
  have q2 := numB_size x.rate.toNat (by omega)
  have q3 := numB_size x.ceil.toNat (by omega)
  have q4 := numB_size x.burst.toNat (by omega)
  have q5 := numB_size x.cburst.toNat (by omega)
  have q6 := decB_size x.prio.toNat (by omega)
  have a3 : x.id ≤ 9223372036854775807 := by omega
  have f3 : x.prio ≤ 9223372036854775807 := by omega
  simp -implicitDefEqProofs [Tryd.f67, F58, F44, List.lookup_cons, and_assoc, pick_and, pick_or, if_and, if_or]
  refine drawP_all _ (by decide) ?_
  simp -implicitDefEqProofs [List.lookup_cons, and_assoc, pick_and, pick_or, if_and, if_or, F58, F44, a1, a3, b1, b2, c1, c2, d1, d2, e1, e2, f1, f3, ba_sz, show (ByteArray.mk #[99, 108, 97, 115, 115, 32]).size = 6 from rfl, show (ByteArray.mk #[32, 114, 97, 116, 101, 32]).size = 6 from rfl, show (ByteArray.mk #[32, 99, 101, 105, 108, 32]).size = 6 from rfl, show (ByteArray.mk #[32, 98, 117, 114, 115, 116, 32]).size = 7 from rfl, show (ByteArray.mk #[32, 99, 98, 117, 114, 115, 116, 32]).size = 8 from rfl, show (ByteArray.mk #[32, 112, 114, 105, 111, 32]).size = 6 from rfl]
  repeat refine ⟨by omega, ?_⟩
  refine fin_pure (by simp) ?_
  simp -implicitDefEqProofs [pur2_i, pur2_b, pur2_s, pur2_nil, pur2_sl, pur2_tup, rn2_tup, rn2_agg, rn2_osl, rn1_v, rn1_osl, rn1_agg, rn0_v, rn0_sl, rn0, pickObs, pur_v, pur_b, pur_s, pur_nil, pur_sl, deI, deIs_sl, headB]
/-! ### the line of a filter -/
def fnames : List ByteArray := [⟨#[115, 111, 117, 114, 99, 101]⟩, ⟨#[100, 101, 115, 116]⟩, ⟨#[112, 111, 114, 116]⟩, ⟨#[109, 97, 114, 107]⟩]
def F92 : Fun := ⟨fun xs => xs = [] ∧ ((True)), fun xs => (((.osl 0 0, [strOb fnames]) : X × List Ob))⟩
theorem F92_in {xs : List X} (h : F92.pre xs) : xs = [] ∧ (True) := h
theorem F92_res  : F92.res [] = (.osl 0 0, [strOb fnames]) := by simp [F92]
theorem F92_mk  (h : True) : F92.pre [] := by simpa [F92] using h
theorem c92 : GenCA K Tryd.prog 92 F92 := by
  refine contractA Tryd.mix K [] [] (by simp) (by simp) Tryd.func92 rfl (by decide) ?_
  intro xs hxs
  obtain ⟨rfl, hp⟩ := F92_in hxs
  rw [F92_res]
  refine ⟨by rw [Tryd.ntmps92]; simp, ?_⟩
  simp -implicitDefEqProofs [Tryd.f92, List.lookup_cons, and_assoc, pick_and, pick_or, if_and, if_or, eBuildSlice, srcRows, srcOk, chunk, show List.range 4 = [0, 1, 2, 3] from rfl]
  refine fin_own [0] (by simp [pickOk, ok0]) ?_
  simp -implicitDefEqProofs [pur2_i, pur2_b, pur2_s, pur2_nil, pur2_sl, pur2_tup, rn2_tup, rn2_agg, rn2_osl, rn1_v, rn1_osl, rn1_agg, rn0_v, rn0_sl, rn0, pickObs, pur_v, pur_b, pur_s, pur_nil, pur_sl, deI, deIs_sl, strOb, sR, fnames]
theorem c89 : GenCA K Tryd.prog 89 F92 := by
  refine contractA Tryd.mix K [] [] (by simp) (by simp) Tryd.func89 rfl (by decide) ?_
  intro xs hxs
  obtain ⟨rfl, hp⟩ := F92_in hxs
  rw [F92_res]
  refine ⟨by rw [Tryd.ntmps89]; simp, ?_⟩
  simp -implicitDefEqProofs [Tryd.f89, List.lookup_cons, and_assoc, pick_and, pick_or, if_and, if_or, eBuildSlice, srcRows, srcOk, chunk, show List.range 4 = [0, 1, 2, 3] from rfl]
  refine fin_own [0] (by simp [pickOk, ok0]) ?_
  simp -implicitDefEqProofs [pur2_i, pur2_b, pur2_s, pur2_nil, pur2_sl, pur2_tup, rn2_tup, rn2_agg, rn2_osl, rn1_v, rn1_osl, rn1_agg, rn0_v, rn0_sl, rn0, pickObs, pur_v, pur_b, pur_s, pur_nil, pur_sl, deI, deIs_sl, strOb, sR, fnames]
def flOk (x : Fil) : Prop := (0 ≤ x.prio ∧ x.prio ≤ 999) ∧ (0 ≤ x.field ∧ x.field ≤ 3) ∧ (0 ≤ x.mask ∧ x.mask ≤ 65535) ∧ (0 ≤ x.value ∧ x.value ≤ 65535) ∧ (0 ≤ x.target ∧ x.target ≤ 999)
def filB (x : Fil) : ByteArray := ⟨#[102, 105, 108, 116, 101, 114, 32]⟩ ++ decB x.prio.toNat ++ ⟨#[32]⟩ ++ fnames.getD x.field.toNat emB ++ ⟨#[32]⟩ ++ hexB x.value.toNat ++ ⟨#[32, 47, 32]⟩ ++ hexB x.mask.toNat ++ ⟨#[32, 45, 62, 32]⟩ ++ decB x.target.toNat ++ ⟨#[59]⟩
theorem fn_size (k : Nat) : (fnames.getD k emB).size ≤ 6 := by
  match k with
  | 0 => decide
  | 1 => decide
  | 2 => decide
  | 3 => decide
  | k + 4 => simp [fnames, emB]; decide
theorem filB_size {x : Fil} (h : flOk x) : (filB x).size ≤ 300 := by
  obtain ⟨⟨a1, a2⟩, ⟨b1, b2⟩, ⟨c1, c2⟩, ⟨d1, d2⟩, ⟨e1, e2⟩⟩ := h
  have q1 := decB_size x.prio.toNat (by omega)
  have q2 := fn_size x.field.toNat
  have q3 := hexB_size x.value.toNat (by omega)
  have q4 := hexB_size x.mask.toNat (by omega)
  have q5 := decB_size x.target.toNat (by omega)
  unfold filB
  simp only [ba_sz, show (ByteArray.mk #[102, 105, 108, 116, 101, 114, 32]).size = 7 from rfl, show (ByteArray.mk #[32]).size = 1 from rfl, show (ByteArray.mk #[32, 47, 32]).size = 3 from rfl, show (ByteArray.mk #[32, 45, 62, 32]).size = 4 from rfl, show (ByteArray.mk #[59]).size = 1 from rfl]
  omega
def F75 : Fun := ⟨fun xs => xs = [.agg (rX (deA (xs.getD 0 .top) : Fil))] ∧ (fun (x : Fil) => (flOk x)) (deA (xs.getD 0 .top) : Fil), fun xs => (fun (x : Fil) => ((.v (.string (filB x)), []) : X × List Ob)) (deA (xs.getD 0 .top) : Fil)⟩
theorem F75_in {xs : List X} (h : F75.pre xs) : ∃ (x : Fil), xs = [.agg (rX x)] ∧ (flOk x) := ⟨_, h.1, h.2⟩
theorem F75_res (x : Fil) : F75.res [.agg (rX x)] = (.v (.string (filB x)), []) := by simp [F75]
theorem F75_mk (x : Fil) (h : flOk x) : F75.pre [.agg (rX x)] := by simpa [F75] using h
theorem c75 : GenCA K Tryd.prog 75 F75 := by
  refine contractA Tryd.mix K [(53, F53), (36, F36), (92, F92.pu)] [] (by simp [c53, c36, c92.pu]) (by simp) Tryd.func75 rfl (by decide) ?_
  intro xs hxs
  obtain ⟨x, rfl, hp⟩ := F75_in hxs
  rw [F75_res]
  refine ⟨by rw [Tryd.ntmps75]; simp, ?_⟩
  obtain ⟨⟨a1, a2⟩, ⟨b1, b2⟩, ⟨c1, c2⟩, ⟨d1, d2⟩, ⟨e1, e2⟩⟩ := hp
  have q1 := decB_size x.prio.toNat (by omega)
  have q3 := hexB_size x.value.toNat (by omega)
  have q4 := hexB_size x.mask.toNat (by omega)
  have q5 := decB_size x.target.toNat (by omega)
  have a3 : x.prio ≤ 9223372036854775807 := by omega
  have e3 : x.target ≤ 9223372036854775807 := by omega
  have hcases : x.field = 0 ∨ x.field = 1 ∨ x.field = 2 ∨ x.field = 3 := by omega
  simp -implicitDefEqProofs [Tryd.f75, F53, F36, F92, List.lookup_cons, and_assoc, pick_and, pick_or, if_and, if_or, c1, c2, d1, d2]
  refine drawP_all _ (by decide) ?_
  rcases hcases with hq | hq | hq | hq
  · have hF : filB x = ⟨#[102, 105, 108, 116, 101, 114, 32]⟩ ++ decB x.prio.toNat ++ ⟨#[32]⟩ ++ ⟨#[115, 111, 117, 114, 99, 101]⟩ ++ ⟨#[32]⟩ ++ hexB x.value.toNat ++ ⟨#[32, 47, 32]⟩ ++ hexB x.mask.toNat ++ ⟨#[32, 45, 62, 32]⟩ ++ decB x.target.toNat ++ ⟨#[59]⟩ := by unfold filB; rw [hq]; rfl
    simp -implicitDefEqProofs [List.lookup_cons, and_assoc, pick_and, pick_or, if_and, if_or, F53, F36, F92, Fun.pu, strOb, fnames, sR_cons', sR_nil', hq, a1, a3, c1, c2, d1, d2, e1, e3, ba_sz, show (ByteArray.mk #[102, 105, 108, 116, 101, 114, 32]).size = 7 from rfl, show (ByteArray.mk #[32]).size = 1 from rfl, show (ByteArray.mk #[32, 47, 32]).size = 3 from rfl, show (ByteArray.mk #[32, 45, 62, 32]).size = 4 from rfl, show (ByteArray.mk #[59]).size = 1 from rfl, show (ByteArray.mk #[115, 111, 117, 114, 99, 101]).size = 6 from rfl]
    repeat refine ⟨by omega, ?_⟩
    refine fin_pure (by simp) ?_
    simp -implicitDefEqProofs [pur2_i, pur2_b, pur2_s, pur2_nil, pur2_sl, pur2_tup, rn2_tup, rn2_agg, rn2_osl, rn1_v, rn1_osl, rn1_agg, rn0_v, rn0_sl, rn0, pickObs, pur_v, pur_b, pur_s, pur_nil, pur_sl, deI, deIs_sl, hF]
  · have hF : filB x = ⟨#[102, 105, 108, 116, 101, 114, 32]⟩ ++ decB x.prio.toNat ++ ⟨#[32]⟩ ++ ⟨#[100, 101, 115, 116]⟩ ++ ⟨#[32]⟩ ++ hexB x.value.toNat ++ ⟨#[32, 47, 32]⟩ ++ hexB x.mask.toNat ++ ⟨#[32, 45, 62, 32]⟩ ++ decB x.target.toNat ++ ⟨#[59]⟩ := by unfold filB; rw [hq]; rfl
    simp -implicitDefEqProofs [List.lookup_cons, and_assoc, pick_and, pick_or, if_and, if_or, F53, F36, F92, Fun.pu, strOb, fnames, sR_cons', sR_nil', hq, a1, a3, c1, c2, d1, d2, e1, e3, ba_sz, show (ByteArray.mk #[102, 105, 108, 116, 101, 114, 32]).size = 7 from rfl, show (ByteArray.mk #[32]).size = 1 from rfl, show (ByteArray.mk #[32, 47, 32]).size = 3 from rfl, show (ByteArray.mk #[32, 45, 62, 32]).size = 4 from rfl, show (ByteArray.mk #[59]).size = 1 from rfl, show (ByteArray.mk #[100, 101, 115, 116]).size = 4 from rfl]
    repeat refine ⟨by omega, ?_⟩
    refine fin_pure (by simp) ?_
    simp -implicitDefEqProofs [pur2_i, pur2_b, pur2_s, pur2_nil, pur2_sl, pur2_tup, rn2_tup, rn2_agg, rn2_osl, rn1_v, rn1_osl, rn1_agg, rn0_v, rn0_sl, rn0, pickObs, pur_v, pur_b, pur_s, pur_nil, pur_sl, deI, deIs_sl, hF]
  · have hF : filB x = ⟨#[102, 105, 108, 116, 101, 114, 32]⟩ ++ decB x.prio.toNat ++ ⟨#[32]⟩ ++ ⟨#[112, 111, 114, 116]⟩ ++ ⟨#[32]⟩ ++ hexB x.value.toNat ++ ⟨#[32, 47, 32]⟩ ++ hexB x.mask.toNat ++ ⟨#[32, 45, 62, 32]⟩ ++ decB x.target.toNat ++ ⟨#[59]⟩ := by unfold filB; rw [hq]; rfl
    simp -implicitDefEqProofs [List.lookup_cons, and_assoc, pick_and, pick_or, if_and, if_or, F53, F36, F92, Fun.pu, strOb, fnames, sR_cons', sR_nil', hq, a1, a3, c1, c2, d1, d2, e1, e3, ba_sz, show (ByteArray.mk #[102, 105, 108, 116, 101, 114, 32]).size = 7 from rfl, show (ByteArray.mk #[32]).size = 1 from rfl, show (ByteArray.mk #[32, 47, 32]).size = 3 from rfl, show (ByteArray.mk #[32, 45, 62, 32]).size = 4 from rfl, show (ByteArray.mk #[59]).size = 1 from rfl, show (ByteArray.mk #[112, 111, 114, 116]).size = 4 from rfl]
    repeat refine ⟨by omega, ?_⟩
    refine fin_pure (by simp) ?_
    simp -implicitDefEqProofs [pur2_i, pur2_b, pur2_s, pur2_nil, pur2_sl, pur2_tup, rn2_tup, rn2_agg, rn2_osl, rn1_v, rn1_osl, rn1_agg, rn0_v, rn0_sl, rn0, pickObs, pur_v, pur_b, pur_s, pur_nil, pur_sl, deI, deIs_sl, hF]
  · have hF : filB x = ⟨#[102, 105, 108, 116, 101, 114, 32]⟩ ++ decB x.prio.toNat ++ ⟨#[32]⟩ ++ ⟨#[109, 97, 114, 107]⟩ ++ ⟨#[32]⟩ ++ hexB x.value.toNat ++ ⟨#[32, 47, 32]⟩ ++ hexB x.mask.toNat ++ ⟨#[32, 45, 62, 32]⟩ ++ decB x.target.toNat ++ ⟨#[59]⟩ := by unfold filB; rw [hq]; rfl
    simp -implicitDefEqProofs [List.lookup_cons, and_assoc, pick_and, pick_or, if_and, if_or, F53, F36, F92, Fun.pu, strOb, fnames, sR_cons', sR_nil', hq, a1, a3, c1, c2, d1, d2, e1, e3, ba_sz, show (ByteArray.mk #[102, 105, 108, 116, 101, 114, 32]).size = 7 from rfl, show (ByteArray.mk #[32]).size = 1 from rfl, show (ByteArray.mk #[32, 47, 32]).size = 3 from rfl, show (ByteArray.mk #[32, 45, 62, 32]).size = 4 from rfl, show (ByteArray.mk #[59]).size = 1 from rfl, show (ByteArray.mk #[109, 97, 114, 107]).size = 4 from rfl]
    repeat refine ⟨by omega, ?_⟩
    refine fin_pure (by simp) ?_
    simp -implicitDefEqProofs [pur2_i, pur2_b, pur2_s, pur2_nil, pur2_sl, pur2_tup, rn2_tup, rn2_agg, rn2_osl, rn1_v, rn1_osl, rn1_agg, rn0_v, rn0_sl, rn0, pickObs, pur_v, pur_b, pur_s, pur_nil, pur_sl, deI, deIs_sl, hF]
theorem c68 : GenCA K Tryd.prog 68 F75 := by
  refine contractA Tryd.mix K [(58, F58), (89, F92.pu), (51, F51)] [] (by simp [c58, c89.pu, c51]) (by simp) Tryd.func68 rfl (by decide) ?_
  intro xs hxs
  obtain ⟨x, rfl, hp⟩ := F75_in hxs
  rw [F75_res]
  refine ⟨by rw [Tryd.ntmps68]; simp, ?_⟩
  obtain ⟨⟨a1, a2⟩, ⟨b1, b2⟩, ⟨c1, c2⟩, ⟨d1, d2⟩, ⟨e1, e2⟩⟩ := hp
  have q1 := decB_size x.prio.toNat (by omega)
  have q3 := hexB_size x.value.toNat (by omega)
  have q4 := hexB_size x.mask.toNat (by omega)
  have q5 := decB_size x.target.toNat (by omega)
  have a3 : x.prio ≤ 9223372036854775807 := by omega
  have e3 : x.target ≤ 9223372036854775807 := by omega
  have hcases : x.field = 0 ∨ x.field = 1 ∨ x.field = 2 ∨ x.field = 3 := by omega
  simp -implicitDefEqProofs [Tryd.f68, F58, F92, F51, List.lookup_cons, and_assoc, pick_and, pick_or, if_and, if_or, c1, c2, d1, d2]
  refine drawP_all _ (by decide) ?_
  rcases hcases with hq | hq | hq | hq
  · have hF : filB x = ⟨#[102, 105, 108, 116, 101, 114, 32]⟩ ++ decB x.prio.toNat ++ ⟨#[32]⟩ ++ ⟨#[115, 111, 117, 114, 99, 101]⟩ ++ ⟨#[32]⟩ ++ hexB x.value.toNat ++ ⟨#[32, 47, 32]⟩ ++ hexB x.mask.toNat ++ ⟨#[32, 45, 62, 32]⟩ ++ decB x.target.toNat ++ ⟨#[59]⟩ := by unfold filB; rw [hq]; rfl
    simp -implicitDefEqProofs [List.lookup_cons, and_assoc, pick_and, pick_or, if_and, if_or, F58, F92, F51, Fun.pu, strOb, fnames, sR_cons', sR_nil', hq, a1, a3, c1, c2, d1, d2, e1, e3, ba_sz, show (ByteArray.mk #[102, 105, 108, 116, 101, 114, 32]).size = 7 from rfl, show (ByteArray.mk #[32]).size = 1 from rfl, show (ByteArray.mk #[32, 47, 32]).size = 3 from rfl, show (ByteArray.mk #[32, 45, 62, 32]).size = 4 from rfl, show (ByteArray.mk #[59]).size = 1 from rfl, show (ByteArray.mk #[115, 111, 117, 114, 99, 101]).size = 6 from rfl]
    repeat refine ⟨by omega, ?_⟩
    refine fin_pure (by simp) ?_
    simp -implicitDefEqProofs [pur2_i, pur2_b, pur2_s, pur2_nil, pur2_sl, pur2_tup, rn2_tup, rn2_agg, rn2_osl, rn1_v, rn1_osl, rn1_agg, rn0_v, rn0_sl, rn0, pickObs, pur_v, pur_b, pur_s, pur_nil, pur_sl, deI, deIs_sl, hF]
  · have hF : filB x = ⟨#[102, 105, 108, 116, 101, 114, 32]⟩ ++ decB x.prio.toNat ++ ⟨#[32]⟩ ++ ⟨#[100, 101, 115, 116]⟩ ++ ⟨#[32]⟩ ++ hexB x.value.toNat ++ ⟨#[32, 47, 32]⟩ ++ hexB x.mask.toNat ++ ⟨#[32, 45, 62, 32]⟩ ++ decB x.target.toNat ++ ⟨#[59]⟩ := by unfold filB; rw [hq]; rfl
    simp -implicitDefEqProofs [List.lookup_cons, and_assoc, pick_and, pick_or, if_and, if_or, F58, F92, F51, Fun.pu, strOb, fnames, sR_cons', sR_nil', hq, a1, a3, c1, c2, d1, d2, e1, e3, ba_sz, show (ByteArray.mk #[102, 105, 108, 116, 101, 114, 32]).size = 7 from rfl, show (ByteArray.mk #[32]).size = 1 from rfl, show (ByteArray.mk #[32, 47, 32]).size = 3 from rfl, show (ByteArray.mk #[32, 45, 62, 32]).size = 4 from rfl, show (ByteArray.mk #[59]).size = 1 from rfl, show (ByteArray.mk #[100, 101, 115, 116]).size = 4 from rfl]
    repeat refine ⟨by omega, ?_⟩
    refine fin_pure (by simp) ?_
    simp -implicitDefEqProofs [pur2_i, pur2_b, pur2_s, pur2_nil, pur2_sl, pur2_tup, rn2_tup, rn2_agg, rn2_osl, rn1_v, rn1_osl, rn1_agg, rn0_v, rn0_sl, rn0, pickObs, pur_v, pur_b, pur_s, pur_nil, pur_sl, deI, deIs_sl, hF]
  · have hF : filB x = ⟨#[102, 105, 108, 116, 101, 114, 32]⟩ ++ decB x.prio.toNat ++ ⟨#[32]⟩ ++ ⟨#[112, 111, 114, 116]⟩ ++ ⟨#[32]⟩ ++ hexB x.value.toNat ++ ⟨#[32, 47, 32]⟩ ++ hexB x.mask.toNat ++ ⟨#[32, 45, 62, 32]⟩ ++ decB x.target.toNat ++ ⟨#[59]⟩ := by unfold filB; rw [hq]; rfl
    simp -implicitDefEqProofs [List.lookup_cons, and_assoc, pick_and, pick_or, if_and, if_or, F58, F92, F51, Fun.pu, strOb, fnames, sR_cons', sR_nil', hq, a1, a3, c1, c2, d1, d2, e1, e3, ba_sz, show (ByteArray.mk #[102, 105, 108, 116, 101, 114, 32]).size = 7 from rfl, show (ByteArray.mk #[32]).size = 1 from rfl, show (ByteArray.mk #[32, 47, 32]).size = 3 from rfl, show (ByteArray.mk #[32, 45, 62, 32]).size = 4 from rfl, show (ByteArray.mk #[59]).size = 1 from rfl, show (ByteArray.mk #[112, 111, 114, 116]).size = 4 from rfl]
    repeat refine ⟨by omega, ?_⟩
    refine fin_pure (by simp) ?_
    simp -implicitDefEqProofs [pur2_i, pur2_b, pur2_s, pur2_nil, pur2_sl, pur2_tup, rn2_tup, rn2_agg, rn2_osl, rn1_v, rn1_osl, rn1_agg, rn0_v, rn0_sl, rn0, pickObs, pur_v, pur_b, pur_s, pur_nil, pur_sl, deI, deIs_sl, hF]
  · have hF : filB x = ⟨#[102, 105, 108, 116, 101, 114, 32]⟩ ++ decB x.prio.toNat ++ ⟨#[32]⟩ ++ ⟨#[109, 97, 114, 107]⟩ ++ ⟨#[32]⟩ ++ hexB x.value.toNat ++ ⟨#[32, 47, 32]⟩ ++ hexB x.mask.toNat ++ ⟨#[32, 45, 62, 32]⟩ ++ decB x.target.toNat ++ ⟨#[59]⟩ := by unfold filB; rw [hq]; rfl
    simp -implicitDefEqProofs [List.lookup_cons, and_assoc, pick_and, pick_or, if_and, if_or, F58, F92, F51, Fun.pu, strOb, fnames, sR_cons', sR_nil', hq, a1, a3, c1, c2, d1, d2, e1, e3, ba_sz, show (ByteArray.mk #[102, 105, 108, 116, 101, 114, 32]).size = 7 from rfl, show (ByteArray.mk #[32]).size = 1 from rfl, show (ByteArray.mk #[32, 47, 32]).size = 3 from rfl, show (ByteArray.mk #[32, 45, 62, 32]).size = 4 from rfl, show (ByteArray.mk #[59]).size = 1 from rfl, show (ByteArray.mk #[109, 97, 114, 107]).size = 4 from rfl]
    repeat refine ⟨by omega, ?_⟩
    refine fin_pure (by simp) ?_
    simp -implicitDefEqProofs [pur2_i, pur2_b, pur2_s, pur2_nil, pur2_sl, pur2_tup, rn2_tup, rn2_agg, rn2_osl, rn1_v, rn1_osl, rn1_agg, rn0_v, rn0_sl, rn0, pickObs, pur_v, pur_b, pur_s, pur_nil, pur_sl, deI, deIs_sl, hF]
end Go.Proofs
