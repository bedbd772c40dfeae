/-
  What is proved here: the head of a class and the line of a filter as texts, on both sides. Condition: none.
-/
import Derived.Test.YtflhbkcjfmajeaaGreatDoorH1gz
import Derived.Test.YtflhbkcjfmajeaaGreatDoorC0z
namespace Go.Proofs
open Go.Abs
set_option linter.unusedSimpArgs false
set_option linter.unnecessarySimpa false
set_option linter.unusedVariables false
set_option maxHeartbeats 8000000
set_option maxRecDepth 20000

theorem hexL_dig : ∀ (k n : Nat) (o : ByteArray), n < 16 ^ (k + 1) → (hexL n o).size ≤ o.size + (k + 1)
  | 0, n, o, h => by
    rw [hexL_last o (by omega), ByteArray.size_append, hexD_size]
    omega
  | k + 1, n, o, h => by
    by_cases h0 : n / 16 = 0
    · rw [hexL_last o h0, ByteArray.size_append, hexD_size]; omega
    · rw [hexL_more o h0]
      have := hexL_dig k (n / 16) (hexD n ++ o) (by rw [Nat.pow_succ] at h; omega)
      rw [ByteArray.size_append, hexD_size] at this
      omega
theorem hexB_size (n : Nat) (h : n ≤ 65535) : (hexB n).size ≤ 64 := by
  unfold hexB
  rw [ByteArray.size_append, show (ByteArray.mk #[48, 120]).size = 2 from rfl]
  have := hexL_dig 3 n emB (by omega)
  have h0 : emB.size = 0 := rfl
  omega
/-! ### the head of a class -/
def headB (x : Cls) : ByteArray := ⟨#[99, 108, 97, 115, 115, 32]⟩ ++ decB x.id.toNat ++ ⟨#[32, 114, 97, 116, 101, 32]⟩ ++ numB x.rate.toNat ++ ⟨#[32, 99, 101, 105, 108, 32]⟩ ++ numB x.ceil.toNat ++ ⟨#[32, 98, 117, 114, 115, 116, 32]⟩ ++ numB x.burst.toNat ++ ⟨#[32, 99, 98, 117, 114, 115, 116, 32]⟩ ++ numB x.cburst.toNat ++ ⟨#[32, 112, 114, 105, 111, 32]⟩ ++ decB x.prio.toNat
def hdOk (x : Cls) : Prop := (0 ≤ x.id ∧ x.id ≤ 999) ∧ (0 ≤ x.rate ∧ x.rate ≤ 1000000000) ∧ (0 ≤ x.ceil ∧ x.ceil ≤ 1000000000) ∧ (0 ≤ x.burst ∧ x.burst ≤ 1000000000) ∧ (0 ≤ x.cburst ∧ x.cburst ≤ 1000000000) ∧ (0 ≤ x.prio ∧ x.prio ≤ 999)
theorem headB_size {x : Cls} (h : hdOk x) : (headB x).size ≤ 300 := by
  obtain ⟨⟨a1, a2⟩, ⟨b1, b2⟩, ⟨c1, c2⟩, ⟨d1, d2⟩, ⟨e1, e2⟩, ⟨f1, f2⟩⟩ := h
  have q1 := decB_size x.id.toNat (by omega)
  have q2 := numB_size x.rate.toNat (by omega)
  have q3 := numB_size x.ceil.toNat (by omega)
  have q4 := numB_size x.burst.toNat (by omega)
  have q5 := numB_size x.cburst.toNat (by omega)
  have q6 := decB_size x.prio.toNat (by omega)
  unfold headB
  simp only [ba_sz, show (ByteArray.mk #[99, 108, 97, 115, 115, 32]).size = 6 from rfl, show (ByteArray.mk #[32, 114, 97, 116, 101, 32]).size = 6 from rfl, show (ByteArray.mk #[32, 99, 101, 105, 108, 32]).size = 6 from rfl, show (ByteArray.mk #[32, 98, 117, 114, 115, 116, 32]).size = 7 from rfl, show (ByteArray.mk #[32, 99, 98, 117, 114, 115, 116, 32]).size = 8 from rfl, show (ByteArray.mk #[32, 112, 114, 105, 111, 32]).size = 6 from rfl]
  omega
def F108 : Fun := ⟨fun xs => xs = [.agg (rX (deA (xs.getD 0 .top) : Cls))] ∧ (fun (x : Cls) => (hdOk x)) (deA (xs.getD 0 .top) : Cls), fun xs => (fun (x : Cls) => ((.v (.string (headB x)), []) : X × List Ob)) (deA (xs.getD 0 .top) : Cls)⟩
theorem F108_in {xs : List X} (h : F108.pre xs) : ∃ (x : Cls), xs = [.agg (rX x)] ∧ (hdOk x) := ⟨_, h.1, h.2⟩
theorem F108_res (x : Cls) : F108.res [.agg (rX x)] = (.v (.string (headB x)), []) := by simp [F108]
theorem F108_mk (x : Cls) (h : hdOk x) : F108.pre [.agg (rX x)] := by simpa [F108] using h
theorem c108 : GenCA K Tryz.prog 108 F108 := by
  refine contractA Tryz.mix K [(84, F84), (109, F109)] [] (by simp [c84, c109]) (by simp) Tryz.func108 rfl (by decide) ?_
  intro xs hxs
  obtain ⟨x, rfl, hp⟩ := F108_in hxs
  rw [F108_res]
  refine ⟨by rw [Tryz.ntmps108]; simp, ?_⟩
  obtain ⟨⟨a1, a2⟩, ⟨b1, b2⟩, ⟨c1, c2⟩, ⟨d1, d2⟩, ⟨e1, e2⟩, ⟨f1, f2⟩⟩ := hp
  have q1 := decB_size x.id.toNat (by omega)
  have q2 := numB_size x.rate.toNat (by omega)
  have q3 := numB_size x.ceil.toNat (by omega)
  have q4 := numB_size x.burst.toNat (by omega)
  have q5 := numB_size x.cburst.toNat (by omega)
  have q6 := decB_size x.prio.toNat (by omega)
  have a3 : x.id ≤ 9223372036854775807 := by omega
  have f3 : x.prio ≤ 9223372036854775807 := by omega
  simp -implicitDefEqProofs [Tryz.f108, F84, F109, List.lookup_cons, and_assoc, pick_and, pick_or, if_and, if_or]
  refine drawP_all _ (by decide) ?_
  simp -implicitDefEqProofs [List.lookup_cons, and_assoc, pick_and, pick_or, if_and, if_or, F84, F109, a1, a3, b1, b2, c1, c2, d1, d2, e1, e2, f1, f3, ba_sz, show (ByteArray.mk #[99, 108, 97, 115, 115, 32]).size = 6 from rfl, show (ByteArray.mk #[32, 114, 97, 116, 101, 32]).size = 6 from rfl, show (ByteArray.mk #[32, 99, 101, 105, 108, 32]).size = 6 from rfl, show (ByteArray.mk #[32, 98, 117, 114, 115, 116, 32]).size = 7 from rfl, show (ByteArray.mk #[32, 99, 98, 117, 114, 115, 116, 32]).size = 8 from rfl, show (ByteArray.mk #[32, 112, 114, 105, 111, 32]).size = 6 from rfl]
  repeat refine ⟨by omega, ?_⟩
  refine fin_pure (by simp) ?_
  simp -implicitDefEqProofs [pur2_i, pur2_b, pur2_s, pur2_nil, pur2_sl, pur2_tup, rn2_tup, rn2_agg, rn2_osl, rn1_v, rn1_osl, rn1_agg, rn0_v, rn0_sl, rn0, pickObs, pur_v, pur_b, pur_s, pur_nil, pur_sl, deI, deIs_sl, headB]
def fnames : List ByteArray := [⟨#[115, 111, 117, 114, 99, 101]⟩, ⟨#[100, 101, 115, 116]⟩, ⟨#[112, 111, 114, 116]⟩, ⟨#[109, 97, 114, 107]⟩]
def F113 : Fun := ⟨fun xs => xs = [] ∧ ((True)), fun xs => (((.osl 0 0, [strOb fnames]) : X × List Ob))⟩
theorem F113_in {xs : List X} (h : F113.pre xs) : xs = [] ∧ (True) := h
theorem F113_res  : F113.res [] = (.osl 0 0, [strOb fnames]) := by simp [F113]
theorem F113_mk  (h : True) : F113.pre [] := by simpa [F113] using h
theorem c113 : GenCA K Tryz.prog 113 F113 := by
  refine contractA Tryz.mix K [] [] (by simp) (by simp) Tryz.func113 rfl (by decide) ?_
  intro xs hxs
  obtain ⟨rfl, hp⟩ := F113_in hxs
  rw [F113_res]
  refine ⟨by rw [Tryz.ntmps113]; simp, ?_⟩
  simp -implicitDefEqProofs [Tryz.f113, List.lookup_cons, and_assoc, pick_and, pick_or, if_and, if_or, eBuildSlice, srcRows, srcOk, chunk, show List.range 4 = [0, 1, 2, 3] from rfl]
  refine fin_own [0] (by simp [pickOk, ok0]) ?_
  simp -implicitDefEqProofs [pur2_i, pur2_b, pur2_s, pur2_nil, pur2_sl, pur2_tup, rn2_tup, rn2_agg, rn2_osl, rn1_v, rn1_osl, rn1_agg, rn0_v, rn0_sl, rn0, pickObs, pur_v, pur_b, pur_s, pur_nil, pur_sl, deI, deIs_sl, strOb, sR, fnames]
def flOk (x : Fil) : Prop := (0 ≤ x.prio ∧ x.prio ≤ 999) ∧ (0 ≤ x.field ∧ x.field ≤ 3) ∧ (0 ≤ x.mask ∧ x.mask ≤ 65535) ∧ (0 ≤ x.value ∧ x.value ≤ 65535) ∧ (0 ≤ x.target ∧ x.target ≤ 999)
def filB (x : Fil) : ByteArray := ⟨#[102, 105, 108, 116, 101, 114, 32]⟩ ++ decB x.prio.toNat ++ ⟨#[32]⟩ ++ fnames.getD x.field.toNat emB ++ ⟨#[32]⟩ ++ hexB x.value.toNat ++ ⟨#[32, 47, 32]⟩ ++ hexB x.mask.toNat ++ ⟨#[32, 45, 62, 32]⟩ ++ decB x.target.toNat ++ ⟨#[59]⟩
theorem fn_size (k : Nat) : (fnames.getD k emB).size ≤ 6 := by
  match k with
  | 0 => decide
  | 1 => decide
  | 2 => decide
  | 3 => decide
  | k + 4 => simp [fnames, emB]; decide
theorem filB_size {x : Fil} (h : flOk x) : (filB x).size ≤ 300 := by
  obtain ⟨⟨a1, a2⟩, ⟨b1, b2⟩, ⟨c1, c2⟩, ⟨d1, d2⟩, ⟨e1, e2⟩⟩ := h
  have q1 := decB_size x.prio.toNat (by omega)
  have q2 := fn_size x.field.toNat
  have q3 := hexB_size x.value.toNat (by omega)
  have q4 := hexB_size x.mask.toNat (by omega)
  have q5 := decB_size x.target.toNat (by omega)
  unfold filB
  simp only [ba_sz, show (ByteArray.mk #[102, 105, 108, 116, 101, 114, 32]).size = 7 from rfl, show (ByteArray.mk #[32]).size = 1 from rfl, show (ByteArray.mk #[32, 47, 32]).size = 3 from rfl, show (ByteArray.mk #[32, 45, 62, 32]).size = 4 from rfl, show (ByteArray.mk #[59]).size = 1 from rfl]
  omega
def F88 : Fun := ⟨fun xs => xs = [.agg (rX (deA (xs.getD 0 .top) : Fil))] ∧ (fun (x : Fil) => (flOk x)) (deA (xs.getD 0 .top) : Fil), fun xs => (fun (x : Fil) => ((.v (.string (filB x)), []) : X × List Ob)) (deA (xs.getD 0 .top) : Fil)⟩
theorem F88_in {xs : List X} (h : F88.pre xs) : ∃ (x : Fil), xs = [.agg (rX x)] ∧ (flOk x) := ⟨_, h.1, h.2⟩
theorem F88_res (x : Fil) : F88.res [.agg (rX x)] = (.v (.string (filB x)), []) := by simp [F88]
theorem F88_mk (x : Fil) (h : flOk x) : F88.pre [.agg (rX x)] := by simpa [F88] using h
theorem c88 : GenCA K Tryz.prog 88 F88 := by
  refine contractA Tryz.mix K [(112, F112), (84, F84), (113, F113.pu)] [] (by simp [c112, c84, c113.pu]) (by simp) Tryz.func88 rfl (by decide) ?_
  intro xs hxs
  obtain ⟨x, rfl, hp⟩ := F88_in hxs
  rw [F88_res]
  refine ⟨by rw [Tryz.ntmps88]; simp, ?_⟩
  obtain ⟨⟨a1, a2⟩, ⟨b1, b2⟩, ⟨c1, c2⟩, ⟨d1, d2⟩, ⟨e1, e2⟩⟩ := hp
  have q1 := decB_size x.prio.toNat (by omega)
  have q3 := hexB_size x.value.toNat (by omega)
  have q4 := hexB_size x.mask.toNat (by omega)
  have q5 := decB_size x.target.toNat (by omega)
  have a3 : x.prio ≤ 9223372036854775807 := by omega
  have e3 : x.target ≤ 9223372036854775807 := by omega
  have hcases : x.field = 0 ∨ x.field = 1 ∨ x.field = 2 ∨ x.field = 3 := by omega
  simp -implicitDefEqProofs [Tryz.f88, F112, F84, F113, List.lookup_cons, and_assoc, pick_and, pick_or, if_and, if_or, c1, c2, d1, d2]
  refine drawP_all _ (by decide) ?_
  rcases hcases with hq | hq | hq | hq
  · have hF : filB x = ⟨#[102, 105, 108, 116, 101, 114, 32]⟩ ++ decB x.prio.toNat ++ ⟨#[32]⟩ ++ ⟨#[115, 111, 117, 114, 99, 101]⟩ ++ ⟨#[32]⟩ ++ hexB x.value.toNat ++ ⟨#[32, 47, 32]⟩ ++ hexB x.mask.toNat ++ ⟨#[32, 45, 62, 32]⟩ ++ decB x.target.toNat ++ ⟨#[59]⟩ := by unfold filB; rw [hq]; rfl
    simp -implicitDefEqProofs [List.lookup_cons, and_assoc, pick_and, pick_or, if_and, if_or, F112, F84, F113, Fun.pu, strOb, fnames, sR_cons', sR_nil', hq, a1, a3, c1, c2, d1, d2, e1, e3, ba_sz, show (ByteArray.mk #[102, 105, 108, 116, 101, 114, 32]).size = 7 from rfl, show (ByteArray.mk #[32]).size = 1 from rfl, show (ByteArray.mk #[32, 47, 32]).size = 3 from rfl, show (ByteArray.mk #[32, 45, 62, 32]).size = 4 from rfl, show (ByteArray.mk #[59]).size = 1 from rfl, show (ByteArray.mk #[115, 111, 117, 114, 99, 101]).size = 6 from rfl]
    repeat refine ⟨by omega, ?_⟩
    refine fin_pure (by simp) ?_
    simp -implicitDefEqProofs [pur2_i, pur2_b, pur2_s, pur2_nil, pur2_sl, pur2_tup, rn2_tup, rn2_agg, rn2_osl, rn1_v, rn1_osl, rn1_agg, rn0_v, rn0_sl, rn0, pickObs, pur_v, pur_b, pur_s, pur_nil, pur_sl, deI, deIs_sl, hF]
  · have hF : filB x = ⟨#[102, 105, 108, 116, 101, 114, 32]⟩ ++ decB x.prio.toNat ++ ⟨#[32]⟩ ++ ⟨#[100, 101, 115, 116]⟩ ++ ⟨#[32]⟩ ++ hexB x.value.toNat ++ ⟨#[32, 47, 32]⟩ ++ hexB x.mask.toNat ++ ⟨#[32, 45, 62, 32]⟩ ++ decB x.target.toNat ++ ⟨#[59]⟩ := by unfold filB; rw [hq]; rfl
    simp -implicitDefEqProofs [List.lookup_cons, and_assoc, pick_and, pick_or, if_and, if_or, F112, F84, F113, Fun.pu, strOb, fnames, sR_cons', sR_nil', hq, a1, a3, c1, c2, d1, d2, e1, e3, ba_sz, show (ByteArray.mk #[102, 105, 108, 116, 101, 114, 32]).size = 7 from rfl, show (ByteArray.mk #[32]).size = 1 from rfl, show (ByteArray.mk #[32, 47, 32]).size = 3 from rfl, show (ByteArray.mk #[32, 45, 62, 32]).size = 4 from rfl, show (ByteArray.mk #[59]).size = 1 from rfl, show (ByteArray.mk #[100, 101, 115, 116]).size = 4 from rfl]
    repeat refine ⟨by omega, ?_⟩
    refine fin_pure (by simp) ?_
    simp -implicitDefEqProofs [pur2_i, pur2_b, pur2_s, pur2_nil, pur2_sl, pur2_tup, rn2_tup, rn2_agg, rn2_osl, rn1_v, rn1_osl, rn1_agg, rn0_v, rn0_sl, rn0, pickObs, pur_v, pur_b, pur_s, pur_nil, pur_sl, deI, deIs_sl, hF]
  · have hF : filB x = ⟨#[102, 105, 108, 116, 101, 114, 32]⟩ ++ decB x.prio.toNat ++ ⟨#[32]⟩ ++ ⟨#[112, 111, 114, 116]⟩ ++ ⟨#[32]⟩ ++ hexB x.value.toNat ++ ⟨#[32, 47, 32]⟩ ++ hexB x.mask.toNat ++ ⟨#[32, 45, 62, 32]⟩ ++ decB x.target.toNat ++ ⟨#[59]⟩ := by unfold filB; rw [hq]; rfl
    simp -implicitDefEqProofs [List.lookup_cons, and_assoc, pick_and, pick_or, if_and, if_or, F112, F84, F113, Fun.pu, strOb, fnames, sR_cons', sR_nil', hq, a1, a3, c1, c2, d1, d2, e1, e3, ba_sz, show (ByteArray.mk #[102, 105, 108, 116, 101, 114, 32]).size = 7 from rfl, show (ByteArray.mk #[32]).size = 1 from rfl, show (ByteArray.mk #[32, 47, 32]).size = 3 from rfl, show (ByteArray.mk #[32, 45, 62, 32]).size = 4 from rfl, show (ByteArray.mk #[59]).size = 1 from rfl, show (ByteArray.mk #[112, 111, 114, 116]).size = 4 from rfl]
    repeat refine ⟨by omega, ?_⟩
    refine fin_pure (by simp) ?_
    simp -implicitDefEqProofs [pur2_i, pur2_b, pur2_s, pur2_nil, pur2_sl, pur2_tup, rn2_tup, rn2_agg, rn2_osl, rn1_v, rn1_osl, rn1_agg, rn0_v, rn0_sl, rn0, pickObs, pur_v, pur_b, pur_s, pur_nil, pur_sl, deI, deIs_sl, hF]
  · have hF : filB x = ⟨#[102, 105, 108, 116, 101, 114, 32]⟩ ++ decB x.prio.toNat ++ ⟨#[32]⟩ ++ ⟨#[109, 97, 114, 107]⟩ ++ ⟨#[32]⟩ ++ hexB x.value.toNat ++ ⟨#[32, 47, 32]⟩ ++ hexB x.mask.toNat ++ ⟨#[32, 45, 62, 32]⟩ ++ decB x.target.toNat ++ ⟨#[59]⟩ := by unfold filB; rw [hq]; rfl
    simp -implicitDefEqProofs [List.lookup_cons, and_assoc, pick_and, pick_or, if_and, if_or, F112, F84, F113, Fun.pu, strOb, fnames, sR_cons', sR_nil', hq, a1, a3, c1, c2, d1, d2, e1, e3, ba_sz, show (ByteArray.mk #[102, 105, 108, 116, 101, 114, 32]).size = 7 from rfl, show (ByteArray.mk #[32]).size = 1 from rfl, show (ByteArray.mk #[32, 47, 32]).size = 3 from rfl, show (ByteArray.mk #[32, 45, 62, 32]).size = 4 from rfl, show (ByteArray.mk #[59]).size = 1 from rfl, show (ByteArray.mk #[109, 97, 114, 107]).size = 4 from rfl]
    repeat refine ⟨by omega, ?_⟩
    refine fin_pure (by simp) ?_
    simp -implicitDefEqProofs [pur2_i, pur2_b, pur2_s, pur2_nil, pur2_sl, pur2_tup, rn2_tup, rn2_agg, rn2_osl, rn1_v, rn1_osl, rn1_agg, rn0_v, rn0_sl, rn0, pickObs, pur_v, pur_b, pur_s, pur_nil, pur_sl, deI, deIs_sl, hF]
end Go.Proofs
