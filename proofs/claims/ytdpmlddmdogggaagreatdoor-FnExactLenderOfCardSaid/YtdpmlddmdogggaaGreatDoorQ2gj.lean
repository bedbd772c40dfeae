/-
  What is proved here: the head of a class and the line of a filter as texts, on both sides. Condition: none.
-/
import Derived.Test.YtdpmlddmdogggaaGreatDoorH1gj
import Derived.Test.YtdpmlddmdogggaaGreatDoorC0j
namespace Go.Proofs
open Go.Abs
set_option linter.unusedSimpArgs false
set_option linter.unnecessarySimpa false
set_option linter.unusedVariables false
set_option maxHeartbeats 8000000
set_option maxRecDepth 20000
theorem hexL_dig : ∀ (k n : Nat) (o : ByteArray), n < 16 ^ (k + 1) → (hexL n o).size ≤ o.size + (k + 1)
  | 0, n, o, h => by
    rw [hexL_last o (by omega), ByteArray.size_append, hexD_size]
    omega
  | k + 1, n, o, h => by
    by_cases h0 : n / 16 = 0
    · rw [hexL_last o h0, ByteArray.size_append, hexD_size]; omega
    · rw [hexL_more o h0]
      have := hexL_dig k (n / 16) (hexD n ++ o) (by rw [Nat.pow_succ] at h; omega)
      rw [ByteArray.size_append, hexD_size] at this
      omega
theorem hexB_size (n : Nat) (h : n ≤ 65535) : (hexB n).size ≤ 64 := by
  unfold hexB
  rw [ByteArray.size_append, show (ByteArray.mk #[48, 120]).size = 2 from rfl]
  have := hexL_dig 3 n emB (by omega)
  have h0 : emB.size = 0 := rfl
  omega
def headB (x : Cls) : ByteArray := ⟨#[99, 108, 97, 115, 115, 32]⟩ ++ decB x.id.toNat ++ ⟨#[32, 114, 97, 116, 101, 32]⟩ ++ numB x.rate.toNat ++ ⟨#[32, 99, 101, 105, 108, 32]⟩ ++ numB x.ceil.toNat ++ ⟨#[32, 98, 117, 114, 115, 116, 32]⟩ ++ numB x.burst.toNat ++ ⟨#[32, 99, 98, 117, 114, 115, 116, 32]⟩ ++ numB x.cburst.toNat ++ ⟨#[32, 112, 114, 105, 111, 32]⟩ ++ decB x.prio.toNat
def hdOk (x : Cls) : Prop := (0 ≤ x.id ∧ x.id ≤ 999) ∧ (0 ≤ x.rate ∧ x.rate ≤ 1000000000) ∧ (0 ≤ x.ceil ∧ x.ceil ≤ 1000000000) ∧ (0 ≤ x.burst ∧ x.burst ≤ 1000000000) ∧ (0 ≤ x.cburst ∧ x.cburst ≤ 1000000000) ∧ (0 ≤ x.prio ∧ x.prio ≤ 999)
theorem headB_size {x : Cls} (h : hdOk x) : (headB x).size ≤ 300 := by
  obtain ⟨⟨a1, a2⟩, ⟨b1, b2⟩, ⟨c1, c2⟩, ⟨d1, d2⟩, ⟨e1, e2⟩, ⟨f1, f2⟩⟩ := h
  have q1 := decB_size x.id.toNat (by omega)
  have q2 := numB_size x.rate.toNat (by omega)
  have q3 := numB_size x.ceil.toNat (by omega)
  have q4 := numB_size x.burst.toNat (by omega)
  have q5 := numB_size x.cburst.toNat (by omega)
  have q6 := decB_size x.prio.toNat (by omega)
  unfold headB
  simp only [ba_sz, show (ByteArray.mk #[99, 108, 97, 115, 115, 32]).size = 6 from rfl, show (ByteArray.mk #[32, 114, 97, 116, 101, 32]).size = 6 from rfl, show (ByteArray.mk #[32, 99, 101, 105, 108, 32]).size = 6 from rfl, show (ByteArray.mk #[32, 98, 117, 114, 115, 116, 32]).size = 7 from rfl, show (ByteArray.mk #[32, 99, 98, 117, 114, 115, 116, 32]).size = 8 from rfl, show (ByteArray.mk #[32, 112, 114, 105, 111, 32]).size = 6 from rfl]
  omega
def F180 : Fun := ⟨fun xs => xs = [.agg (rX (deA (xs.getD 0 .top) : Cls))] ∧ (fun (x : Cls) => (hdOk x)) (deA (xs.getD 0 .top) : Cls), fun xs => (fun (x : Cls) => ((.v (.string (headB x)), []) : X × List Ob)) (deA (xs.getD 0 .top) : Cls)⟩
theorem F180_in {xs : List X} (h : F180.pre xs) : ∃ (x : Cls), xs = [.agg (rX x)] ∧ (hdOk x) := ⟨_, h.1, h.2⟩
theorem F180_res (x : Cls) : F180.res [.agg (rX x)] = (.v (.string (headB x)), []) := by simp [F180]
theorem c180 : GenCA K Tryz.prog 180 F180 := by
  refine contractA Tryz.mix K [(151, F151), (181, F181)] [] (by simp [c151, c181]) (by simp) Tryz.func180 rfl (by decide) ?_
  intro xs hxs
  obtain ⟨x, rfl, hp⟩ := F180_in hxs
  rw [F180_res]
  refine ⟨by rw [Tryz.ntmps180]; simp, ?_⟩
  obtain ⟨⟨a1, a2⟩, ⟨b1, b2⟩, ⟨c1, c2⟩, ⟨d1, d2⟩, ⟨e1, e2⟩, ⟨f1, f2⟩⟩ := hp
  have q1 := decB_size x.id.toNat (by omega)
  have q2 := numB_size x.rate.toNat (by omega)
  have q3 := numB_size x.ceil.toNat (by omega)
  have q4 := numB_size x.burst.toNat (by omega)
  have q5 := numB_size x.cburst.toNat (by omega)
  have q6 := decB_size x.prio.toNat (by omega)
  have a3 : x.id ≤ 9223372036854775807 := by omega
  have f3 : x.prio ≤ 9223372036854775807 := by omega
  simp -implicitDefEqProofs [Tryz.f180, F151, F181, List.lookup_cons, eS]
  refine drawP_all _ (by decide) ?_
  simp -implicitDefEqProofs [List.lookup_cons, eS, F151, F181, a1, a3, b1, b2, c1, c2, d1, d2, e1, e2, f1, f3, ba_sz, show (ByteArray.mk #[99, 108, 97, 115, 115, 32]).size = 6 from rfl, show (ByteArray.mk #[32, 114, 97, 116, 101, 32]).size = 6 from rfl, show (ByteArray.mk #[32, 99, 101, 105, 108, 32]).size = 6 from rfl, show (ByteArray.mk #[32, 98, 117, 114, 115, 116, 32]).size = 7 from rfl, show (ByteArray.mk #[32, 99, 98, 117, 114, 115, 116, 32]).size = 8 from rfl, show (ByteArray.mk #[32, 112, 114, 105, 111, 32]).size = 6 from rfl]
  repeat refine ⟨by omega, ?_⟩
  refine fin_pure (by simp) ?_
  simp -implicitDefEqProofs [fS, rn0, pickObs, deI, headB]
def fnames : List ByteArray := [⟨#[115, 111, 117, 114, 99, 101]⟩, ⟨#[100, 101, 115, 116]⟩, ⟨#[112, 111, 114, 116]⟩, ⟨#[109, 97, 114, 107]⟩]
def F185 : Fun := ⟨fun xs => xs = [] ∧ ((True)), fun xs => (((.osl 0 0, [strOb fnames]) : X × List Ob))⟩
theorem F185_in {xs : List X} (h : F185.pre xs) : xs = [] ∧ (True) := h
theorem F185_res  : F185.res [] = (.osl 0 0, [strOb fnames]) := by simp [F185]
theorem c185 : GenCA K Tryz.prog 185 F185 := by
  refine contractA Tryz.mix K [] [] (by simp) (by simp) Tryz.func185 rfl (by decide) ?_
  intro xs hxs
  obtain ⟨rfl, hp⟩ := F185_in hxs
  rw [F185_res]
  refine ⟨by rw [Tryz.ntmps185]; simp, ?_⟩
  simp -implicitDefEqProofs [Tryz.f185, List.lookup_cons, eS, eBuildSlice, srcRows, srcOk, chunk, show List.range 4 = [0, 1, 2, 3] from rfl]
  refine fin_own [0] (by simp [pickOk, ok0]) ?_
  simp -implicitDefEqProofs [fS, rn0, pickObs, deI, strOb, sR, fnames]
def flOk (x : Fil) : Prop := (0 ≤ x.prio ∧ x.prio ≤ 999) ∧ (0 ≤ x.field ∧ x.field ≤ 3) ∧ (0 ≤ x.mask ∧ x.mask ≤ 65535) ∧ (0 ≤ x.value ∧ x.value ≤ 65535) ∧ (0 ≤ x.target ∧ x.target ≤ 999)
def filB (x : Fil) : ByteArray := ⟨#[102, 105, 108, 116, 101, 114, 32]⟩ ++ decB x.prio.toNat ++ ⟨#[32]⟩ ++ fnames.getD x.field.toNat emB ++ ⟨#[32]⟩ ++ hexB x.value.toNat ++ ⟨#[32, 47, 32]⟩ ++ hexB x.mask.toNat ++ ⟨#[32, 45, 62, 32]⟩ ++ decB x.target.toNat ++ ⟨#[59]⟩
theorem fn_size (k : Nat) : (fnames.getD k emB).size ≤ 6 := by
  match k with
  | 0 => decide
  | 1 => decide
  | 2 => decide
  | 3 => decide
  | k + 4 => simp [fnames, emB]; decide
theorem filB_size {x : Fil} (h : flOk x) : (filB x).size ≤ 300 := by
  obtain ⟨⟨a1, a2⟩, ⟨b1, b2⟩, ⟨c1, c2⟩, ⟨d1, d2⟩, ⟨e1, e2⟩⟩ := h
  have q1 := decB_size x.prio.toNat (by omega)
  have q2 := fn_size x.field.toNat
  have q3 := hexB_size x.value.toNat (by omega)
  have q4 := hexB_size x.mask.toNat (by omega)
  have q5 := decB_size x.target.toNat (by omega)
  unfold filB
  simp only [ba_sz, show (ByteArray.mk #[102, 105, 108, 116, 101, 114, 32]).size = 7 from rfl, show (ByteArray.mk #[32]).size = 1 from rfl, show (ByteArray.mk #[32, 47, 32]).size = 3 from rfl, show (ByteArray.mk #[32, 45, 62, 32]).size = 4 from rfl, show (ByteArray.mk #[59]).size = 1 from rfl]
  omega
def F155 : Fun := ⟨fun xs => xs = [.agg (rX (deA (xs.getD 0 .top) : Fil))] ∧ (fun (x : Fil) => (flOk x)) (deA (xs.getD 0 .top) : Fil), fun xs => (fun (x : Fil) => ((.v (.string (filB x)), []) : X × List Ob)) (deA (xs.getD 0 .top) : Fil)⟩
theorem F155_in {xs : List X} (h : F155.pre xs) : ∃ (x : Fil), xs = [.agg (rX x)] ∧ (flOk x) := ⟨_, h.1, h.2⟩
theorem F155_res (x : Fil) : F155.res [.agg (rX x)] = (.v (.string (filB x)), []) := by simp [F155]
theorem c155 : GenCA K Tryz.prog 155 F155 := by
  refine contractA Tryz.mix K [(184, F184), (151, F151), (185, F185.pu)] [] (by simp [c184, c151, c185.pu]) (by simp) Tryz.func155 rfl (by decide) ?_
  intro xs hxs
  obtain ⟨x, rfl, hp⟩ := F155_in hxs
  rw [F155_res]
  refine ⟨by rw [Tryz.ntmps155]; simp, ?_⟩
  obtain ⟨⟨a1, a2⟩, ⟨b1, b2⟩, ⟨c1, c2⟩, ⟨d1, d2⟩, ⟨e1, e2⟩⟩ := hp
  have q1 := decB_size x.prio.toNat (by omega)
  have q3 := hexB_size x.value.toNat (by omega)
  have q4 := hexB_size x.mask.toNat (by omega)
  have q5 := decB_size x.target.toNat (by omega)
  have a3 : x.prio ≤ 9223372036854775807 := by omega
  have e3 : x.target ≤ 9223372036854775807 := by omega
  have hcases : x.field = 0 ∨ x.field = 1 ∨ x.field = 2 ∨ x.field = 3 := by omega
  simp -implicitDefEqProofs [Tryz.f155, F184, F151, F185, List.lookup_cons, eS, c1, c2, d1, d2]
  refine drawP_all _ (by decide) ?_
  rcases hcases with hq | hq | hq | hq
  · have hF : filB x = ⟨#[102, 105, 108, 116, 101, 114, 32]⟩ ++ decB x.prio.toNat ++ ⟨#[32]⟩ ++ ⟨#[115, 111, 117, 114, 99, 101]⟩ ++ ⟨#[32]⟩ ++ hexB x.value.toNat ++ ⟨#[32, 47, 32]⟩ ++ hexB x.mask.toNat ++ ⟨#[32, 45, 62, 32]⟩ ++ decB x.target.toNat ++ ⟨#[59]⟩ := by unfold filB; rw [hq]; rfl
    simp -implicitDefEqProofs [List.lookup_cons, eS, F184, F151, F185, Fun.pu, strOb, fnames, sR_cons', sR_nil', hq, a1, a3, c1, c2, d1, d2, e1, e3, ba_sz, show (ByteArray.mk #[102, 105, 108, 116, 101, 114, 32]).size = 7 from rfl, show (ByteArray.mk #[32]).size = 1 from rfl, show (ByteArray.mk #[32, 47, 32]).size = 3 from rfl, show (ByteArray.mk #[32, 45, 62, 32]).size = 4 from rfl, show (ByteArray.mk #[59]).size = 1 from rfl, show (ByteArray.mk #[115, 111, 117, 114, 99, 101]).size = 6 from rfl]
    repeat refine ⟨by omega, ?_⟩
    refine fin_pure (by simp) ?_
    simp -implicitDefEqProofs [fS, rn0, pickObs, deI, hF]
  · have hF : filB x = ⟨#[102, 105, 108, 116, 101, 114, 32]⟩ ++ decB x.prio.toNat ++ ⟨#[32]⟩ ++ ⟨#[100, 101, 115, 116]⟩ ++ ⟨#[32]⟩ ++ hexB x.value.toNat ++ ⟨#[32, 47, 32]⟩ ++ hexB x.mask.toNat ++ ⟨#[32, 45, 62, 32]⟩ ++ decB x.target.toNat ++ ⟨#[59]⟩ := by unfold filB; rw [hq]; rfl
    simp -implicitDefEqProofs [List.lookup_cons, eS, F184, F151, F185, Fun.pu, strOb, fnames, sR_cons', sR_nil', hq, a1, a3, c1, c2, d1, d2, e1, e3, ba_sz, show (ByteArray.mk #[102, 105, 108, 116, 101, 114, 32]).size = 7 from rfl, show (ByteArray.mk #[32]).size = 1 from rfl, show (ByteArray.mk #[32, 47, 32]).size = 3 from rfl, show (ByteArray.mk #[32, 45, 62, 32]).size = 4 from rfl, show (ByteArray.mk #[59]).size = 1 from rfl, show (ByteArray.mk #[100, 101, 115, 116]).size = 4 from rfl]
    repeat refine ⟨by omega, ?_⟩
    refine fin_pure (by simp) ?_
    simp -implicitDefEqProofs [fS, rn0, pickObs, deI, hF]
  · have hF : filB x = ⟨#[102, 105, 108, 116, 101, 114, 32]⟩ ++ decB x.prio.toNat ++ ⟨#[32]⟩ ++ ⟨#[112, 111, 114, 116]⟩ ++ ⟨#[32]⟩ ++ hexB x.value.toNat ++ ⟨#[32, 47, 32]⟩ ++ hexB x.mask.toNat ++ ⟨#[32, 45, 62, 32]⟩ ++ decB x.target.toNat ++ ⟨#[59]⟩ := by unfold filB; rw [hq]; rfl
    simp -implicitDefEqProofs [List.lookup_cons, eS, F184, F151, F185, Fun.pu, strOb, fnames, sR_cons', sR_nil', hq, a1, a3, c1, c2, d1, d2, e1, e3, ba_sz, show (ByteArray.mk #[102, 105, 108, 116, 101, 114, 32]).size = 7 from rfl, show (ByteArray.mk #[32]).size = 1 from rfl, show (ByteArray.mk #[32, 47, 32]).size = 3 from rfl, show (ByteArray.mk #[32, 45, 62, 32]).size = 4 from rfl, show (ByteArray.mk #[59]).size = 1 from rfl, show (ByteArray.mk #[112, 111, 114, 116]).size = 4 from rfl]
    repeat refine ⟨by omega, ?_⟩
    refine fin_pure (by simp) ?_
    simp -implicitDefEqProofs [fS, rn0, pickObs, deI, hF]
  · have hF : filB x = ⟨#[102, 105, 108, 116, 101, 114, 32]⟩ ++ decB x.prio.toNat ++ ⟨#[32]⟩ ++ ⟨#[109, 97, 114, 107]⟩ ++ ⟨#[32]⟩ ++ hexB x.value.toNat ++ ⟨#[32, 47, 32]⟩ ++ hexB x.mask.toNat ++ ⟨#[32, 45, 62, 32]⟩ ++ decB x.target.toNat ++ ⟨#[59]⟩ := by unfold filB; rw [hq]; rfl
    simp -implicitDefEqProofs [List.lookup_cons, eS, F184, F151, F185, Fun.pu, strOb, fnames, sR_cons', sR_nil', hq, a1, a3, c1, c2, d1, d2, e1, e3, ba_sz, show (ByteArray.mk #[102, 105, 108, 116, 101, 114, 32]).size = 7 from rfl, show (ByteArray.mk #[32]).size = 1 from rfl, show (ByteArray.mk #[32, 47, 32]).size = 3 from rfl, show (ByteArray.mk #[32, 45, 62, 32]).size = 4 from rfl, show (ByteArray.mk #[59]).size = 1 from rfl, show (ByteArray.mk #[109, 97, 114, 107]).size = 4 from rfl]
    repeat refine ⟨by omega, ?_⟩
    refine fin_pure (by simp) ?_
    simp -implicitDefEqProofs [fS, rn0, pickObs, deI, hF]
end Go.Proofs
