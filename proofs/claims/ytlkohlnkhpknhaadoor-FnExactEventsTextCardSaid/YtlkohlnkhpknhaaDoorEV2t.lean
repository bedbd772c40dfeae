/-
  What is proved here: contracts of both EventsText and of the law. Condition: none.
-/
import Derived.Test.YtlkohlnkhpknhaaDoorEV1t
import Derived.Test.YtlkohlnkhpknhaaDoorE3t
import Derived.Test.YtlkohlnkhpknhaaDoorE4t
import Derived.Test.YtlkohlnkhpknhaaDoorE5t
namespace Go.Proofs
open Go.Abs
set_option linter.unusedSimpArgs false
set_option linter.unnecessarySimpa false
set_option linter.unusedVariables false
set_option maxHeartbeats 8000000
set_option maxRecDepth 20000

def evR (l : List Evt) : X := if evsOk l = true then .tup [.v (.string (evsB l)), B true] else .tup [.v (.string emB), B false]
theorem evs_all {l : List Evt} (h : evsOk l = true) : l.length ≤ 80 ∧ ∀ e ∈ l, okEv e := by
  simp only [evsOk, Bool.and_eq_true, decide_eq_true_eq] at h
  refine ⟨h.1, fun e he => ?_⟩
  obtain ⟨i, hi, rfl⟩ := List.getElem_of_mem he
  exact okEv_of (stepOk_ok (okUp_at h.2 hi hi))
theorem deI3 (a b c : Int) : deIs (.sl [[I a], [I b], [I c]]) = [a, b, c] := rfl
theorem isVI (a : Int) : isV (I a) = true := rfl
theorem ensX : enX = [.v (.string ⟨#[]⟩), .v (.string ⟨#[105, 110]⟩), .v (.string ⟨#[102, 117, 108, 108]⟩), .v (.string ⟨#[108, 111, 115, 116]⟩), .v (.string ⟨#[111, 117, 116]⟩)] := rfl
def F16 : Fun := ⟨fun xs => xs = [.sl (tR (deT (xs.getD 0 .top) : List Evt))] ∧ (fun (l : List Evt) => (l.length ≤ 1048576)) (deT (xs.getD 0 .top) : List Evt), fun xs => (fun (l : List Evt) => ((evR l, []) : X × List Ob)) (deT (xs.getD 0 .top) : List Evt)⟩
theorem F16_in {xs : List X} (h : F16.pre xs) : ∃ (l : List Evt), xs = [.sl (tR l)] ∧ (l.length ≤ 1048576) := ⟨_, h.1, h.2⟩
theorem F16_res (l : List Evt) : F16.res [.sl (tR l)] = (evR l, []) := by simp [F16]
theorem F16_mk (l : List Evt) (h : l.length ≤ 1048576) : F16.pre [.sl (tR l)] := by simpa [F16] using h
theorem c16 : GenCA K2 Tryd.prog 16 F16 := by
  refine contractA Tryd.mix K2 [(35, F35), (36, F36), (37, F37)] [] (by simp [genMore c35 hK2, genMore c36 hK2, genMore c37 hK2]) (by simp) Tryd.func16 rfl (by decide) ?_
  intro xs hxs
  obtain ⟨l, rfl, hp⟩ := F16_in hxs
  rw [F16_res]
  refine ⟨by rw [Tryd.ntmps16]; simp, ?_⟩
  cases ho : evsOk l with
  | false =>
    simp -implicitDefEqProofs [Tryd.f16, List.lookup_cons, and_assoc, pick_and, pick_or, if_and, if_or, F35, hp, ho]
    refine fin_pure (by simp) ?_
    simp -implicitDefEqProofs [pur2_i, pur2_b, pur2_s, pur2_nil, pur2_sl, pur2_tup, rn2_tup, rn2_agg, rn2_osl, rn1_v, rn1_osl, rn1_agg, rn0_v, rn0_sl, rn0, pickObs, pur_v, pur_b, pur_s, pur_nil, pur_sl, deI, deIs_sl, evR, ho, emB]
  | true =>
  obtain ⟨h80, hok⟩ := evs_all ho
  simp -implicitDefEqProofs [Tryd.f16, List.lookup_cons, and_assoc, pick_and, pick_or, if_and, if_or, F35, hp, ho]
  refine loopP_inv (fun k : Nat => ⟨40, tl [(4, .v (.string (evsB (l.take k)))), (10, .sl (tR l)), (11, I l.length), (12, I k)], []⟩) (fun k => k ≤ l.length) (fun k => l.length - k) 0 (Nat.zero_le _) (Wk.tl (by simp [hold, upd, tl_cons, evsB, emB])) ?_
  intro k hk
  by_cases h : k < l.length
  · have hw1 := w64n (show k < 4611686018427387904 by omega)
    have hke := hok l[k] (List.getElem_mem h)
    have hes := evB_size hke
    have hss := evsB_size (l.take k) fun e he => hok e (List.mem_of_mem_take he)
    have hsl : (l.take k).length ≤ 80 := by simp; omega
    have hT : evsB (l.take (k + 1)) = evsB (l.take k) ++ evB l[k] := by rw [takeS l k h, evsB_snoc]
    obtain ⟨a1, a2, a3, a4, a5, a6, a7, a8, a9, a10⟩ := hke
    have s1 := decB_size l[k].tick.toNat (by omega)
    have hjs : (joinB [decB l[k].cls.toNat, decB l[k].pkt.toNat, decB l[k].size.toNat] spB).size ≤ 70 := by
      rw [join3]
      simp only [ba_sz]
      have := decB_size l[k].cls.toNat (by omega)
      have := decB_size l[k].pkt.toNat (by omega)
      have := decB_size l[k].size.toNat (by omega)
      have h7 : spB.size = 1 := rfl
      omega
    have z1 : (ByteArray.mk #[32]).size = 1 := rfl
    have z2 : (ByteArray.mk #[10]).size = 1 := rfl
    have z3 : (ByteArray.mk #[105, 110]).size = 2 := rfl
    have z4 : (ByteArray.mk #[102, 117, 108, 108]).size = 4 := rfl
    have z5 : (ByteArray.mk #[108, 111, 115, 116]).size = 4 := rfl
    have z6 : (ByteArray.mk #[111, 117, 116]).size = 3 := rfl
    have t1 : l[k].tick ≤ 9223372036854775807 := by omega
    have c1 : l[k].cls ≤ 1000000000 := by omega
    have c2 : l[k].pkt ≤ 1000000000 := by omega
    have c3 : l[k].size ≤ 1000000000 := by omega
    have c4 : 0 ≤ l[k].pkt := by omega
    have c5 : 0 ≤ l[k].size := by omega
    have hcases : l[k].kind = 1 ∨ l[k].kind = 2 ∨ l[k].kind = 3 ∨ l[k].kind = 4 := by omega
    simp -implicitDefEqProofs [List.lookup_cons, and_assoc, pick_and, pick_or, if_and, if_or, h]
    refine drawP_all _ (by decide) ?_
    rcases hcases with hq | hq | hq | hq
    · have hE : evB l[k] = decB l[k].tick.toNat ++ ⟨#[32]⟩ ++ ⟨#[105, 110]⟩ ++ ⟨#[32]⟩ ++ joinB [decB l[k].cls.toNat, decB l[k].pkt.toNat, decB l[k].size.toNat] spB ++ ⟨#[10]⟩ := by rw [join3]; unfold evB; rw [hq]; rfl
      simp -implicitDefEqProofs [List.lookup_cons, and_assoc, pick_and, pick_or, if_and, if_or, h, K2, ensX, F36, F37, hq, a1, t1, a5, c1, c2, c3, c4, c5, eBSD, eBuildSlice, srcRows, srcOk, chunk, show List.range 3 = [0, 1, 2] from rfl, ba_sz, z1, z2, z3, z4, z5, z6, iR_cons, iR_nil, deI3, isVI]
      refine ⟨by omega, by omega, by omega, by omega, by omega, by omega, k + 1, by omega, by omega, ?_⟩
      rw [hT, hE]
      exact Wk.tlD (m := 0) rfl (by simp [hold, upd, tl_cons, hw1]) (by simp [okL_cons, okL_nil, ok1, ok0]) (by simp [okH_nil])
    · have hE : evB l[k] = decB l[k].tick.toNat ++ ⟨#[32]⟩ ++ ⟨#[102, 117, 108, 108]⟩ ++ ⟨#[32]⟩ ++ joinB [decB l[k].cls.toNat, decB l[k].pkt.toNat, decB l[k].size.toNat] spB ++ ⟨#[10]⟩ := by rw [join3]; unfold evB; rw [hq]; rfl
      simp -implicitDefEqProofs [List.lookup_cons, and_assoc, pick_and, pick_or, if_and, if_or, h, K2, ensX, F36, F37, hq, a1, t1, a5, c1, c2, c3, c4, c5, eBSD, eBuildSlice, srcRows, srcOk, chunk, show List.range 3 = [0, 1, 2] from rfl, ba_sz, z1, z2, z3, z4, z5, z6, iR_cons, iR_nil, deI3, isVI]
      refine ⟨by omega, by omega, by omega, by omega, by omega, by omega, k + 1, by omega, by omega, ?_⟩
      rw [hT, hE]
      exact Wk.tlD (m := 0) rfl (by simp [hold, upd, tl_cons, hw1]) (by simp [okL_cons, okL_nil, ok1, ok0]) (by simp [okH_nil])
    · have hE : evB l[k] = decB l[k].tick.toNat ++ ⟨#[32]⟩ ++ ⟨#[108, 111, 115, 116]⟩ ++ ⟨#[32]⟩ ++ joinB [decB l[k].cls.toNat, decB l[k].pkt.toNat, decB l[k].size.toNat] spB ++ ⟨#[10]⟩ := by rw [join3]; unfold evB; rw [hq]; rfl
      simp -implicitDefEqProofs [List.lookup_cons, and_assoc, pick_and, pick_or, if_and, if_or, h, K2, ensX, F36, F37, hq, a1, t1, a5, c1, c2, c3, c4, c5, eBSD, eBuildSlice, srcRows, srcOk, chunk, show List.range 3 = [0, 1, 2] from rfl, ba_sz, z1, z2, z3, z4, z5, z6, iR_cons, iR_nil, deI3, isVI]
      refine ⟨by omega, by omega, by omega, by omega, by omega, by omega, k + 1, by omega, by omega, ?_⟩
      rw [hT, hE]
      exact Wk.tlD (m := 0) rfl (by simp [hold, upd, tl_cons, hw1]) (by simp [okL_cons, okL_nil, ok1, ok0]) (by simp [okH_nil])
    · have hE : evB l[k] = decB l[k].tick.toNat ++ ⟨#[32]⟩ ++ ⟨#[111, 117, 116]⟩ ++ ⟨#[32]⟩ ++ joinB [decB l[k].cls.toNat, decB l[k].pkt.toNat, decB l[k].size.toNat] spB ++ ⟨#[10]⟩ := by rw [join3]; unfold evB; rw [hq]; rfl
      simp -implicitDefEqProofs [List.lookup_cons, and_assoc, pick_and, pick_or, if_and, if_or, h, K2, ensX, F36, F37, hq, a1, t1, a5, c1, c2, c3, c4, c5, eBSD, eBuildSlice, srcRows, srcOk, chunk, show List.range 3 = [0, 1, 2] from rfl, ba_sz, z1, z2, z3, z4, z5, z6, iR_cons, iR_nil, deI3, isVI]
      refine ⟨by omega, by omega, by omega, by omega, by omega, by omega, k + 1, by omega, by omega, ?_⟩
      rw [hT, hE]
      exact Wk.tlD (m := 0) rfl (by simp [hold, upd, tl_cons, hw1]) (by simp [okL_cons, okL_nil, ok1, ok0]) (by simp [okH_nil])
  · have e : k = l.length := by omega
    subst e
    rw [List.take_length]
    simp -implicitDefEqProofs [List.lookup_cons, and_assoc, pick_and, pick_or, if_and, if_or]
    refine fin_pure (by simp) ?_
    simp -implicitDefEqProofs [pur2_i, pur2_b, pur2_s, pur2_nil, pur2_sl, pur2_tup, rn2_tup, rn2_agg, rn2_osl, rn1_v, rn1_osl, rn1_agg, rn0_v, rn0_sl, rn0, pickObs, pur_v, pur_b, pur_s, pur_nil, pur_sl, deI, deIs_sl, evR, ho]
def F59 : Fun := ⟨fun xs => xs = [] ∧ ((True)), fun xs => (((.osl 0 0, [strOb ens]) : X × List Ob))⟩
theorem F59_in {xs : List X} (h : F59.pre xs) : xs = [] ∧ (True) := h
theorem F59_res  : F59.res [] = (.osl 0 0, [strOb ens]) := by simp [F59]
theorem F59_mk  (h : True) : F59.pre [] := by simpa [F59] using h
theorem c59 : GenCA K Tryd.prog 59 F59 := by
  refine contractA Tryd.mix K [] [] (by simp) (by simp) Tryd.func59 rfl (by decide) ?_
  intro xs hxs
  obtain ⟨rfl, hp⟩ := F59_in hxs
  rw [F59_res]
  refine ⟨by rw [Tryd.ntmps59]; simp, ?_⟩
  simp -implicitDefEqProofs [Tryd.f59, List.lookup_cons, and_assoc, pick_and, pick_or, if_and, if_or, eBuildSlice, srcRows, srcOk, chunk, show List.range 5 = [0, 1, 2, 3, 4] from rfl]
  refine fin_own [0] (by simp [pickOk, ok0]) ?_
  simp -implicitDefEqProofs [pur2_i, pur2_b, pur2_s, pur2_nil, pur2_sl, pur2_tup, rn2_tup, rn2_agg, rn2_osl, rn1_v, rn1_osl, rn1_agg, rn0_v, rn0_sl, rn0, pickObs, pur_v, pur_b, pur_s, pur_nil, pur_sl, deI, deIs_sl, strOb, sR, ens]
def F33 : Fun := ⟨fun xs => xs = [.sl (tR (deT (xs.getD 0 .top) : List Evt))] ∧ (fun (l : List Evt) => (evsOk l = true)) (deT (xs.getD 0 .top) : List Evt), fun xs => (fun (l : List Evt) => ((.v (.string (evsB l)), []) : X × List Ob)) (deT (xs.getD 0 .top) : List Evt)⟩
theorem F33_in {xs : List X} (h : F33.pre xs) : ∃ (l : List Evt), xs = [.sl (tR l)] ∧ (evsOk l = true) := ⟨_, h.1, h.2⟩
theorem F33_res (l : List Evt) : F33.res [.sl (tR l)] = (.v (.string (evsB l)), []) := by simp [F33]
theorem F33_mk (l : List Evt) (h : evsOk l = true) : F33.pre [.sl (tR l)] := by simpa [F33] using h
theorem c33 : GenCA K Tryd.prog 33 F33 := by
  refine contractA Tryd.mix K [(58, F58), (59, F59.pu)] [] (by simp [c58, c59.pu]) (by simp) Tryd.func33 rfl (by decide) ?_
  intro xs hxs
  obtain ⟨l, rfl, hp⟩ := F33_in hxs
  rw [F33_res]
  refine ⟨by rw [Tryd.ntmps33]; simp, ?_⟩
  obtain ⟨h80, hok⟩ := evs_all hp
  simp -implicitDefEqProofs [Tryd.f33, List.lookup_cons, and_assoc, pick_and, pick_or, if_and, if_or]
  refine loopP_inv (fun k : Nat => ⟨42, tl [(3, .v (.string (evsB (l.take k)))), (6, .sl (tR l)), (7, I l.length), (8, I k)], []⟩) (fun k => k ≤ l.length) (fun k => l.length - k) 0 (Nat.zero_le _) (Wk.tl (by simp [hold, upd, tl_cons, evsB, emB])) ?_
  intro k hk
  by_cases h : k < l.length
  · have hw1 := w64n (show k < 4611686018427387904 by omega)
    have hke := hok l[k] (List.getElem_mem h)
    have hes := evB_size hke
    have hss := evsB_size (l.take k) fun e he => hok e (List.mem_of_mem_take he)
    have hsl : (l.take k).length ≤ 80 := by simp; omega
    have hT : evsB (l.take (k + 1)) = evsB (l.take k) ++ evB l[k] := by rw [takeS l k h, evsB_snoc]
    obtain ⟨a1, a2, a3, a4, a5, a6, a7, a8, a9, a10⟩ := hke
    have s1 := decB_size l[k].tick.toNat (by omega)
    have s2 := decB_size l[k].cls.toNat (by omega)
    have s3 := decB_size l[k].pkt.toNat (by omega)
    have s4 := decB_size l[k].size.toNat (by omega)
    have z1 : (ByteArray.mk #[32]).size = 1 := rfl
    have z2 : (ByteArray.mk #[10]).size = 1 := rfl
    have z3 : (ByteArray.mk #[105, 110]).size = 2 := rfl
    have z4 : (ByteArray.mk #[102, 117, 108, 108]).size = 4 := rfl
    have z5 : (ByteArray.mk #[108, 111, 115, 116]).size = 4 := rfl
    have z6 : (ByteArray.mk #[111, 117, 116]).size = 3 := rfl
    have t1 : l[k].tick ≤ 9223372036854775807 := by omega
    have c1 : l[k].cls ≤ 9223372036854775807 := by omega
    have c2 : l[k].pkt ≤ 9223372036854775807 := by omega
    have c3 : l[k].size ≤ 9223372036854775807 := by omega
    have c4 : 0 ≤ l[k].pkt := by omega
    have c5 : 0 ≤ l[k].size := by omega
    have hcases : l[k].kind = 1 ∨ l[k].kind = 2 ∨ l[k].kind = 3 ∨ l[k].kind = 4 := by omega
    simp -implicitDefEqProofs [List.lookup_cons, and_assoc, pick_and, pick_or, if_and, if_or, h]
    refine drawP_all _ (by decide) ?_
    rcases hcases with hq | hq | hq | hq
    · have hE : evB l[k] = decB l[k].tick.toNat ++ spB ++ ⟨#[105, 110]⟩ ++ spB ++ decB l[k].cls.toNat ++ spB ++ decB l[k].pkt.toNat ++ spB ++ decB l[k].size.toNat ++ ⟨#[10]⟩ := by unfold evB; rw [hq]; simp only [ba_assoc]; rfl
      unfold spB at hE
      simp -implicitDefEqProofs [List.lookup_cons, and_assoc, pick_and, pick_or, if_and, if_or, h, F58, F59, Fun.pu, strOb, ens, sR_cons', sR_nil', hq, a1, t1, a5, c1, c2, c3, c4, c5, ba_sz, z1, z2, z3, z4, z5, z6]
      refine ⟨by omega, by omega, by omega, by omega, by omega, by omega, by omega, by omega, by omega, by omega, k + 1, by omega, by omega, ?_⟩
      rw [hT, hE]
      exact Wk.tlD (m := 0) rfl (by simp [hold, upd, tl_cons, hw1]) (by simp [okL_cons, okL_nil, ok1, ok0]) (by simp [okH_nil])
    · have hE : evB l[k] = decB l[k].tick.toNat ++ spB ++ ⟨#[102, 117, 108, 108]⟩ ++ spB ++ decB l[k].cls.toNat ++ spB ++ decB l[k].pkt.toNat ++ spB ++ decB l[k].size.toNat ++ ⟨#[10]⟩ := by unfold evB; rw [hq]; simp only [ba_assoc]; rfl
      unfold spB at hE
      simp -implicitDefEqProofs [List.lookup_cons, and_assoc, pick_and, pick_or, if_and, if_or, h, F58, F59, Fun.pu, strOb, ens, sR_cons', sR_nil', hq, a1, t1, a5, c1, c2, c3, c4, c5, ba_sz, z1, z2, z3, z4, z5, z6]
      refine ⟨by omega, by omega, by omega, by omega, by omega, by omega, by omega, by omega, by omega, by omega, k + 1, by omega, by omega, ?_⟩
      rw [hT, hE]
      exact Wk.tlD (m := 0) rfl (by simp [hold, upd, tl_cons, hw1]) (by simp [okL_cons, okL_nil, ok1, ok0]) (by simp [okH_nil])
    · have hE : evB l[k] = decB l[k].tick.toNat ++ spB ++ ⟨#[108, 111, 115, 116]⟩ ++ spB ++ decB l[k].cls.toNat ++ spB ++ decB l[k].pkt.toNat ++ spB ++ decB l[k].size.toNat ++ ⟨#[10]⟩ := by unfold evB; rw [hq]; simp only [ba_assoc]; rfl
      unfold spB at hE
      simp -implicitDefEqProofs [List.lookup_cons, and_assoc, pick_and, pick_or, if_and, if_or, h, F58, F59, Fun.pu, strOb, ens, sR_cons', sR_nil', hq, a1, t1, a5, c1, c2, c3, c4, c5, ba_sz, z1, z2, z3, z4, z5, z6]
      refine ⟨by omega, by omega, by omega, by omega, by omega, by omega, by omega, by omega, by omega, by omega, k + 1, by omega, by omega, ?_⟩
      rw [hT, hE]
      exact Wk.tlD (m := 0) rfl (by simp [hold, upd, tl_cons, hw1]) (by simp [okL_cons, okL_nil, ok1, ok0]) (by simp [okH_nil])
    · have hE : evB l[k] = decB l[k].tick.toNat ++ spB ++ ⟨#[111, 117, 116]⟩ ++ spB ++ decB l[k].cls.toNat ++ spB ++ decB l[k].pkt.toNat ++ spB ++ decB l[k].size.toNat ++ ⟨#[10]⟩ := by unfold evB; rw [hq]; simp only [ba_assoc]; rfl
      unfold spB at hE
      simp -implicitDefEqProofs [List.lookup_cons, and_assoc, pick_and, pick_or, if_and, if_or, h, F58, F59, Fun.pu, strOb, ens, sR_cons', sR_nil', hq, a1, t1, a5, c1, c2, c3, c4, c5, ba_sz, z1, z2, z3, z4, z5, z6]
      refine ⟨by omega, by omega, by omega, by omega, by omega, by omega, by omega, by omega, by omega, by omega, k + 1, by omega, by omega, ?_⟩
      rw [hT, hE]
      exact Wk.tlD (m := 0) rfl (by simp [hold, upd, tl_cons, hw1]) (by simp [okL_cons, okL_nil, ok1, ok0]) (by simp [okH_nil])
  · have e : k = l.length := by omega
    subst e
    rw [List.take_length]
    simp -implicitDefEqProofs [List.lookup_cons, and_assoc, pick_and, pick_or, if_and, if_or]
    refine fin_pure (by simp) ?_
    simp -implicitDefEqProofs [pur2_i, pur2_b, pur2_s, pur2_nil, pur2_sl, pur2_tup, rn2_tup, rn2_agg, rn2_osl, rn1_v, rn1_osl, rn1_agg, rn0_v, rn0_sl, rn0, pickObs, pur_v, pur_b, pur_s, pur_nil, pur_sl, deI, deIs_sl]
theorem c14 : GenCA K Tryd.prog 14 F16 := by
  refine contractA Tryd.mix K [(32, F32), (33, F33)] [] (by simp [c32, c33]) (by simp) Tryd.func14 rfl (by decide) ?_
  intro xs hxs
  obtain ⟨l, rfl, hp⟩ := F16_in hxs
  rw [F16_res]
  refine ⟨by rw [Tryd.ntmps14]; simp, ?_⟩
  cases ho : evsOk l with
  | false =>
    simp -implicitDefEqProofs [Tryd.f14, F32, F33, List.lookup_cons, and_assoc, pick_and, pick_or, if_and, if_or, hp, ho]
    refine fin_pure (by simp) ?_
    simp -implicitDefEqProofs [pur2_i, pur2_b, pur2_s, pur2_nil, pur2_sl, pur2_tup, rn2_tup, rn2_agg, rn2_osl, rn1_v, rn1_osl, rn1_agg, rn0_v, rn0_sl, rn0, pickObs, pur_v, pur_b, pur_s, pur_nil, pur_sl, deI, deIs_sl, evR, ho, emB]
  | true =>
    simp -implicitDefEqProofs [Tryd.f14, F32, F33, List.lookup_cons, and_assoc, pick_and, pick_or, if_and, if_or, hp, ho]
    refine fin_pure (by simp) ?_
    simp -implicitDefEqProofs [pur2_i, pur2_b, pur2_s, pur2_nil, pur2_sl, pur2_tup, rn2_tup, rn2_agg, rn2_osl, rn1_v, rn1_osl, rn1_agg, rn0_v, rn0_sl, rn0, pickObs, pur_v, pur_b, pur_s, pur_nil, pur_sl, deI, deIs_sl, evR, ho]
end Go.Proofs
