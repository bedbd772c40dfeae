/-
  What is proved here: contracts of both EventsText and of the law. Condition: none.
-/
import Derived.Test.YtecpfgnkiifnpaaDoorEV1n
import Derived.Test.YtecpfgnkiifnpaaDoorE3n
import Derived.Test.YtecpfgnkiifnpaaDoorE4n
import Derived.Test.YtecpfgnkiifnpaaDoorE5n
namespace Go.Proofs
open Go.Abs
set_option linter.unusedSimpArgs false
set_option linter.unnecessarySimpa false
set_option linter.unusedVariables false
set_option maxHeartbeats 8000000
set_option maxRecDepth 20000
def evR (l : List Evt) : X := if evsOk l = true then .tup [.v (.string (evsB l)), B true] else .tup [.v (.string emB), B false]
theorem evs_all {l : List Evt} (h : evsOk l = true) : l.length ≤ 80 ∧ ∀ e ∈ l, okEv e := by
  simp only [evsOk, Bool.and_eq_true, decide_eq_true_eq] at h
  refine ⟨h.1, fun e he => ?_⟩
  obtain ⟨i, hi, rfl⟩ := List.getElem_of_mem he
  exact okEv_of (stepOk_ok (okUp_at h.2 hi hi))
theorem deI3 (a b c : Int) : deIs (.sl [[I a], [I b], [I c]]) = [a, b, c] := rfl
theorem isVI (a : Int) : isV (I a) = true := rfl
theorem ensX : enX = [.v (.string ⟨#[]⟩), .v (.string ⟨#[105, 110]⟩), .v (.string ⟨#[102, 117, 108, 108]⟩), .v (.string ⟨#[108, 111, 115, 116]⟩), .v (.string ⟨#[111, 117, 116]⟩)] := rfl
def F41 : Fun := ⟨fun xs => xs = [.sl (tR (deT (xs.getD 0 .top) : List Evt))] ∧ (fun (l : List Evt) => (l.length ≤ 1048576)) (deT (xs.getD 0 .top) : List Evt), fun xs => (fun (l : List Evt) => ((evR l, []) : X × List Ob)) (deT (xs.getD 0 .top) : List Evt)⟩
theorem F41_in {xs : List X} (h : F41.pre xs) : ∃ (l : List Evt), xs = [.sl (tR l)] ∧ (l.length ≤ 1048576) := ⟨_, h.1, h.2⟩
theorem F41_res (l : List Evt) : F41.res [.sl (tR l)] = (evR l, []) := by simp [F41]
theorem F41_mk (l : List Evt) (h : l.length ≤ 1048576) : F41.pre [.sl (tR l)] := by simpa [F41] using h
theorem c41 : GenCA K2 Tryd.prog 41 F41 := by
  refine contractA Tryd.mix K2 [(61, F61), (62, F62), (63, F63)] [] (by simp [genMore c61 hK2, genMore c62 hK2, genMore c63 hK2]) (by simp) Tryd.func41 rfl (by decide) ?_
  intro xs hxs
  obtain ⟨l, rfl, hp⟩ := F41_in hxs
  rw [F41_res]
  refine ⟨by rw [Tryd.ntmps41]; simp, ?_⟩
  cases ho : evsOk l with
  | false =>
    simp -implicitDefEqProofs [Tryd.f41, List.lookup_cons, eS, F61, hp, ho]
    refine fin_pure (by simp) ?_
    simp -implicitDefEqProofs [fS, rn0, pickObs, deI, evR, ho, emB]
  | true =>
  obtain ⟨h80, hok⟩ := evs_all ho
  simp -implicitDefEqProofs [Tryd.f41, List.lookup_cons, eS, F61, hp, ho]
  refine loopP_inv (fun k : Nat => ⟨40, tl [(4, .v (.string (evsB (l.take k)))), (10, .sl (tR l)), (11, I l.length), (12, I k)], []⟩) (fun k => k ≤ l.length) (fun k => l.length - k) 0 (Nat.zero_le _) (Wk.tl (by simp [hold, upd, tl_cons, evsB, emB])) ?_
  intro k hk
  by_cases h : k < l.length
  · have hw1 := w64n (show k < 4611686018427387904 by omega)
    have hke := hok l[k] (List.getElem_mem h)
    have hes := evB_size hke
    have hss := evsB_size (l.take k) fun e he => hok e (List.mem_of_mem_take he)
    have hsl : (l.take k).length ≤ 80 := by simp; omega
    have hT : evsB (l.take (k + 1)) = evsB (l.take k) ++ evB l[k] := by rw [takeS l k h, evsB_snoc]
    obtain ⟨a1, a2, a3, a4, a5, a6, a7, a8, a9, a10⟩ := hke
    have s1 := decB_size l[k].tick.toNat (by omega)
    have hjs : (joinB [decB l[k].cls.toNat, decB l[k].pkt.toNat, decB l[k].size.toNat] spB).size ≤ 70 := by
      rw [join3]
      simp only [ba_sz]
      have := decB_size l[k].cls.toNat (by omega)
      have := decB_size l[k].pkt.toNat (by omega)
      have := decB_size l[k].size.toNat (by omega)
      have h7 : spB.size = 1 := rfl
      omega
    have z1 : (ByteArray.mk #[32]).size = 1 := rfl
    have z2 : (ByteArray.mk #[10]).size = 1 := rfl
    have z3 : (ByteArray.mk #[105, 110]).size = 2 := rfl
    have z4 : (ByteArray.mk #[102, 117, 108, 108]).size = 4 := rfl
    have z5 : (ByteArray.mk #[108, 111, 115, 116]).size = 4 := rfl
    have z6 : (ByteArray.mk #[111, 117, 116]).size = 3 := rfl
    have t1 : l[k].tick ≤ 9223372036854775807 := by omega
    have c1 : l[k].cls ≤ 1000000000 := by omega
    have c2 : l[k].pkt ≤ 1000000000 := by omega
    have c3 : l[k].size ≤ 1000000000 := by omega
    have c4 : 0 ≤ l[k].pkt := by omega
    have c5 : 0 ≤ l[k].size := by omega
    have hcases : l[k].kind = 1 ∨ l[k].kind = 2 ∨ l[k].kind = 3 ∨ l[k].kind = 4 := by omega
    simp -implicitDefEqProofs [List.lookup_cons, eS, h]
    refine drawP_all _ (by decide) ?_
    rcases hcases with hq | hq | hq | hq
    · have hE : evB l[k] = decB l[k].tick.toNat ++ ⟨#[32]⟩ ++ ⟨#[105, 110]⟩ ++ ⟨#[32]⟩ ++ joinB [decB l[k].cls.toNat, decB l[k].pkt.toNat, decB l[k].size.toNat] spB ++ ⟨#[10]⟩ := by rw [join3]; unfold evB; rw [hq]; rfl
      simp -implicitDefEqProofs [List.lookup_cons, eS, h, K2, ensX, F62, F63, hq, a1, t1, a5, c1, c2, c3, c4, c5, eBSD, eBuildSlice, srcRows, srcOk, chunk, show List.range 3 = [0, 1, 2] from rfl, ba_sz, z1, z2, z3, z4, z5, z6, iR_cons, iR_nil, deI3, isVI]
      refine ⟨by omega, by omega, by omega, by omega, by omega, by omega, k + 1, by omega, by omega, ?_⟩
      rw [hT, hE]
      exact Wk.tlD (m := 0) rfl (by simp [hold, upd, tl_cons, hw1]) (by simp [okL_cons, okL_nil, ok1, ok0]) (by simp [okH_nil])
    · have hE : evB l[k] = decB l[k].tick.toNat ++ ⟨#[32]⟩ ++ ⟨#[102, 117, 108, 108]⟩ ++ ⟨#[32]⟩ ++ joinB [decB l[k].cls.toNat, decB l[k].pkt.toNat, decB l[k].size.toNat] spB ++ ⟨#[10]⟩ := by rw [join3]; unfold evB; rw [hq]; rfl
      simp -implicitDefEqProofs [List.lookup_cons, eS, h, K2, ensX, F62, F63, hq, a1, t1, a5, c1, c2, c3, c4, c5, eBSD, eBuildSlice, srcRows, srcOk, chunk, show List.range 3 = [0, 1, 2] from rfl, ba_sz, z1, z2, z3, z4, z5, z6, iR_cons, iR_nil, deI3, isVI]
      refine ⟨by omega, by omega, by omega, by omega, by omega, by omega, k + 1, by omega, by omega, ?_⟩
      rw [hT, hE]
      exact Wk.tlD (m := 0) rfl (by simp [hold, upd, tl_cons, hw1]) (by simp [okL_cons, okL_nil, ok1, ok0]) (by simp [okH_nil])
    · have hE : evB l[k] = decB l[k].tick.toNat ++ ⟨#[32]⟩ ++ ⟨#[108, 111, 115, 116]⟩ ++ ⟨#[32]⟩ ++ joinB [decB l[k].cls.toNat, decB l[k].pkt.toNat, decB l[k].size.toNat] spB ++ ⟨#[10]⟩ := by rw [join3]; unfold evB; rw [hq]; rfl
      simp -implicitDefEqProofs [List.lookup_cons, eS, h, K2, ensX, F62, F63, hq, a1, t1, a5, c1, c2, c3, c4, c5, eBSD, eBuildSlice, srcRows, srcOk, chunk, show List.range 3 = [0, 1, 2] from rfl, ba_sz, z1, z2, z3, z4, z5, z6, iR_cons, iR_nil, deI3, isVI]
      refine ⟨by omega, by omega, by omega, by omega, by omega, by omega, k + 1, by omega, by omega, ?_⟩
      rw [hT, hE]
      exact Wk.tlD (m := 0) rfl (by simp [hold, upd, tl_cons, hw1]) (by simp [okL_cons, okL_nil, ok1, ok0]) (by simp [okH_nil])
    · have hE : evB l[k] = decB l[k].tick.toNat ++ ⟨#[32]⟩ ++ ⟨#[111, 117, 116]⟩ ++ ⟨#[32]⟩ ++ joinB [decB l[k].cls.toNat, decB l[k].pkt.toNat, decB l[k].size.toNat] spB ++ ⟨#[10]⟩ := by rw [join3]; unfold evB; rw [hq]; rfl
      simp -implicitDefEqProofs [List.lookup_cons, eS, h, K2, ensX, F62, F63, hq, a1, t1, a5, c1, c2, c3, c4, c5, eBSD, eBuildSlice, srcRows, srcOk, chunk, show List.range 3 = [0, 1, 2] from rfl, ba_sz, z1, z2, z3, z4, z5, z6, iR_cons, iR_nil, deI3, isVI]
      refine ⟨by omega, by omega, by omega, by omega, by omega, by omega, k + 1, by omega, by omega, ?_⟩
      rw [hT, hE]
      exact Wk.tlD (m := 0) rfl (by simp [hold, upd, tl_cons, hw1]) (by simp [okL_cons, okL_nil, ok1, ok0]) (by simp [okH_nil])
  · have e : k = l.length := by omega
    subst e
    rw [List.take_length]
    simp -implicitDefEqProofs [List.lookup_cons, eS]
    refine fin_pure (by simp) ?_
    simp -implicitDefEqProofs [fS, rn0, pickObs, deI, evR, ho]
def F36 : Fun := ⟨fun xs => xs = [] ∧ ((True)), fun xs => (((.osl 0 0, [strOb ens]) : X × List Ob))⟩
theorem F36_in {xs : List X} (h : F36.pre xs) : xs = [] ∧ (True) := h
theorem F36_res  : F36.res [] = (.osl 0 0, [strOb ens]) := by simp [F36]
theorem F36_mk  (h : True) : F36.pre [] := by simpa [F36] using h
theorem c36 : GenCA K Tryd.prog 36 F36 := by
  refine contractA Tryd.mix K [] [] (by simp) (by simp) Tryd.func36 rfl (by decide) ?_
  intro xs hxs
  obtain ⟨rfl, hp⟩ := F36_in hxs
  rw [F36_res]
  refine ⟨by rw [Tryd.ntmps36]; simp, ?_⟩
  simp -implicitDefEqProofs [Tryd.f36, List.lookup_cons, eS, eBuildSlice, srcRows, srcOk, chunk, show List.range 5 = [0, 1, 2, 3, 4] from rfl]
  refine fin_own [0] (by simp [pickOk, ok0]) ?_
  simp -implicitDefEqProofs [fS, rn0, pickObs, deI, strOb, sR, ens]
def F38 : Fun := ⟨fun xs => xs = [.sl (tR (deT (xs.getD 0 .top) : List Evt))] ∧ (fun (l : List Evt) => (evsOk l = true)) (deT (xs.getD 0 .top) : List Evt), fun xs => (fun (l : List Evt) => ((.v (.string (evsB l)), []) : X × List Ob)) (deT (xs.getD 0 .top) : List Evt)⟩
theorem F38_in {xs : List X} (h : F38.pre xs) : ∃ (l : List Evt), xs = [.sl (tR l)] ∧ (evsOk l = true) := ⟨_, h.1, h.2⟩
theorem F38_res (l : List Evt) : F38.res [.sl (tR l)] = (.v (.string (evsB l)), []) := by simp [F38]
theorem F38_mk (l : List Evt) (h : evsOk l = true) : F38.pre [.sl (tR l)] := by simpa [F38] using h
theorem c38 : GenCA K Tryd.prog 38 F38 := by
  refine contractA Tryd.mix K [(58, F58), (36, F36.pu)] [] (by simp [c58, c36.pu]) (by simp) Tryd.func38 rfl (by decide) ?_
  intro xs hxs
  obtain ⟨l, rfl, hp⟩ := F38_in hxs
  rw [F38_res]
  refine ⟨by rw [Tryd.ntmps38]; simp, ?_⟩
  obtain ⟨h80, hok⟩ := evs_all hp
  simp -implicitDefEqProofs [Tryd.f38, List.lookup_cons, eS]
  refine loopP_inv (fun k : Nat => ⟨42, tl [(3, .v (.string (evsB (l.take k)))), (6, .sl (tR l)), (7, I l.length), (8, I k)], []⟩) (fun k => k ≤ l.length) (fun k => l.length - k) 0 (Nat.zero_le _) (Wk.tl (by simp [hold, upd, tl_cons, evsB, emB])) ?_
  intro k hk
  by_cases h : k < l.length
  · have hw1 := w64n (show k < 4611686018427387904 by omega)
    have hke := hok l[k] (List.getElem_mem h)
    have hes := evB_size hke
    have hss := evsB_size (l.take k) fun e he => hok e (List.mem_of_mem_take he)
    have hsl : (l.take k).length ≤ 80 := by simp; omega
    have hT : evsB (l.take (k + 1)) = evsB (l.take k) ++ evB l[k] := by rw [takeS l k h, evsB_snoc]
    obtain ⟨a1, a2, a3, a4, a5, a6, a7, a8, a9, a10⟩ := hke
    have s1 := decB_size l[k].tick.toNat (by omega)
    have s2 := decB_size l[k].cls.toNat (by omega)
    have s3 := decB_size l[k].pkt.toNat (by omega)
    have s4 := decB_size l[k].size.toNat (by omega)
    have z1 : (ByteArray.mk #[32]).size = 1 := rfl
    have z2 : (ByteArray.mk #[10]).size = 1 := rfl
    have z3 : (ByteArray.mk #[105, 110]).size = 2 := rfl
    have z4 : (ByteArray.mk #[102, 117, 108, 108]).size = 4 := rfl
    have z5 : (ByteArray.mk #[108, 111, 115, 116]).size = 4 := rfl
    have z6 : (ByteArray.mk #[111, 117, 116]).size = 3 := rfl
    have t1 : l[k].tick ≤ 9223372036854775807 := by omega
    have c1 : l[k].cls ≤ 9223372036854775807 := by omega
    have c2 : l[k].pkt ≤ 9223372036854775807 := by omega
    have c3 : l[k].size ≤ 9223372036854775807 := by omega
    have c4 : 0 ≤ l[k].pkt := by omega
    have c5 : 0 ≤ l[k].size := by omega
    have hcases : l[k].kind = 1 ∨ l[k].kind = 2 ∨ l[k].kind = 3 ∨ l[k].kind = 4 := by omega
    simp -implicitDefEqProofs [List.lookup_cons, eS, h]
    refine drawP_all _ (by decide) ?_
    rcases hcases with hq | hq | hq | hq
    · have hE : evB l[k] = decB l[k].tick.toNat ++ spB ++ ⟨#[105, 110]⟩ ++ spB ++ decB l[k].cls.toNat ++ spB ++ decB l[k].pkt.toNat ++ spB ++ decB l[k].size.toNat ++ ⟨#[10]⟩ := by unfold evB; rw [hq]; simp only [ba_assoc]; rfl
      unfold spB at hE
      simp -implicitDefEqProofs [List.lookup_cons, eS, h, F58, F36, Fun.pu, strOb, ens, sR_cons', sR_nil', hq, a1, t1, a5, c1, c2, c3, c4, c5, ba_sz, z1, z2, z3, z4, z5, z6]
      refine ⟨by omega, by omega, by omega, by omega, by omega, by omega, by omega, by omega, by omega, by omega, k + 1, by omega, by omega, ?_⟩
      rw [hT, hE]
      exact Wk.tlD (m := 0) rfl (by simp [hold, upd, tl_cons, hw1]) (by simp [okL_cons, okL_nil, ok1, ok0]) (by simp [okH_nil])
    · have hE : evB l[k] = decB l[k].tick.toNat ++ spB ++ ⟨#[102, 117, 108, 108]⟩ ++ spB ++ decB l[k].cls.toNat ++ spB ++ decB l[k].pkt.toNat ++ spB ++ decB l[k].size.toNat ++ ⟨#[10]⟩ := by unfold evB; rw [hq]; simp only [ba_assoc]; rfl
      unfold spB at hE
      simp -implicitDefEqProofs [List.lookup_cons, eS, h, F58, F36, Fun.pu, strOb, ens, sR_cons', sR_nil', hq, a1, t1, a5, c1, c2, c3, c4, c5, ba_sz, z1, z2, z3, z4, z5, z6]
      refine ⟨by omega, by omega, by omega, by omega, by omega, by omega, by omega, by omega, by omega, by omega, k + 1, by omega, by omega, ?_⟩
      rw [hT, hE]
      exact Wk.tlD (m := 0) rfl (by simp [hold, upd, tl_cons, hw1]) (by simp [okL_cons, okL_nil, ok1, ok0]) (by simp [okH_nil])
    · have hE : evB l[k] = decB l[k].tick.toNat ++ spB ++ ⟨#[108, 111, 115, 116]⟩ ++ spB ++ decB l[k].cls.toNat ++ spB ++ decB l[k].pkt.toNat ++ spB ++ decB l[k].size.toNat ++ ⟨#[10]⟩ := by unfold evB; rw [hq]; simp only [ba_assoc]; rfl
      unfold spB at hE
      simp -implicitDefEqProofs [List.lookup_cons, eS, h, F58, F36, Fun.pu, strOb, ens, sR_cons', sR_nil', hq, a1, t1, a5, c1, c2, c3, c4, c5, ba_sz, z1, z2, z3, z4, z5, z6]
      refine ⟨by omega, by omega, by omega, by omega, by omega, by omega, by omega, by omega, by omega, by omega, k + 1, by omega, by omega, ?_⟩
      rw [hT, hE]
      exact Wk.tlD (m := 0) rfl (by simp [hold, upd, tl_cons, hw1]) (by simp [okL_cons, okL_nil, ok1, ok0]) (by simp [okH_nil])
    · have hE : evB l[k] = decB l[k].tick.toNat ++ spB ++ ⟨#[111, 117, 116]⟩ ++ spB ++ decB l[k].cls.toNat ++ spB ++ decB l[k].pkt.toNat ++ spB ++ decB l[k].size.toNat ++ ⟨#[10]⟩ := by unfold evB; rw [hq]; simp only [ba_assoc]; rfl
      unfold spB at hE
      simp -implicitDefEqProofs [List.lookup_cons, eS, h, F58, F36, Fun.pu, strOb, ens, sR_cons', sR_nil', hq, a1, t1, a5, c1, c2, c3, c4, c5, ba_sz, z1, z2, z3, z4, z5, z6]
      refine ⟨by omega, by omega, by omega, by omega, by omega, by omega, by omega, by omega, by omega, by omega, k + 1, by omega, by omega, ?_⟩
      rw [hT, hE]
      exact Wk.tlD (m := 0) rfl (by simp [hold, upd, tl_cons, hw1]) (by simp [okL_cons, okL_nil, ok1, ok0]) (by simp [okH_nil])
  · have e : k = l.length := by omega
    subst e
    rw [List.take_length]
    simp -implicitDefEqProofs [List.lookup_cons, eS]
    refine fin_pure (by simp) ?_
    simp -implicitDefEqProofs [fS, rn0, pickObs, deI]
end Go.Proofs
