/-
  What is proved here: the contract of the reader of a line's numbers. Condition: none.
-/
import Derived.Test.YtecpfgnkiifnpaaGreatDoorFRe
namespace Go.Proofs
open Go.Abs Go.Flat
set_option linter.unusedSimpArgs false
set_option linter.unnecessarySimpa false
set_option linter.unusedVariables false
set_option maxHeartbeats 8000000
set_option maxRecDepth 20000
def nuOb (l : List Int) : Ob := ⟨3, 1, 0, iR l, false, true, none⟩
def okWs (ws : List ByteArray) : Prop := ws.length ≤ 20 ∧ 0 < ws.length ∧ ∀ w ∈ ws, w.size ≤ 1048576
def nuW (xs : List X) (obs : List Ob) : List ByteArray := match obs with
  | [_, wb] => deSs (.sl wb.rows)
  | _ => deSs (xs.getD 1 .top)
def M91 : MFun := ⟨[true, true], fun xs obs => ∃ (ws : List ByteArray) (r : Rd), okR r ∧ okWs ws ∧ ((xs = [.optr 0 0 0 0, .sl (sR ws)] ∧ obs = rO r) ∨ (xs = [.optr 0 0 0 0, .osl 1 0] ∧ obs = rO r ++ [spOb ws])),
  fun xs obs => (.osl obs.length 0, rO (numbersR (nuW xs obs) (unR (obs.take 1))).2 ++ (obs.drop 1 ++ [nuOb (numbersR (nuW xs obs) (unR (obs.take 1))).1]))⟩
theorem nums_res (ws : List ByteArray) (r : Rd) : M91.res [.optr 0 0 0 0, .sl (sR ws)] (rO r) = (.osl 1 0, rO (numbersR ws r).2 ++ [nuOb (numbersR ws r).1]) := by
  have e := unR_rO r
  unfold rO at e
  simp [M91, nuW, rO, e, deSs_sl]
theorem nums_res2 (ws : List ByteArray) (r : Rd) : M91.res [.optr 0 0 0 0, .osl 1 0] (rO r ++ [spOb ws]) = (.osl 2 0, rO (numbersR ws r).2 ++ ([spOb ws] ++ [nuOb (numbersR ws r).1])) := by
  have e := unR_rO r
  unfold rO at e
  simp [M91, nuW, rO, spOb, e, deSs_sl]
theorem nums_mk {ws : List ByteArray} {r : Rd} (hk : okR r) (hw : okWs ws) : M91.pre [.optr 0 0 0 0, .sl (sR ws)] (rO r) := ⟨ws, r, hk, hw, .inl ⟨rfl, rfl⟩⟩
theorem nums_mk2 {ws : List ByteArray} {r : Rd} (hk : okR r) (hw : okWs ws) : M91.pre [.optr 0 0 0 0, .osl 1 0] (rO r ++ [spOb ws]) := ⟨ws, r, hk, hw, .inr ⟨rfl, rfl⟩⟩
theorem n91 : GenNA K Tryz.prog 91 M91 := by
  refine contractNA Tryz.mix K [] [(89, M89), (59, M59), (120, M120), (90, M90)] [] (by simp) (by simp [m89, m59, m120, m90]) (by simp) Tryz.func91 rfl (by decide) ?_
  rintro xs obs us ⟨ws, r, hk, ⟨hw, hw0, hws⟩, (⟨rfl, rfl⟩ | ⟨rfl, rfl⟩)⟩ hu
  · obtain ⟨u, rfl⟩ : ∃ u, us = [u] := by simpa [rO, List.length_eq_one_iff] using hu
    rw [nums_res]
    refine ⟨⟨by rw [Tryz.ntmps91]; simp, by simp, fun k ob hob => ?_⟩, ?_⟩
    · match k, hob with
      | 0, hob => simp [rO] at hob; subst hob; exact ⟨_, rfl, rfl, rfl, rfl, rfl⟩
      | k + 1, hob => simp [rO] at hob
    have imw : M89.mu = [true] := rfl
    have ims : M59.mu = [true] := rfl
    have imn : M120.mu = [true] := rfl
    have imf : M90.mu = [true] := rfl
    simp -implicitDefEqProofs [Tryz.f91, List.lookup_cons, eS, rbR_iR, rbR_nil, rbOb_mk, iR_mf, pickOk, -List.all_eq_true, iR_ok, ok0, iR_eq_nil, deIs_nil, rO, eMake, hw, sR_length]
    refine ⟨by omega, by omega, ?_⟩
    rw [show List.replicate ws.length [X.v (Value.int IntKind.i64 0)] = iR ([] ++ List.replicate (ws.length - 0) 0) by simp [iR]]
    refine loopP_inv (fun p : Nat × List Int × Rd => ⟨42, tl [(0, .optr 0 0 0 0), (5, .osl 1 0), (13, .sl (sR ws)), (14, I ws.length), (15, I p.1), (1000, .pin 0 0 u)], [⟨79, 6, 0, [[.v (.string p.2.2.s), I p.2.2.pos, I p.2.2.en, B p.2.2.dn, I p.2.2.fk, I p.2.2.fa]], true, true, none⟩, ⟨3, 1, 0, iR (p.2.1 ++ List.replicate (ws.length - p.1) 0), false, true, none⟩]⟩) (fun p => p.1 ≤ ws.length ∧ p.2.1.length = p.1 ∧ okR p.2.2 ∧ numbersR ws r = (p.2.1 ++ (numsR (ws.drop p.1) p.2.2).1, finR (numsR (ws.drop p.1) p.2.2).2)) (fun p => ws.length - p.1) (0, [], r) ⟨Nat.zero_le _, rfl, hk, rfl⟩ (Wk.tl (by simp [hold, upd, tl_cons])) ?_
    rintro ⟨k, l, q⟩ ⟨h1, h2, h3, h4⟩
    dsimp only at h1 h2 h3 h4 ⊢
    by_cases h : k < ws.length
    · have hw1 := w64n (show k < 4611686018427387904 by omega)
      have hkws : ws[k].size ≤ 1048576 := hws _ (List.getElem_mem h)
      have hdrop : ws.drop k = ws[k] :: ws.drop (k + 1) := List.drop_eq_getElem_cons h
      rw [hdrop, numsR] at h4
      have hz : ws[k].toList = [] ↔ ws[k].size = 0 := by rw [toL, ← bL_len, List.length_eq_zero_iff]
      have hkq := Keep.okR (keep_kw ws[k] q) h3
      have hpn : M120.pre [.optr 0 0 0 0] (rO (kwR ws[k] q)) := ⟨_, rfl, rfl, hkq⟩
      have hqn := number_res (kwR ws[k] q)
      have hset : ∀ v : Int, (l ++ List.replicate (ws.length - k) 0).set k v = l ++ [v] ++ List.replicate (ws.length - (k + 1)) 0 := by
        intro v
        rw [show ws.length - k = (ws.length - (k + 1)) + 1 by omega, List.replicate_succ, List.set_append_right _ _ (by omega), h2, Nat.sub_self]
        simp
      have hg0 : (l ++ List.replicate (ws.length - k) (0 : Int))[k]? = some 0 := by
        rw [List.getElem?_append_right (by omega), List.getElem?_replicate, if_pos (by omega)]
      by_cases he : ws[k].size = 0
      · have e1 : kwR ws[k] q = q := by simp [kwR, he]
        have hz1 := hz.2 he
        rw [e1] at hpn hqn h4 hkq
        have hkn := Keep.okR (keep_num q) hkq
        generalize numR q = nq at hqn h4 hkn
        obtain ⟨v, q'⟩ := nq
        dsimp only at hqn h4 hkn
        unfold rO at hpn hqn
        simp -implicitDefEqProofs [List.lookup_cons, eS, rbR_iR, rbR_nil, rbOb_mk, iR_mf, pickOk, -List.all_eq_true, iR_ok, ok0, iR_eq_nil, deIs_nil, h, sR_get, sR_getE, sR_length, hz1, hpn, hqn, imn, rbR_rd, rbR_iR, hg0]
        refine ⟨by omega, k + 1, by omega, l ++ [v], by simp [h2], q', hkn, by rw [h4]; simp, by omega, ?_⟩
        rw [hset v]
        exact Wk.tl (by simp [hold, upd, tl_cons, hw1])
      · have hzn : ¬ ws[k].toList = [] := fun e => he (hz.1 e)
        have e1 : kwR ws[k] q = if (wordR q).1 = ws[k] then (wordR q).2.2 else stopR 2 (wordR q).2.1 (wordR q).2.2 := by unfold kwR; rw [if_neg he]
        have pw : M89.pre [.optr 0 0 0 0] (rO q) := ⟨q, rfl, rfl, h3⟩
        have qw := word_res q
        have hkn := Keep.okR (keep_num _) hkq
        rw [e1] at hpn hqn h4 hkn
        generalize wordR q = t at hpn hqn h4 hkn qw
        obtain ⟨w, a, q1⟩ := t
        dsimp only at hpn hqn h4 hkn qw
        by_cases hww : w = ws[k]
        · rw [if_pos hww] at hpn hqn h4 hkn
          subst hww
          generalize numR q1 = nq at hqn h4 hkn
          obtain ⟨v, q'⟩ := nq
          dsimp only at hqn h4 hkn
          unfold rO at hpn hqn pw qw
          simp -implicitDefEqProofs [List.lookup_cons, eS, rbR_iR, rbR_nil, rbOb_mk, iR_mf, pickOk, -List.all_eq_true, iR_ok, ok0, iR_eq_nil, deIs_nil, h, sR_get, sR_getE, sR_length, hzn, pw, qw, imw, hpn, hqn, imn, rbR_rd, rbR_iR, hg0, rn2_T2]
          refine ⟨by omega, k + 1, by omega, l ++ [v], by simp [h2], q', hkn, by rw [h4]; simp, by omega, ?_⟩
          rw [hset v]
          exact Wk.tl (by simp [hold, upd, tl_cons, hw1])
        · rw [if_neg hww] at hpn hqn h4 hkn
          have hwq : ¬ w.toList = ws[k].toList := fun e => hww (toL_inj.1 e)
          have ps : M59.pre [.optr 0 0 0 0, I 2, I a] (rO q1) := ⟨2, a, q1, rfl, rfl⟩
          have qs := stop_res 2 a q1
          generalize stopR 2 a q1 = q2 at hpn hqn h4 hkn qs
          generalize numR q2 = nq at hqn h4 hkn
          obtain ⟨v, q'⟩ := nq
          dsimp only at hqn h4 hkn
          unfold rO at hpn hqn pw qw ps qs
          simp -implicitDefEqProofs [List.lookup_cons, eS, rbR_iR, rbR_nil, rbOb_mk, iR_mf, pickOk, -List.all_eq_true, iR_ok, ok0, iR_eq_nil, deIs_nil, h, sR_get, sR_getE, sR_length, hzn, pw, qw, imw, ps, qs, ims, hww, hwq, hpn, hqn, imn, rbR_rd, rbR_iR, hg0, rn2_T2]
          refine ⟨by omega, k + 1, by omega, l ++ [v], by simp [h2], q', hkn, by rw [h4]; simp, by omega, ?_⟩
          rw [hset v]
          exact Wk.tl (by simp [hold, upd, tl_cons, hw1])
    · have ek : k = ws.length := by omega
      subst ek
      rw [List.drop_length] at h4
      have hf := finish_res q
      have pf : M90.pre [.optr 0 0 0 0] (rO q) := ⟨q, rfl, rfl⟩
      rw [h4]
      simp only [numsR, List.append_nil] at h4 ⊢
      generalize finR q = q' at hf ⊢
      unfold rO at hf pf
      simp -implicitDefEqProofs [List.lookup_cons, eS, rbR_iR, rbR_nil, rbOb_mk, iR_mf, pickOk, -List.all_eq_true, iR_ok, ok0, iR_eq_nil, deIs_nil, rO, nuOb, pf, hf, imf, rbR_rd]
      refine finN [0, 1] [] (by simp [pickOkN]) (by simp [upd, tl_cons]) ?_
      simp -implicitDefEqProofs [fS, rn0, pickObs, deI]
  · obtain ⟨u, u1, rfl⟩ : ∃ u u1, us = [u, u1] := by
      match us, hu with
      | [a, b], _ => exact ⟨a, b, rfl⟩
    rw [nums_res2]
    refine ⟨⟨by rw [Tryz.ntmps91]; simp, by simp, fun k ob hob => ?_⟩, ?_⟩
    · match k, hob with
      | 0, hob => simp [rO] at hob; subst hob; exact ⟨_, rfl, rfl, rfl, rfl, rfl⟩
      | 1, hob => simp [rO, spOb] at hob; subst hob; exact ⟨_, rfl, rfl, rfl, rfl, rfl⟩
      | k + 2, hob => simp [rO] at hob
    have imw : M89.mu = [true] := rfl
    have ims : M59.mu = [true] := rfl
    have imn : M120.mu = [true] := rfl
    have imf : M90.mu = [true] := rfl
    simp -implicitDefEqProofs [Tryz.f91, List.lookup_cons, eS, rbR_iR, rbR_nil, rbOb_mk, iR_mf, pickOk, -List.all_eq_true, iR_ok, ok0, iR_eq_nil, deIs_nil, rO, eMake, hw, sR_length, spOb]
    refine ⟨by omega, by omega, ?_⟩
    rw [show List.replicate ws.length [X.v (Value.int IntKind.i64 0)] = iR ([] ++ List.replicate (ws.length - 0) 0) by simp [iR]]
    refine loopP_inv (fun p : Nat × List Int × Rd => ⟨42, tl [(0, .optr 0 0 0 0), (5, .osl 2 0), (13, .osl 1 0), (14, I ws.length), (15, I p.1), (1000, .pin 0 0 u), (1001, .pin 1 0 u1)], [⟨79, 6, 0, [[.v (.string p.2.2.s), I p.2.2.pos, I p.2.2.en, B p.2.2.dn, I p.2.2.fk, I p.2.2.fa]], true, true, none⟩, ⟨9, 1, 0, sR ws, false, true, none⟩, ⟨3, 1, 0, iR (p.2.1 ++ List.replicate (ws.length - p.1) 0), false, true, none⟩]⟩) (fun p => p.1 ≤ ws.length ∧ p.2.1.length = p.1 ∧ okR p.2.2 ∧ numbersR ws r = (p.2.1 ++ (numsR (ws.drop p.1) p.2.2).1, finR (numsR (ws.drop p.1) p.2.2).2)) (fun p => ws.length - p.1) (0, [], r) ⟨Nat.zero_le _, rfl, hk, rfl⟩ (Wk.tl (by simp [hold, upd, tl_cons])) ?_
    rintro ⟨k, l, q⟩ ⟨h1, h2, h3, h4⟩
    dsimp only at h1 h2 h3 h4 ⊢
    by_cases h : k < ws.length
    · have hw1 := w64n (show k < 4611686018427387904 by omega)
      have hkws : ws[k].size ≤ 1048576 := hws _ (List.getElem_mem h)
      have hdrop : ws.drop k = ws[k] :: ws.drop (k + 1) := List.drop_eq_getElem_cons h
      rw [hdrop, numsR] at h4
      have hz : ws[k].toList = [] ↔ ws[k].size = 0 := by rw [toL, ← bL_len, List.length_eq_zero_iff]
      have hkq := Keep.okR (keep_kw ws[k] q) h3
      have hpn : M120.pre [.optr 0 0 0 0] (rO (kwR ws[k] q)) := ⟨_, rfl, rfl, hkq⟩
      have hqn := number_res (kwR ws[k] q)
      have hset : ∀ v : Int, (l ++ List.replicate (ws.length - k) 0).set k v = l ++ [v] ++ List.replicate (ws.length - (k + 1)) 0 := by
        intro v
        rw [show ws.length - k = (ws.length - (k + 1)) + 1 by omega, List.replicate_succ, List.set_append_right _ _ (by omega), h2, Nat.sub_self]
        simp
      have hg0 : (l ++ List.replicate (ws.length - k) (0 : Int))[k]? = some 0 := by
        rw [List.getElem?_append_right (by omega), List.getElem?_replicate, if_pos (by omega)]
      by_cases he : ws[k].size = 0
      · have e1 : kwR ws[k] q = q := by simp [kwR, he]
        have hz1 := hz.2 he
        rw [e1] at hpn hqn h4 hkq
        have hkn := Keep.okR (keep_num q) hkq
        generalize numR q = nq at hqn h4 hkn
        obtain ⟨v, q'⟩ := nq
        dsimp only at hqn h4 hkn
        unfold rO at hpn hqn
        simp -implicitDefEqProofs [List.lookup_cons, eS, rbR_iR, rbR_nil, rbOb_mk, iR_mf, pickOk, -List.all_eq_true, iR_ok, ok0, iR_eq_nil, deIs_nil, h, sR_get, sR_getE, sR_length, hz1, hpn, hqn, imn, rbR_rd, rbR_iR, hg0]
        refine ⟨by omega, k + 1, by omega, l ++ [v], by simp [h2], q', hkn, by rw [h4]; simp, by omega, ?_⟩
        rw [hset v]
        exact Wk.tl (by simp [hold, upd, tl_cons, hw1])
      · have hzn : ¬ ws[k].toList = [] := fun e => he (hz.1 e)
        have e1 : kwR ws[k] q = if (wordR q).1 = ws[k] then (wordR q).2.2 else stopR 2 (wordR q).2.1 (wordR q).2.2 := by unfold kwR; rw [if_neg he]
        have pw : M89.pre [.optr 0 0 0 0] (rO q) := ⟨q, rfl, rfl, h3⟩
        have qw := word_res q
        have hkn := Keep.okR (keep_num _) hkq
        rw [e1] at hpn hqn h4 hkn
        generalize wordR q = t at hpn hqn h4 hkn qw
        obtain ⟨w, a, q1⟩ := t
        dsimp only at hpn hqn h4 hkn qw
        by_cases hww : w = ws[k]
        · rw [if_pos hww] at hpn hqn h4 hkn
          subst hww
          generalize numR q1 = nq at hqn h4 hkn
          obtain ⟨v, q'⟩ := nq
          dsimp only at hqn h4 hkn
          unfold rO at hpn hqn pw qw
          simp -implicitDefEqProofs [List.lookup_cons, eS, rbR_iR, rbR_nil, rbOb_mk, iR_mf, pickOk, -List.all_eq_true, iR_ok, ok0, iR_eq_nil, deIs_nil, h, sR_get, sR_getE, sR_length, hzn, pw, qw, imw, hpn, hqn, imn, rbR_rd, rbR_iR, hg0, rn2_T2]
          refine ⟨by omega, k + 1, by omega, l ++ [v], by simp [h2], q', hkn, by rw [h4]; simp, by omega, ?_⟩
          rw [hset v]
          exact Wk.tl (by simp [hold, upd, tl_cons, hw1])
        · rw [if_neg hww] at hpn hqn h4 hkn
          have hwq : ¬ w.toList = ws[k].toList := fun e => hww (toL_inj.1 e)
          have ps : M59.pre [.optr 0 0 0 0, I 2, I a] (rO q1) := ⟨2, a, q1, rfl, rfl⟩
          have qs := stop_res 2 a q1
          generalize stopR 2 a q1 = q2 at hpn hqn h4 hkn qs
          generalize numR q2 = nq at hqn h4 hkn
          obtain ⟨v, q'⟩ := nq
          dsimp only at hqn h4 hkn
          unfold rO at hpn hqn pw qw ps qs
          simp -implicitDefEqProofs [List.lookup_cons, eS, rbR_iR, rbR_nil, rbOb_mk, iR_mf, pickOk, -List.all_eq_true, iR_ok, ok0, iR_eq_nil, deIs_nil, h, sR_get, sR_getE, sR_length, hzn, pw, qw, imw, ps, qs, ims, hww, hwq, hpn, hqn, imn, rbR_rd, rbR_iR, hg0, rn2_T2]
          refine ⟨by omega, k + 1, by omega, l ++ [v], by simp [h2], q', hkn, by rw [h4]; simp, by omega, ?_⟩
          rw [hset v]
          exact Wk.tl (by simp [hold, upd, tl_cons, hw1])
    · have ek : k = ws.length := by omega
      subst ek
      rw [List.drop_length] at h4
      have hf := finish_res q
      have pf : M90.pre [.optr 0 0 0 0] (rO q) := ⟨q, rfl, rfl⟩
      rw [h4]
      simp only [numsR, List.append_nil] at h4 ⊢
      generalize finR q = q' at hf ⊢
      unfold rO at hf pf
      simp -implicitDefEqProofs [List.lookup_cons, eS, rbR_iR, rbR_nil, rbOb_mk, iR_mf, pickOk, -List.all_eq_true, iR_ok, ok0, iR_eq_nil, deIs_nil, rO, nuOb, pf, hf, imf, rbR_rd, spOb]
      refine finN [0, 1, 2] [] (by simp [pickOkN]) (by simp [upd, tl_cons]) ?_
      simp -implicitDefEqProofs [fS, rn0, pickObs, deI]
end Go.Proofs
