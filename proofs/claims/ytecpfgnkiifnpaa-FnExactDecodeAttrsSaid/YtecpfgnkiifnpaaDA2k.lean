/-
  What is proved here: the contract of the decoder's read, that calls itself. Condition: none.
-/
import Derived.Test.YtecpfgnkiifnpaaDA1k
import Derived.Test.YtecpfgnkiifnpaaAbs32
namespace Go.Proofs
open Go.Abs Go.Flat
set_option linter.unusedSimpArgs false
set_option linter.unnecessarySimpa false
set_option linter.unusedVariables false
set_option maxHeartbeats 16000000
set_option maxRecDepth 20000
def rdX (fk fa : Int) (s : ByteArray) : List Att × Option (Int × Nat) → X × List Ob
  | (l, none) => (B true, dcO 1 s l fk fa)
  | (l, some f) => (B false, dcO 1 s l f.1 f.2)
def okRd (s : ByteArray) (l : List Att) (a e d : Nat) : Prop := s.size ≤ 6000 ∧ e ≤ s.size ∧ a ≤ e ∧ 1 ≤ d ∧ d ≤ 9 ∧ l.length ≤ 400
def MRd (n : Nat) : MFun := ⟨[true, false, false, false], fun xs obs => ∃ (s : ByteArray) (l : List Att) (fk fa : Int) (a e d : Nat), xs = [.optr 0 0 0 0, I a, I e, I d] ∧ obs = dcO 0 s l fk fa ∧ okRd s l a e d ∧ 10 ≤ n + d,
  fun xs obs => rdX (dcF obs).1 (dcF obs).2 (dcS obs) (rdW (dcS obs) (deI (xs.getD 3 .top)).toNat (deI (xs.getD 1 .top)).toNat (deI (xs.getD 2 .top)).toNat (dcL obs))⟩
theorem mRd_res (n : Nat) (s : ByteArray) (l : List Att) (fk fa : Int) (a e d : Nat) : (MRd n).res [.optr 0 0 0 0, I a, I e, I d] (dcO 0 s l fk fa) = rdX fk fa s (rdW s d a e l) := by
  simp only [MRd, dcS_O, dcL_O, dcF_O]
  simp [deI]
theorem rdX_ob (fk fa : Int) (s : ByteArray) (q : List Att × Option (Int × Nat)) : ∃ l k b, (rdX fk fa s q).2 = dcO 1 s l k b := by
  obtain ⟨l, f⟩ := q
  cases f with
  | none => exact ⟨l, _, _, rfl⟩
  | some f => exact ⟨l, _, _, rfl⟩
theorem rd_1 : (drC 1 (bodyOf Try.f19)) = .seq (.block 0 (.loop (lpC (lpC (hdC (drC 1 (bodyOf Try.f19))))))) (tlC (drC 1 (bodyOf Try.f19))) := rfl
theorem rd_2 : (lpC (lpC (hdC (drC 1 (bodyOf Try.f19))))) = .seq (hdC (lpC (lpC (hdC (drC 1 (bodyOf Try.f19)))))) (.block 1 (lpC (tlC (lpC (lpC (hdC (drC 1 (bodyOf Try.f19)))))))) := rfl
theorem rd_3 : (drC 13 (lpC (tlC (lpC (lpC (hdC (drC 1 (bodyOf Try.f19)))))))) = .seq (.seq (hdC (hdC (drC 13 (lpC (tlC (lpC (lpC (hdC (drC 1 (bodyOf Try.f19)))))))))) (tlC (hdC (drC 13 (lpC (tlC (lpC (lpC (hdC (drC 1 (bodyOf Try.f19))))))))))) (tlC (drC 13 (lpC (tlC (lpC (lpC (hdC (drC 1 (bodyOf Try.f19))))))))) := rfl
theorem rd_4 : hasC 13 (lpC (tlC (lpC (lpC (hdC (drC 1 (bodyOf Try.f19))))))) = true := rfl
theorem rd_5 : hdC (hdC (drC 13 (lpC (tlC (lpC (lpC (hdC (drC 1 (bodyOf Try.f19))))))))) = .region 26 (opL (hdC (hdC (drC 13 (lpC (tlC (lpC (lpC (hdC (drC 1 (bodyOf Try.f19))))))))))).toArray false := rfl
/-- behind the attribute: what is in it, and on -/
theorem rd_tail (n : Nat) (s : ByteArray) (fk fa : Int) (b e d : Nat) (m : List Att) (x : Att) (q : List Att × Option (Int × Nat)) (u0 u1 : Value) (hs : s.size ≤ 6000) (he : e ≤ s.size) (hb : b < e) (hd1 : 1 ≤ d) (hd8 : d ≤ 8) (hnd : 10 ≤ n + 1 + d) (hm : (m ++ [x]).length ≤ 400)
    (hn4 : 4 ≤ shN s b) (hpe : pad4 (shN s b) ≤ e - b) (hx : x.nest = decide (¬ shN s (b + 2) < 32768))
    (hq : q = if shN s (b + 2) < 32768 then rdW s d (b + pad4 (shN s b)) e (m ++ [x]) else match rdW s (d + 1) (b + 4) (b + shN s b) (m ++ [x]) with
      | (l', some f) => (l', some f)
      | (l', none) => rdW s d (b + pad4 (shN s b)) e l')
    (t : Nat → X) (t0 : t 0 = .optr 0 0 0 0) (t1 : t 1 = I b) (t2 : t 2 = I e) (t3 : t 3 = I d) (t9 : t 9 = I (shN s b)) (t10 : t 10 = I (pad4 (shN s b))) (t12 : t 12 = .optr 2 0 0 0) (tp : t 1000 = .pin 0 0 u0) :
    Snd Try.prog (envN K [] [] [(33, M33), (34, M34), (19, MRd n)]) (drC 13 (lpC (tlC (lpC (lpC (hdC (drC 1 (bodyOf Try.f19)))))))) (blockP 1 (thenP (fun s' => ∃ j : Nat × List Att, (j.1 ≤ e ∧ j.2.length ≤ 400 ∧ q = rdW s d j.1 e j.2) ∧ e - j.1 < e - b ∧ Wk s' ⟨140, tl [(0, .optr 0 0 0 0), (1, I j.1), (2, I e), (3, I d), (1000, .pin 0 0 u0)], dcO 0 s j.2 fk fa⟩) (blockP 0 (thenP (fun s9 => Snd Try.prog (envN K [] [] [(33, M33), (34, M34), (19, MRd n)]) (tlC (drC 1 (bodyOf Try.f19))) (retN Try.prog Try.f19.results.toList [u0, u1] (rdX fk fa s q)) s9) (retN Try.prog Try.f19.results.toList [u0, u1] (rdX fk fa s q)))))) ⟨140, t, [⟨45, 4, 0, [[.v (.string s), .osl 1 0, I fk, I fa]], true, true, none⟩, ⟨49, 4, 0, tR (m ++ [x]), false, true, none⟩, ⟨49, 4, 0, [[I x.dep, I x.typ, B x.nest, .v (.string x.dat)]], true, true, none⟩]⟩ := by
  have hpg := pad4_ge (shN s b)
  have ipr : (MRd n).mu = [true, false, false, false] := rfl
  have w1 : IntKind.i64.wrap ((b : Int) + 4) = ((b + 4 : Nat) : Int) := by rw [w64 (by omega) (by omega)]; omega
  have w2 : IntKind.i64.wrap ((b : Int) + (shN s b : Nat)) = ((b + shN s b : Nat) : Int) := by rw [w64 (by omega) (by omega)]; omega
  have w3 : IntKind.i64.wrap ((d : Int) + 1) = ((d + 1 : Nat) : Int) := by rw [w64 (by omega) (by omega)]; omega
  have w4 : IntKind.i64.wrap ((b : Int) + (pad4 (shN s b) : Nat)) = ((b + pad4 (shN s b) : Nat) : Int) := by rw [w64 (by omega) (by omega)]; omega
  have pr : (MRd n).pre [.optr 0 0 0 0, I ((b + 4 : Nat) : Int), I ((b + shN s b : Nat) : Int), I ((d + 1 : Nat) : Int)] (dcO 0 s (m ++ [x]) fk fa) := ⟨s, _, fk, fa, b + 4, b + shN s b, d + 1, rfl, rfl, ⟨hs, by omega, by omega, by omega, by omega, hm⟩, by omega⟩
  have qr := mRd_res n s (m ++ [x]) fk fa (b + 4) (b + shN s b) (d + 1)
  have hlen := (rdW_len (s := s) _ (d + 1) (b + 4) (b + shN s b) (m ++ [x]) (Nat.le_refl _) hm).1
  rw [rd_3]
  refine Snd.seq (Snd.seq ?_)
  rw [rd_5]
  refine Snd.regE ?_
  generalize hP : (blockP 1 (thenP (fun s' => ∃ j : Nat × List Att, (j.1 ≤ e ∧ j.2.length ≤ 400 ∧ q = rdW s d j.1 e j.2) ∧ e - j.1 < e - b ∧ Wk s' ⟨140, tl [(0, .optr 0 0 0 0), (1, I j.1), (2, I e), (3, I d), (1000, .pin 0 0 u0)], dcO 0 s j.2 fk fa⟩) (blockP 0 (thenP (fun s9 => Snd Try.prog (envN K [] [] [(33, M33), (34, M34), (19, MRd n)]) (tlC (drC 1 (bodyOf Try.f19))) (retN Try.prog Try.f19.results.toList [u0, u1] (rdX fk fa s q)) s9) (retN Try.prog Try.f19.results.toList [u0, u1] (rdX fk fa s q)))))) = Pq
  generalize hC : tlC (hdC (drC 13 (lpC (tlC (lpC (lpC (hdC (drC 1 (bodyOf Try.f19))))))))) = Cq
  generalize hT : tlC (drC 13 (lpC (tlC (lpC (lpC (hdC (drC 1 (bodyOf Try.f19)))))))) = Tq
  by_cases hk : shN s (b + 2) < 32768
  · rw [if_pos hk] at hq
    have hxn : x.nest = false := by rw [hx]; simp [hk]
    simp -implicitDefEqProofs [opL, hdC, tlC, drC, lpC, Try.f19, List.lookup_cons, eS, rbR_iR, rbR_nil, rbOb_mk, iR_mf, pickOk, -List.all_eq_true, iR_ok, ok0, iR_eq_nil, deIs_nil, rgE_nil, rgE_cons, rgE_yes, rgE_no, gB_bool, t0, t1, t2, t3, t9, t10, t12, hxn]
    rw [← hC]
    refine Snd.of ?_
    simp -implicitDefEqProofs [opL, hdC, tlC, drC, lpC, Try.f19, List.lookup_cons, eS, rbR_iR, rbR_nil, rbOb_mk, iR_mf, pickOk, -List.all_eq_true, iR_ok, ok0, iR_eq_nil, deIs_nil]
    rw [← hT]
    refine Snd.of ?_
    rw [← hP]
    simp -implicitDefEqProofs [opL, hdC, tlC, drC, lpC, Try.f19, List.lookup_cons, eS, rbR_iR, rbR_nil, rbOb_mk, iR_mf, pickOk, -List.all_eq_true, iR_ok, ok0, iR_eq_nil, deIs_nil, t1, t10, w4]
    refine ⟨b + pad4 (shN s b), by omega, m ++ [x], hm, hq, by omega, ?_⟩
    refine Wk.tlPN [0, 1] (by simp [pickOkN]) (by simp [dcO]) ?_
    simp [hold, upd, tl_cons, t0, t2, t3, tp, w4]
  · rw [if_neg hk] at hq
    have hxn : x.nest = true := by rw [hx]; simp [hk]
    generalize hW : rdW s (d + 1) (b + 4) (b + shN s b) (m ++ [x]) = W at hq qr hlen
    obtain ⟨l', f⟩ := W
    cases f with
    | none =>
      simp only [rdX, dcO] at pr qr
      rw [show ((b + 4 : Nat) : Int) = (b : Int) + 4 by omega, show ((b + shN s b : Nat) : Int) = (b : Int) + (shN s b : Nat) by omega, show ((d + 1 : Nat) : Int) = (d : Int) + 1 by omega] at pr qr
      dsimp only at hlen hq
      simp -implicitDefEqProofs [opL, hdC, tlC, drC, lpC, Try.f19, List.lookup_cons, eS, rbR_iR, rbR_nil, rbOb_mk, iR_mf, pickOk, -List.all_eq_true, iR_ok, ok0, iR_eq_nil, deIs_nil, rgE_nil, rgE_cons, rgE_yes, rgE_no, gB_bool, t0, t1, t2, t3, t9, t10, t12, hxn, w1, w2, w3, pr, qr, ipr, pickOkN, tR_rw, tR_rv]
      rw [← hC]
      refine Snd.of ?_
      simp -implicitDefEqProofs [opL, hdC, tlC, drC, lpC, Try.f19, List.lookup_cons, eS, rbR_iR, rbR_nil, rbOb_mk, iR_mf, pickOk, -List.all_eq_true, iR_ok, ok0, iR_eq_nil, deIs_nil]
      rw [← hT]
      refine Snd.of ?_
      rw [← hP]
      simp -implicitDefEqProofs [opL, hdC, tlC, drC, lpC, Try.f19, List.lookup_cons, eS, rbR_iR, rbR_nil, rbOb_mk, iR_mf, pickOk, -List.all_eq_true, iR_ok, ok0, iR_eq_nil, deIs_nil, t1, t10, w4]
      refine ⟨b + pad4 (shN s b), by omega, l', hlen, hq, by omega, ?_⟩
      refine Wk.tlPN [0, 1] (by simp [pickOkN]) (by simp [dcO]) ?_
      simp [hold, upd, tl_cons, t0, t2, t3, tp, w4]
    | some f =>
      simp only [rdX, dcO] at pr qr
      rw [show ((b + 4 : Nat) : Int) = (b : Int) + 4 by omega, show ((b + shN s b : Nat) : Int) = (b : Int) + (shN s b : Nat) by omega, show ((d + 1 : Nat) : Int) = (d : Int) + 1 by omega] at pr qr
      dsimp only at hlen hq
      simp -implicitDefEqProofs [opL, hdC, tlC, drC, lpC, Try.f19, List.lookup_cons, eS, rbR_iR, rbR_nil, rbOb_mk, iR_mf, pickOk, -List.all_eq_true, iR_ok, ok0, iR_eq_nil, deIs_nil, rgE_nil, rgE_cons, rgE_yes, rgE_no, gB_bool, t0, t1, t2, t3, t9, t10, t12, hxn, w1, w2, w3, pr, qr, ipr, pickOkN, tR_rw, tR_rv]
      rw [← hC]
      refine Snd.of ?_
      rw [← hP]
      simp -implicitDefEqProofs [opL, hdC, tlC, drC, lpC, Try.f19, List.lookup_cons, eS, rbR_iR, rbR_nil, rbOb_mk, iR_mf, pickOk, -List.all_eq_true, iR_ok, ok0, iR_eq_nil, deIs_nil]
      rw [hq]
      refine finN [0, 1] [0, 1] (by simp [pickOkN]) (by simp [upd, tl_cons, tp]) ?_
      simp [rdX, dcO, one]
theorem and_nf (x : Nat) (hx : x < 65536) : IntKind.i64.wrap ((x % 2 ^ IntKind.i64.bits &&& 32767 % 2 ^ IntKind.i64.bits : Nat) : Int) = ((x % 32768 : Nat) : Int) := by
  have e : x % 2 ^ IntKind.i64.bits &&& 32767 % 2 ^ IntKind.i64.bits = x % 32768 := by
    show x % 18446744073709551616 &&& 32767 % 18446744073709551616 = x % 32768
    rw [Nat.mod_eq_of_lt (show x < 18446744073709551616 by omega), show 32767 % 18446744073709551616 = 32767 from rfl]
    exact Nat.and_two_pow_sub_one_eq_mod x 15
  rw [e]
  exact w64 (by omega) (by omega)
theorem rd_body (n : Nat) (s : ByteArray) (fk fa : Int) (b e d : Nat) (m : List Att) (q : List Att × Option (Int × Nat)) (u0 u1 : Value) (hs : s.size ≤ 6000) (he : e ≤ s.size) (hb : b < e) (hd1 : 1 ≤ d) (hd9 : d ≤ 9) (hnd : 10 ≤ n + 1 + d) (hm : m.length ≤ 400)
    (hq : rdW s d b e m = q) (t : Nat → X) (t0 : t 0 = .optr 0 0 0 0) (t1 : t 1 = I b) (t2 : t 2 = I e) (t3 : t 3 = I d) (tp : t 1000 = .pin 0 0 u0) :
    Snd Try.prog (envN K [] [] [(33, M33), (34, M34), (19, MRd n)]) (lpC (tlC (lpC (lpC (hdC (drC 1 (bodyOf Try.f19))))))) (blockP 1 (thenP (fun s' => ∃ j : Nat × List Att, (j.1 ≤ e ∧ j.2.length ≤ 400 ∧ q = rdW s d j.1 e j.2) ∧ e - j.1 < e - b ∧ Wk s' ⟨140, tl [(0, .optr 0 0 0 0), (1, I j.1), (2, I e), (3, I d), (1000, .pin 0 0 u0)], dcO 0 s j.2 fk fa⟩) (blockP 0 (thenP (fun s9 => Snd Try.prog (envN K [] [] [(33, M33), (34, M34), (19, MRd n)]) (tlC (drC 1 (bodyOf Try.f19))) (retN Try.prog Try.f19.results.toList [u0, u1] (rdX fk fa s q)) s9) (retN Try.prog Try.f19.results.toList [u0, u1] (rdX fk fa s q)))))) ⟨140, t, dcO 0 s m fk fa⟩ := by
  have ips : M33.mu = [true, false, false] := rfl
  have ipt : M34.mu = [true, false] := rfl
  have ps : ∀ k a : Int, M33.pre [.optr 0 0 0 0, I k, I a] (dcO 0 s m fk fa) := fun k a => ⟨k, a, s, m, fk, fa, rfl, rfl⟩
  have qs : ∀ k a : Int, M33.res [.optr 0 0 0 0, I k, I a] (dcO 0 s m fk fa) = (B false, dcO 0 s m k a) := fun k a => dstop_res k a s m fk fa
  simp only [dcO] at ps qs
  by_cases c1 : 8 < d
  · have hf : headF s d b e m.length = some (4, b) := by unfold headF; rw [if_pos c1]
    rw [rdW_bad hb hf] at hq
    have i1 : (8 : Int) < d := by omega
    subst hq
    refine Snd.cutN 13 rd_4 ?_
    generalize hT : (drC 13 (lpC (tlC (lpC (lpC (hdC (drC 1 (bodyOf Try.f19)))))))) = Tq
    simp -implicitDefEqProofs [opL, hdC, tlC, drC, lpC, tkC, Try.f19, List.lookup_cons, eS, rbR_iR, rbR_nil, rbOb_mk, iR_mf, pickOk, -List.all_eq_true, iR_ok, ok0, iR_eq_nil, deIs_nil, t0, t1, t2, t3, dcO, ps, qs, ips, ipt, pickOkN, tR_rw, tR_rv, i1]
    refine finN [0, 1] [0, 1] (by simp [pickOkN]) (by simp [upd, tl_cons, tp]) ?_
    simp [rdX, dcO, one]
  have i1 : ¬ (8 : Int) < d := by omega
  by_cases c2 : m.length = 400
  · have hf : headF s d b e m.length = some (5, b) := by unfold headF; rw [if_neg c1, if_pos (by omega)]
    rw [rdW_bad hb hf] at hq
    have i2 : (m.length : Int) = 400 := by omega
    subst hq
    refine Snd.cutN 13 rd_4 ?_
    generalize hT : (drC 13 (lpC (tlC (lpC (lpC (hdC (drC 1 (bodyOf Try.f19)))))))) = Tq
    simp -implicitDefEqProofs [opL, hdC, tlC, drC, lpC, tkC, Try.f19, List.lookup_cons, eS, rbR_iR, rbR_nil, rbOb_mk, iR_mf, pickOk, -List.all_eq_true, iR_ok, ok0, iR_eq_nil, deIs_nil, t0, t1, t2, t3, dcO, ps, qs, ips, ipt, pickOkN, tR_rw, tR_rv, i1, i2]
    refine finN [0, 1] [0, 1] (by simp [pickOkN]) (by simp [upd, tl_cons, tp]) ?_
    simp [rdX, dcO, one]
  have i2 : ¬ (m.length : Int) = 400 := by omega
  have w0 : IntKind.i64.wrap ((e : Int) - b) = (e : Int) - b := w64 (by omega) (by omega)
  by_cases c3 : e - b < 4
  · have hf : headF s d b e m.length = some (6, b) := by unfold headF; rw [if_neg c1, if_neg (by omega), if_pos c3]
    rw [rdW_bad hb hf] at hq
    have i3 : (e : Int) - b < 4 := by omega
    subst hq
    refine Snd.cutN 13 rd_4 ?_
    generalize hT : (drC 13 (lpC (tlC (lpC (lpC (hdC (drC 1 (bodyOf Try.f19)))))))) = Tq
    simp -implicitDefEqProofs [opL, hdC, tlC, drC, lpC, tkC, Try.f19, List.lookup_cons, eS, rbR_iR, rbR_nil, rbOb_mk, iR_mf, pickOk, -List.all_eq_true, iR_ok, ok0, iR_eq_nil, deIs_nil, t0, t1, t2, t3, dcO, ps, qs, ips, ipt, pickOkN, tR_rw, tR_rv, i1, i2, w0, i3]
    refine finN [0, 1] [0, 1] (by simp [pickOkN]) (by simp [upd, tl_cons, tp]) ?_
    simp [rdX, dcO, one]
  have i3 : ¬ (e : Int) - b < 4 := by omega
  have pt : M34.pre [.optr 0 0 0 0, I b] (dcO 0 s m fk fa) := ⟨b, s, m, fk, fa, rfl, rfl, hs, by omega⟩
  have qt := dshort_res b s m fk fa
  simp only [dcO] at pt qt
  have hsh := shN_lt s b
  by_cases c4 : shN s b < 4
  · have hf : headF s d b e m.length = some (3, b) := by unfold headF; rw [if_neg c1, if_neg (by omega), if_neg c3, if_pos c4]
    rw [rdW_bad hb hf] at hq
    have i4 : ((shN s b : Nat) : Int) < 4 := by omega
    subst hq
    refine Snd.cutN 13 rd_4 ?_
    generalize hT : (drC 13 (lpC (tlC (lpC (lpC (hdC (drC 1 (bodyOf Try.f19)))))))) = Tq
    simp -implicitDefEqProofs [opL, hdC, tlC, drC, lpC, tkC, Try.f19, List.lookup_cons, eS, rbR_iR, rbR_nil, rbOb_mk, iR_mf, pickOk, -List.all_eq_true, iR_ok, ok0, iR_eq_nil, deIs_nil, t0, t1, t2, t3, dcO, ps, qs, ips, ipt, pickOkN, tR_rw, tR_rv, i1, i2, w0, i3, pt, qt, i4]
    refine finN [0, 1] [0, 1] (by simp [pickOkN]) (by simp [upd, tl_cons, tp]) ?_
    simp [rdX, dcO, one]
  have i4 : ¬ ((shN s b : Nat) : Int) < 4 := by omega
  have hpg := pad4_ge (shN s b)
  have w5 : IntKind.i64.wrap ((shN s b : Int) + 3) = (shN s b : Int) + 3 := w64 (by omega) (by omega)
  have w6 : IntKind.i64.wrap (IntKind.i64.wrap (((shN s b : Int) + 3).tdiv 4) * 4) = ((pad4 (shN s b) : Nat) : Int) := by
    have e1 : ((shN s b : Int) + 3).tdiv 4 = (((shN s b + 3) / 4 : Nat) : Int) := (Int.ofNat_tdiv (shN s b + 3) 4).symm
    have e2 : IntKind.i64.wrap (((shN s b + 3) / 4 : Nat) : Int) = (((shN s b + 3) / 4 : Nat) : Int) := w64 (by omega) (by omega)
    rw [e1, e2, w64 (by omega) (by omega)]
    unfold pad4
    omega
  by_cases c5 : e - b < pad4 (shN s b)
  · have hf : headF s d b e m.length = some (6, b) := by unfold headF; rw [if_neg c1, if_neg (by omega), if_neg c3, if_neg c4, if_pos c5]
    rw [rdW_bad hb hf] at hq
    have i5 : (e : Int) - b < (pad4 (shN s b) : Nat) := by omega
    subst hq
    refine Snd.cutN 13 rd_4 ?_
    generalize hT : (drC 13 (lpC (tlC (lpC (lpC (hdC (drC 1 (bodyOf Try.f19)))))))) = Tq
    simp -implicitDefEqProofs [opL, hdC, tlC, drC, lpC, tkC, Try.f19, List.lookup_cons, eS, rbR_iR, rbR_nil, rbOb_mk, iR_mf, pickOk, -List.all_eq_true, iR_ok, ok0, iR_eq_nil, deIs_nil, t0, t1, t2, t3, dcO, ps, qs, ips, ipt, pickOkN, tR_rw, tR_rv, i1, i2, w0, i3, pt, qt, i4, w5, w6, i5]
    refine finN [0, 1] [0, 1] (by simp [pickOkN]) (by simp [upd, tl_cons, tp]) ?_
    simp [rdX, dcO, one]
  have i5 : ¬ (e : Int) - b < (pad4 (shN s b) : Nat) := by omega
  have w8 : IntKind.i64.wrap ((b : Int) + 2) = (b : Int) + 2 := w64 (by omega) (by omega)
  have pt2 : M34.pre [.optr 0 0 0 0, I ((b : Int) + 2)] (dcO 0 s m fk fa) := ⟨b + 2, s, m, fk, fa, by rw [show ((b + 2 : Nat) : Int) = (b : Int) + 2 by omega], rfl, hs, by omega⟩
  have qt2 := dshort_res (b + 2) s m fk fa
  rw [show ((b + 2 : Nat) : Int) = (b : Int) + 2 by omega] at qt2
  simp only [dcO] at pt2 qt2
  have hsh2 := shN_lt s (b + 2)
  have w9 : IntKind.i64.wrap ((shN s b : Int) - 4) = (shN s b : Int) - 4 := w64 (by omega) (by omega)
  by_cases c6 : shN s (b + 2) < 32768 ∧ 1004 < shN s b
  · have hf : headF s d b e m.length = some (5, b) := by unfold headF; rw [if_neg c1, if_neg (by omega), if_neg c3, if_neg c4, if_neg c5, if_pos c6]
    rw [rdW_bad hb hf] at hq
    have i6 : ¬ (32767 : Int) < (shN s (b + 2) : Nat) := by omega
    have i7 : (1000 : Int) < (shN s b : Int) - 4 := by omega
    subst hq
    refine Snd.cutN 13 rd_4 ?_
    generalize hT : (drC 13 (lpC (tlC (lpC (lpC (hdC (drC 1 (bodyOf Try.f19)))))))) = Tq
    simp -implicitDefEqProofs [opL, hdC, tlC, drC, lpC, tkC, Try.f19, List.lookup_cons, eS, rbR_iR, rbR_nil, rbOb_mk, iR_mf, pickOk, -List.all_eq_true, iR_ok, ok0, iR_eq_nil, deIs_nil, t0, t1, t2, t3, dcO, ps, qs, ips, ipt, pickOkN, tR_rw, tR_rv, i1, i2, w0, i3, pt, qt, i4, w5, w6, i5, w8, pt2, qt2, i6, w9, i7]
    refine finN [0, 1] [0, 1] (by simp [pickOkN]) (by simp [upd, tl_cons, tp]) ?_
    simp [rdX, dcO, one]
  by_cases hk : shN s (b + 2) < 32768
  · have i6 : ¬ (32767 : Int) < (shN s (b + 2) : Nat) := by omega
    have i7 : ¬ (1000 : Int) < (shN s b : Int) - 4 := by omega
    have i8 : shN s b ≤ 1004 := by omega
    have hat : atOf s d b = ⟨d, shN s (b + 2), false, s.extract (b + 4) (b + shN s b)⟩ := by unfold atOf; rw [if_pos hk]
    have wa : IntKind.i64.wrap ((shN s (b + 2) % 2 ^ IntKind.i64.bits &&& 32767 % 2 ^ IntKind.i64.bits : Nat) : Int) = ((shN s (b + 2) : Nat) : Int) := by rw [and_nf _ hsh2, Nat.mod_eq_of_lt hk]
    have w10 : IntKind.i64.wrap ((b : Int) + (shN s b : Nat)) = (b : Int) + (shN s b : Nat) := w64 (by omega) (by omega)
    have w11 : IntKind.i64.wrap ((b : Int) + (pad4 (shN s b) : Nat)) = ((b + pad4 (shN s b) : Nat) : Int) := by rw [w64 (by omega) (by omega)]; omega
    have w12 : IntKind.i64.wrap ((b : Int) + 4) = (b : Int) + 4 := w64 (by omega) (by omega)
    refine Snd.cutN 13 rd_4 ?_
    generalize hT : (drC 13 (lpC (tlC (lpC (lpC (hdC (drC 1 (bodyOf Try.f19)))))))) = Tq
    generalize hP : (blockP 1 (thenP (fun s' => ∃ j : Nat × List Att, (j.1 ≤ e ∧ j.2.length ≤ 400 ∧ q = rdW s d j.1 e j.2) ∧ e - j.1 < e - b ∧ Wk s' ⟨140, tl [(0, .optr 0 0 0 0), (1, I j.1), (2, I e), (3, I d), (1000, .pin 0 0 u0)], dcO 0 s j.2 fk fa⟩) (blockP 0 (thenP (fun s9 => Snd Try.prog (envN K [] [] [(33, M33), (34, M34), (19, MRd n)]) (tlC (drC 1 (bodyOf Try.f19))) (retN Try.prog Try.f19.results.toList [u0, u1] (rdX fk fa s q)) s9) (retN Try.prog Try.f19.results.toList [u0, u1] (rdX fk fa s q)))))) = Pq
    simp -implicitDefEqProofs [opL, hdC, tlC, drC, lpC, tkC, Try.f19, List.lookup_cons, eS, rbR_iR, rbR_nil, rbOb_mk, iR_mf, pickOk, -List.all_eq_true, iR_ok, ok0, iR_eq_nil, deIs_nil, t0, t1, t2, t3, dcO, ps, qs, ips, ipt, pickOkN, tR_rw, tR_rv, i1, i2, w0, i3, pt, qt, i4, w5, w6, i5, w8, pt2, qt2, i6, w9, i7, wa, w10]
    refine loopP_inv (fun k : Nat => ⟨140, tl [(0, .optr 0 0 0 0), (1, I b), (2, I e), (3, I d), (9, I (shN s b)), (10, I (pad4 (shN s b))), (12, .optr 2 0 0 0), (13, I k), (1000, .pin 0 0 u0)], [⟨45, 4, 0, [[.v (.string s), .osl 1 0, I fk, I fa]], true, true, none⟩, ⟨49, 4, 0, tR m, false, true, none⟩, ⟨49, 4, 0, [[I d, I (shN s (b + 2)), B false, .v (.string ⟨#[]⟩)]], true, true, none⟩]⟩) (fun k => b + shN s b ≤ k ∧ k ≤ b + pad4 (shN s b) ∧ badAt s (b + shN s b) (b + pad4 (shN s b) - (b + shN s b)) = badAt s k (b + pad4 (shN s b) - k)) (fun k => b + pad4 (shN s b) - k) (b + shN s b) ⟨Nat.le_refl _, by omega, rfl⟩ (Wk.tl (by simp [hold, upd, tl_cons, t0, t1, t2, t3, tp])) ?_
    rintro k ⟨j1, j2, j3⟩
    by_cases hkl : k < b + pad4 (shN s b)
    · have hki : (k : Int) < ((b + pad4 (shN s b) : Nat) : Int) := by omega
      have hkj : (k : Int) < (b : Int) + (pad4 (shN s b) : Nat) := by omega
      have hks : k < s.size := by omega
      have hby := byt_N hks
      have hw := w64n (show k < 4611686018427387904 by omega)
      rw [badAt_at hkl] at j3
      by_cases hz : byN s k = 0
      · rw [if_neg (by omega)] at j3
        simp -implicitDefEqProofs [List.lookup_cons, eS, rbR_iR, rbR_nil, rbOb_mk, iR_mf, pickOk, -List.all_eq_true, iR_ok, ok0, iR_eq_nil, deIs_nil, w11, hkl, hki, hkj, ei_str, hks, hby, hz]
        refine ⟨k + 1, by omega, by omega, j3, by omega, ?_⟩
        exact Wk.tl (by simp [hold, upd, tl_cons, hw])
      · rw [if_pos hz] at j3
        have hf : headF s d b e m.length = some (1, k) := by unfold headF; rw [if_neg c1, if_neg (by omega), if_neg c3, if_neg c4, if_neg c5, if_neg c6, j3]; rfl
        rw [rdW_bad hb hf] at hq
        have hzi : ¬ ((byN s k : Nat) : Int) = 0 := by omega
        subst hq
        simp -implicitDefEqProofs [List.lookup_cons, eS, rbR_iR, rbR_nil, rbOb_mk, iR_mf, pickOk, -List.all_eq_true, iR_ok, ok0, iR_eq_nil, deIs_nil, w11, hkl, hki, hkj, ei_str, hks, hby, hz, hzi, ps, qs, ips, pickOkN, tR_rw, tR_rv]
        rw [← hP]
        simp -implicitDefEqProofs [List.lookup_cons, eS, rbR_iR, rbR_nil, rbOb_mk, iR_mf, pickOk, -List.all_eq_true, iR_ok, ok0, iR_eq_nil, deIs_nil, Try.f19]
        refine finN [0, 1] [0, 1] (by simp [pickOkN]) (by simp [upd, tl_cons]) ?_
        simp [rdX, dcO, one]
    · have hki : ¬ (k : Int) < ((b + pad4 (shN s b) : Nat) : Int) := by omega
      have hkj : ¬ (k : Int) < (b : Int) + (pad4 (shN s b) : Nat) := by omega
      rw [badAt_end hkl] at j3
      have hf : headF s d b e m.length = none := by unfold headF; rw [if_neg c1, if_neg (by omega), if_neg c3, if_neg c4, if_neg c5, if_neg c6, j3]; rfl
      have hap : tR m ++ [[I d, I (shN s (b + 2)), B false, .v (.string (s.extract (b + 4) (b + shN s b)))]] = tR (m ++ [atOf s d b]) := by rw [hat]; exact tR_append m [(⟨d, shN s (b + 2), false, s.extract (b + 4) (b + shN s b)⟩ : Att)]
      have hn1 : ((b : Int) + 4).toNat = b + 4 := by omega
      have hn2 : ((b : Int) + (shN s b : Nat)).toNat = b + shN s b := by omega
      simp -implicitDefEqProofs [List.lookup_cons, eS, rbR_iR, rbR_nil, rbOb_mk, iR_mf, pickOk, -List.all_eq_true, iR_ok, ok0, iR_eq_nil, deIs_nil, w11, hkl, hki, hkj, w12, w10, eSlice, bnd, hn1, hn2]
      refine ⟨by omega, by omega, by omega, ?_⟩
      refine drawP_x _ [(5, 0), (6, 0), (1, 0), (2, 0), (3, 0), (4, 0), (7, 1), (0, 0), (8, 2), (9, 2), (10, 2)] [6, 7, 10] (by decide) ?_
      simp -implicitDefEqProofs [List.lookup_cons, eS, rbR_iR, rbR_nil, rbOb_mk, iR_mf, pickOk, -List.all_eq_true, iR_ok, ok0, iR_eq_nil, deIs_nil, OpOk, eBuildSlice, eAppend, srcRows, srcOk, chunk, hap]
      refine ⟨by omega, by omega, ?_⟩
      rw [← hT, ← hP]
      refine Snd.wk (s' := ⟨140, tl [(0, .optr 0 0 0 0), (1, I b), (2, I e), (3, I d), (9, I (shN s b)), (10, I (pad4 (shN s b))), (12, .optr 2 0 0 0), (1000, .pin 0 0 u0)], [⟨45, 4, 0, [[.v (.string s), .osl 1 0, I fk, I fa]], true, true, none⟩, ⟨49, 4, 0, tR (m ++ [(atOf s d b)]), false, true, none⟩, ⟨49, 4, 0, [[I (atOf s d b).dep, I (atOf s d b).typ, B (atOf s d b).nest, .v (.string (atOf s d b).dat)]], true, true, none⟩]⟩) (Wk.tlPN [0, 1, 2] (by simp [pickOkN]) (by simp [hat]) (by simp [hold, upd, tl_cons])) ?_
      exact rd_tail n s fk fa b e d m (atOf s d b) q u0 u1 hs he hb hd1 (by omega) hnd (by simp; omega) (by omega) (by omega) (by rw [hat]; simp [hk]) (by rw [← hq]; rw [if_pos hk, rdW_leaf hb hf hk]) _ (by simp [tl_cons]) (by simp [tl_cons]) (by simp [tl_cons]) (by simp [tl_cons]) (by simp [tl_cons]) (by simp [tl_cons]) (by simp [tl_cons]) (by simp [tl_cons])
  · have i6 : (32767 : Int) < (shN s (b + 2) : Nat) := by omega
    have i7 : (0 : Int) = 0 := rfl
    have hat : atOf s d b = ⟨d, (shN s (b + 2) : Int) - 32768, true, ⟨#[]⟩⟩ := by unfold atOf; rw [if_neg hk]
    have wa : IntKind.i64.wrap ((shN s (b + 2) % 2 ^ IntKind.i64.bits &&& 32767 % 2 ^ IntKind.i64.bits : Nat) : Int) = (shN s (b + 2) : Int) - 32768 := by rw [and_nf _ hsh2]; omega
    have w10 : IntKind.i64.wrap ((b : Int) + (shN s b : Nat)) = (b : Int) + (shN s b : Nat) := w64 (by omega) (by omega)
    have w11 : IntKind.i64.wrap ((b : Int) + (pad4 (shN s b) : Nat)) = ((b + pad4 (shN s b) : Nat) : Int) := by rw [w64 (by omega) (by omega)]; omega
    have w12 : IntKind.i64.wrap ((b : Int) + 4) = (b : Int) + 4 := w64 (by omega) (by omega)
    refine Snd.cutN 13 rd_4 ?_
    generalize hT : (drC 13 (lpC (tlC (lpC (lpC (hdC (drC 1 (bodyOf Try.f19)))))))) = Tq
    generalize hP : (blockP 1 (thenP (fun s' => ∃ j : Nat × List Att, (j.1 ≤ e ∧ j.2.length ≤ 400 ∧ q = rdW s d j.1 e j.2) ∧ e - j.1 < e - b ∧ Wk s' ⟨140, tl [(0, .optr 0 0 0 0), (1, I j.1), (2, I e), (3, I d), (1000, .pin 0 0 u0)], dcO 0 s j.2 fk fa⟩) (blockP 0 (thenP (fun s9 => Snd Try.prog (envN K [] [] [(33, M33), (34, M34), (19, MRd n)]) (tlC (drC 1 (bodyOf Try.f19))) (retN Try.prog Try.f19.results.toList [u0, u1] (rdX fk fa s q)) s9) (retN Try.prog Try.f19.results.toList [u0, u1] (rdX fk fa s q)))))) = Pq
    simp -implicitDefEqProofs [opL, hdC, tlC, drC, lpC, tkC, Try.f19, List.lookup_cons, eS, rbR_iR, rbR_nil, rbOb_mk, iR_mf, pickOk, -List.all_eq_true, iR_ok, ok0, iR_eq_nil, deIs_nil, t0, t1, t2, t3, dcO, ps, qs, ips, ipt, pickOkN, tR_rw, tR_rv, i1, i2, w0, i3, pt, qt, i4, w5, w6, i5, w8, pt2, qt2, i6, w9, i7, wa, w10]
    refine loopP_inv (fun k : Nat => ⟨140, tl [(0, .optr 0 0 0 0), (1, I b), (2, I e), (3, I d), (9, I (shN s b)), (10, I (pad4 (shN s b))), (12, .optr 2 0 0 0), (13, I k), (1000, .pin 0 0 u0)], [⟨45, 4, 0, [[.v (.string s), .osl 1 0, I fk, I fa]], true, true, none⟩, ⟨49, 4, 0, tR m, false, true, none⟩, ⟨49, 4, 0, [[I d, I ((shN s (b + 2) : Int) - 32768), B true, .v (.string ⟨#[]⟩)]], true, true, none⟩]⟩) (fun k => b + shN s b ≤ k ∧ k ≤ b + pad4 (shN s b) ∧ badAt s (b + shN s b) (b + pad4 (shN s b) - (b + shN s b)) = badAt s k (b + pad4 (shN s b) - k)) (fun k => b + pad4 (shN s b) - k) (b + shN s b) ⟨Nat.le_refl _, by omega, rfl⟩ (Wk.tl (by simp [hold, upd, tl_cons, t0, t1, t2, t3, tp])) ?_
    rintro k ⟨j1, j2, j3⟩
    by_cases hkl : k < b + pad4 (shN s b)
    · have hki : (k : Int) < ((b + pad4 (shN s b) : Nat) : Int) := by omega
      have hkj : (k : Int) < (b : Int) + (pad4 (shN s b) : Nat) := by omega
      have hks : k < s.size := by omega
      have hby := byt_N hks
      have hw := w64n (show k < 4611686018427387904 by omega)
      rw [badAt_at hkl] at j3
      by_cases hz : byN s k = 0
      · rw [if_neg (by omega)] at j3
        simp -implicitDefEqProofs [List.lookup_cons, eS, rbR_iR, rbR_nil, rbOb_mk, iR_mf, pickOk, -List.all_eq_true, iR_ok, ok0, iR_eq_nil, deIs_nil, w11, hkl, hki, hkj, ei_str, hks, hby, hz]
        refine ⟨k + 1, by omega, by omega, j3, by omega, ?_⟩
        exact Wk.tl (by simp [hold, upd, tl_cons, hw])
      · rw [if_pos hz] at j3
        have hf : headF s d b e m.length = some (1, k) := by unfold headF; rw [if_neg c1, if_neg (by omega), if_neg c3, if_neg c4, if_neg c5, if_neg c6, j3]; rfl
        rw [rdW_bad hb hf] at hq
        have hzi : ¬ ((byN s k : Nat) : Int) = 0 := by omega
        subst hq
        simp -implicitDefEqProofs [List.lookup_cons, eS, rbR_iR, rbR_nil, rbOb_mk, iR_mf, pickOk, -List.all_eq_true, iR_ok, ok0, iR_eq_nil, deIs_nil, w11, hkl, hki, hkj, ei_str, hks, hby, hz, hzi, ps, qs, ips, pickOkN, tR_rw, tR_rv]
        rw [← hP]
        simp -implicitDefEqProofs [List.lookup_cons, eS, rbR_iR, rbR_nil, rbOb_mk, iR_mf, pickOk, -List.all_eq_true, iR_ok, ok0, iR_eq_nil, deIs_nil, Try.f19]
        refine finN [0, 1] [0, 1] (by simp [pickOkN]) (by simp [upd, tl_cons]) ?_
        simp [rdX, dcO, one]
    · have hki : ¬ (k : Int) < ((b + pad4 (shN s b) : Nat) : Int) := by omega
      have hkj : ¬ (k : Int) < (b : Int) + (pad4 (shN s b) : Nat) := by omega
      rw [badAt_end hkl] at j3
      have hf : headF s d b e m.length = none := by unfold headF; rw [if_neg c1, if_neg (by omega), if_neg c3, if_neg c4, if_neg c5, if_neg c6, j3]; rfl
      have hap : tR m ++ [[I d, I ((shN s (b + 2) : Int) - 32768), B true, .v (.string ⟨#[]⟩)]] = tR (m ++ [atOf s d b]) := by rw [hat]; exact tR_append m [(⟨d, (shN s (b + 2) : Int) - 32768, true, ⟨#[]⟩⟩ : Att)]
      have hn1 : ((b : Int) + 4).toNat = b + 4 := by omega
      have hn2 : ((b : Int) + (shN s b : Nat)).toNat = b + shN s b := by omega
      simp -implicitDefEqProofs [List.lookup_cons, eS, rbR_iR, rbR_nil, rbOb_mk, iR_mf, pickOk, -List.all_eq_true, iR_ok, ok0, iR_eq_nil, deIs_nil, w11, hkl, hki, hkj, w12, w10, eSlice, bnd, hn1, hn2]
      refine drawP_x _ [(5, 0), (6, 0), (1, 0), (2, 0), (3, 0), (4, 0), (7, 1), (0, 0), (8, 2), (9, 2), (10, 2)] [6, 7, 10] (by decide) ?_
      simp -implicitDefEqProofs [List.lookup_cons, eS, rbR_iR, rbR_nil, rbOb_mk, iR_mf, pickOk, -List.all_eq_true, iR_ok, ok0, iR_eq_nil, deIs_nil, OpOk, eBuildSlice, eAppend, srcRows, srcOk, chunk, hap]
      refine ⟨by omega, by omega, ?_⟩
      rw [← hT, ← hP]
      refine Snd.wk (s' := ⟨140, tl [(0, .optr 0 0 0 0), (1, I b), (2, I e), (3, I d), (9, I (shN s b)), (10, I (pad4 (shN s b))), (12, .optr 2 0 0 0), (1000, .pin 0 0 u0)], [⟨45, 4, 0, [[.v (.string s), .osl 1 0, I fk, I fa]], true, true, none⟩, ⟨49, 4, 0, tR (m ++ [(atOf s d b)]), false, true, none⟩, ⟨49, 4, 0, [[I (atOf s d b).dep, I (atOf s d b).typ, B (atOf s d b).nest, .v (.string (atOf s d b).dat)]], true, true, none⟩]⟩) (Wk.tlPN [0, 1, 2] (by simp [pickOkN]) (by simp [hat]) (by simp [hold, upd, tl_cons])) ?_
      exact rd_tail n s fk fa b e d m (atOf s d b) q u0 u1 hs he hb hd1 (by omega) hnd (by simp; omega) (by omega) (by omega) (by rw [hat]; simp [hk]) (by rw [← hq]; rw [if_neg hk, rdW_nest hb hf hk]; rfl) _ (by simp [tl_cons]) (by simp [tl_cons]) (by simp [tl_cons]) (by simp [tl_cons]) (by simp [tl_cons]) (by simp [tl_cons]) (by simp [tl_cons]) (by simp [tl_cons])
theorem rd_step (n : Nat) (s : ByteArray) (fk fa : Int) (b e d : Nat) (m : List Att) (q : List Att × Option (Int × Nat)) (u0 u1 : Value) (hs : s.size ≤ 6000) (he : e ≤ s.size) (hbe : b ≤ e) (hd1 : 1 ≤ d) (hd9 : d ≤ 9) (hnd : 10 ≤ n + 1 + d) (hm : m.length ≤ 400)
    (hq : rdW s d b e m = q) : Snd Try.prog (envN K [] [] [(33, M33), (34, M34), (19, MRd n)]) (.seq (hdC (lpC (lpC (hdC (drC 1 (bodyOf Try.f19)))))) (.block 1 (lpC (tlC (lpC (lpC (hdC (drC 1 (bodyOf Try.f19))))))))) (thenP (fun s' => ∃ j : Nat × List Att, (j.1 ≤ e ∧ j.2.length ≤ 400 ∧ q = rdW s d j.1 e j.2) ∧ e - j.1 < e - b ∧ Wk s' ⟨140, tl [(0, .optr 0 0 0 0), (1, I j.1), (2, I e), (3, I d), (1000, .pin 0 0 u0)], dcO 0 s j.2 fk fa⟩) (blockP 0 (thenP (fun s9 => Snd Try.prog (envN K [] [] [(33, M33), (34, M34), (19, MRd n)]) (tlC (drC 1 (bodyOf Try.f19))) (retN Try.prog Try.f19.results.toList [u0, u1] (rdX fk fa s q)) s9) (retN Try.prog Try.f19.results.toList [u0, u1] (rdX fk fa s q))))) ⟨140, tl [(0, .optr 0 0 0 0), (1, I (b, m).1), (2, I e), (3, I d), (1000, .pin 0 0 u0)], dcO 0 s (b, m).2 fk fa⟩ := by
  refine Snd.seq (Snd.of ?_)
  have body : ∀ t : Nat → X, t 0 = .optr 0 0 0 0 → t 1 = I b → t 2 = I e → t 3 = I d → t 1000 = .pin 0 0 u0 → b < e → Snd Try.prog (envN K [] [] [(33, M33), (34, M34), (19, MRd n)]) (.block 1 (lpC (tlC (lpC (lpC (hdC (drC 1 (bodyOf Try.f19)))))))) (thenP (fun s' => ∃ j : Nat × List Att, (j.1 ≤ e ∧ j.2.length ≤ 400 ∧ q = rdW s d j.1 e j.2) ∧ e - j.1 < e - b ∧ Wk s' ⟨140, tl [(0, .optr 0 0 0 0), (1, I j.1), (2, I e), (3, I d), (1000, .pin 0 0 u0)], dcO 0 s j.2 fk fa⟩) (blockP 0 (thenP (fun s9 => Snd Try.prog (envN K [] [] [(33, M33), (34, M34), (19, MRd n)]) (tlC (drC 1 (bodyOf Try.f19))) (retN Try.prog Try.f19.results.toList [u0, u1] (rdX fk fa s q)) s9) (retN Try.prog Try.f19.results.toList [u0, u1] (rdX fk fa s q))))) ⟨140, t, dcO 0 s m fk fa⟩ := fun t t0 t1 t2 t3 tp hb =>
    Snd.block (rd_body n s fk fa b e d m q u0 u1 hs he hb hd1 hd9 hnd hm hq t t0 t1 t2 t3 tp)
  generalize hY : (Code.block 1 (lpC (tlC (lpC (lpC (hdC (drC 1 (bodyOf Try.f19)))))))) = Yq at body ⊢
  generalize hP : (thenP (fun s' => ∃ j : Nat × List Att, (j.1 ≤ e ∧ j.2.length ≤ 400 ∧ q = rdW s d j.1 e j.2) ∧ e - j.1 < e - b ∧ Wk s' ⟨140, tl [(0, .optr 0 0 0 0), (1, I j.1), (2, I e), (3, I d), (1000, .pin 0 0 u0)], dcO 0 s j.2 fk fa⟩) (blockP 0 (thenP (fun s9 => Snd Try.prog (envN K [] [] [(33, M33), (34, M34), (19, MRd n)]) (tlC (drC 1 (bodyOf Try.f19))) (retN Try.prog Try.f19.results.toList [u0, u1] (rdX fk fa s q)) s9) (retN Try.prog Try.f19.results.toList [u0, u1] (rdX fk fa s q))))) = Pq at body ⊢
  by_cases hb : b < e
  · have hbi : (b : Int) < e := by omega
    simp -implicitDefEqProofs [opL, hdC, tlC, drC, lpC, tkC, Try.f19, List.lookup_cons, eS, rbR_iR, rbR_nil, rbOb_mk, iR_mf, pickOk, -List.all_eq_true, iR_ok, ok0, iR_eq_nil, deIs_nil, hb, hbi]
    refine body _ ?_ ?_ ?_ ?_ ?_ hb
    all_goals simp [upd, tl_cons]
  · have hbi : ¬ (b : Int) < e := by omega
    rw [rdW_end hb] at hq
    rw [← hP]
    subst hq
    simp -implicitDefEqProofs [opL, hdC, tlC, drC, lpC, tkC, Try.f19, List.lookup_cons, eS, rbR_iR, rbR_nil, rbOb_mk, iR_mf, pickOk, -List.all_eq_true, iR_ok, ok0, iR_eq_nil, deIs_nil, hb, hbi]
    refine Snd.of ?_
    simp -implicitDefEqProofs [opL, hdC, tlC, drC, lpC, tkC, Try.f19, List.lookup_cons, eS, rbR_iR, rbR_nil, rbOb_mk, iR_mf, pickOk, -List.all_eq_true, iR_ok, ok0, iR_eq_nil, deIs_nil, dcO]
    refine finN [0, 1] [0, 1] (by simp [pickOkN]) (by simp [upd, tl_cons]) ?_
    simp [rdX, dcO, one]
theorem mRead : ∀ n, GenNA K Try.prog 19 (MRd n)
  | 0 => by
    refine contractNA Try.mix K [] [] [] (by simp) (by simp) (by simp) Try.func19 rfl (by decide) ?_
    rintro xs obs us ⟨s, l, fk, fa, a, e, d, rfl, rfl, ⟨hs, he, hae, hd1, hd9, hl⟩, hnd⟩ hu
    omega
  | n + 1 => by
    refine contractNS Try.mix K [] [] [(33, M33), (34, M34), (19, MRd n)] (by simp) (by simp) (by simp [n33, n34, mRead n]) Try.func19 rfl (by decide) ?_
    rintro xs obs us ⟨s, l, fk, fa, a, e, d, rfl, rfl, ⟨hs, he, hae, hd1, hd9, hl⟩, hnd⟩ hu
    obtain ⟨u0, u1, rfl⟩ : ∃ u0 u1, us = [u0, u1] := by
      match us, hu with
      | [a, b], _ => exact ⟨a, b, rfl⟩
    rw [mRd_res]
    refine ⟨⟨by rw [Try.ntmps19]; simp, by simp, fun k ob hob => ?_⟩, ?_⟩
    · obtain ⟨l', k', b', e⟩ := rdX_ob fk fa s (rdW s d a e l)
      rw [e]
      match k, hob with
      | 0, hob => simp [dcO] at hob; subst hob; exact ⟨_, rfl, rfl, rfl, rfl, rfl⟩
      | 1, hob => simp [dcO] at hob; subst hob; exact ⟨_, rfl, rfl, rfl, rfl, rfl⟩
      | k + 2, hob => simp [dcO] at hob
    refine Snd.cutN 1 rfl ?_
    generalize hq0 : rdW s d a e l = q
    have key : ∀ t : Nat → X, t 0 = .optr 0 0 0 0 → t 1 = I a → t 2 = I e → t 3 = I d → t 1000 = .pin 0 0 u0 → Snd Try.prog (envN K [] [] [(33, M33), (34, M34), (19, MRd n)]) (drC 1 (bodyOf Try.f19)) (retN Try.prog Try.f19.results.toList [u0, u1] (rdX fk fa s q)) ⟨140, t, dcO 0 s l fk fa⟩ := by
      intro t t0 t1 t2 t3 t4
      rw [rd_1]
      refine Snd.seq (Snd.block (Snd.loop (fun p : Nat × List Att => ⟨140, tl [(0, .optr 0 0 0 0), (1, I p.1), (2, I e), (3, I d), (1000, .pin 0 0 u0)], dcO 0 s p.2 fk fa⟩) (fun p => p.1 ≤ e ∧ p.2.length ≤ 400 ∧ q = rdW s d p.1 e p.2) (fun p => e - p.1) (a, l) ⟨hae, hl, hq0.symm⟩ (Wk.tl (by simp [hold, t0, t1, t2, t3, t4])) ?_))
      rintro ⟨b, m⟩ ⟨h1, h2, h3⟩
      rw [rd_2]
      exact rd_step n s fk fa b e d m q u0 u1 hs he h1 hd1 hd9 hnd h2 h3.symm
    generalize hB : (drC 1 (bodyOf Try.f19)) = Bq at key ⊢
    simp -implicitDefEqProofs [Try.f19, List.lookup_cons, eS, rbR_iR, rbR_nil, rbOb_mk, iR_mf, pickOk, -List.all_eq_true, iR_ok, ok0, iR_eq_nil, deIs_nil, tkC]
    refine key _ ?_ ?_ ?_ ?_ ?_
    all_goals simp [upd, tl_cons]
end Go.Proofs
