/-
  What is proved here: contracts of the decoder's stop and short. Condition: none.
-/
import Derived.Test.YtecpfgnkiifnpaaDA0k
import Derived.Test.YtecpfgnkiifnpaaFR0k
import Derived.Test.YtecpfgnkiifnpaaAbs31
namespace Go.Proofs
open Go.Abs Go.Flat
set_option linter.unusedSimpArgs false
set_option linter.unnecessarySimpa false
set_option linter.unusedVariables false
set_option maxHeartbeats 8000000
set_option maxRecDepth 20000
def dcO (v : Nat) (s : ByteArray) (l : List Att) (fk fa : Int) : List Ob := [⟨45, 4, 0, [[.v (.string s), .osl 1 v, I fk, I fa]], true, true, none⟩, ⟨49, 4, v, tR l, false, true, none⟩]
def dcS (obs : List Ob) : ByteArray := match obs with
  | [b, _] => (match b.rows with
    | [[s, _, _, _]] => deS s
    | _ => ⟨#[]⟩)
  | _ => ⟨#[]⟩
def dcL (obs : List Ob) : List Att := match obs with
  | [_, o] => deT (.sl o.rows)
  | _ => []
def dcF (obs : List Ob) : Int × Int := match obs with
  | [b, _] => (match b.rows with
    | [[_, _, k, a]] => (deI k, deI a)
    | _ => (0, 0))
  | _ => (0, 0)
theorem dcS_O (s : ByteArray) (l : List Att) (fk fa : Int) : dcS (dcO 0 s l fk fa) = s := rfl
theorem dcL_O (s : ByteArray) (l : List Att) (fk fa : Int) : dcL (dcO 0 s l fk fa) = l := by simp [dcL, dcO]
theorem dcF_O (s : ByteArray) (l : List Att) (fk fa : Int) : dcF (dcO 0 s l fk fa) = (fk, fa) := rfl
theorem byt_N {s : ByteArray} {k : Nat} (h : k < s.size) : byt s k = (byN s k : Int) := by
  have hl : k < (bL s).length := by rw [bL_len]; exact h
  rw [byt_at hl]
  unfold byN
  rw [List.getD_eq_getElem?_getD, List.getElem?_eq_getElem hl]
  rfl
def orI (k : IntKind) (a b : Int) : Int := k.wrap (BitVec.ofInt k.bits a ||| BitVec.ofInt k.bits b).toNat
theorem bin_or {P : Program} {s : St} {T : Nat} (k : IntKind) (a b : Int) : eBin P s .or T (.v (.int k a)) (.v (.int k b)) = ⟨True, .v (.int k (orI k a b)), s.h⟩ := by simp [eBin, binC, binV, orI]
theorem ofI_nat (n : Nat) (h : n < 18446744073709551616) : (BitVec.ofInt 64 (n : Int)).toNat = n := by
  rw [BitVec.toNat_ofInt]
  omega
theorem or_by (x y : Nat) (hx : x < 256) (hy : y < 256) : IntKind.i64.wrap ((BitVec.ofInt 64 (x : Int) ||| BitVec.ofInt 64 ((y : Int) * 256)).toNat : Int) = ((x + 256 * y : Nat) : Int) := by
  have e : (y : Int) * 256 = ((y * 256 : Nat) : Int) := by omega
  have e2 : x ||| y * 256 = x + 256 * y := by
    have h := Nat.shiftLeft_add_eq_or_of_lt (i := 8) (show x < 2 ^ 8 from hx) y
    rw [Nat.shiftLeft_eq] at h
    rw [Nat.or_comm, show (256 : Nat) = 2 ^ 8 from rfl, ← h]
    omega
  rw [BitVec.toNat_or, e, ofI_nat _ (by omega), ofI_nat _ (by omega), e2]
  exact w64 (by omega) (by omega)
theorem and_lo (x : Nat) (hx : x < 65536) : IntKind.i64.wrap ((BitVec.ofInt 64 (x : Int) &&& BitVec.ofInt 64 32767).toNat : Int) = ((x % 32768 : Nat) : Int) := by
  have e2 : x &&& 32767 = x % 32768 := Nat.and_two_pow_sub_one_eq_mod x 15
  rw [BitVec.toNat_and, ofI_nat _ (by omega), show (BitVec.ofInt 64 32767).toNat = 32767 from rfl, e2]
  exact w64 (by omega) (by omega)
def M33 : MFun := ⟨[true, false, false], fun xs obs => ∃ (k a : Int) (s : ByteArray) (l : List Att) (fk fa : Int), xs = [.optr 0 0 0 0, I k, I a] ∧ obs = dcO 0 s l fk fa,
  fun xs obs => (B false, dcO 0 (dcS obs) (dcL obs) (deI (xs.getD 1 .top)) (deI (xs.getD 2 .top)))⟩
theorem dstop_res (k a : Int) (s : ByteArray) (l : List Att) (fk fa : Int) : M33.res [.optr 0 0 0 0, I k, I a] (dcO 0 s l fk fa) = (B false, dcO 0 s l k a) := by
  simp only [M33, dcS_O, dcL_O]
  simp [deI]
theorem n33 : GenNA K Try.prog 33 M33 := by
  refine contractNA Try.mix K [] [] [] (by simp) (by simp) (by simp) Try.func33 rfl (by decide) ?_
  rintro xs obs us ⟨k, a, s, l, fk, fa, rfl, rfl⟩ hu
  obtain ⟨u0, u1, rfl⟩ : ∃ u0 u1, us = [u0, u1] := by
    match us, hu with
    | [a, b], _ => exact ⟨a, b, rfl⟩
  rw [dstop_res]
  refine ⟨⟨by rw [Try.ntmps33]; simp, by simp, fun k ob hob => ?_⟩, ?_⟩
  · match k, hob with
    | 0, hob => simp [dcO] at hob; subst hob; exact ⟨_, rfl, rfl, rfl, rfl, rfl⟩
    | 1, hob => simp [dcO] at hob; subst hob; exact ⟨_, rfl, rfl, rfl, rfl, rfl⟩
    | k + 2, hob => simp [dcO] at hob
  simp -implicitDefEqProofs [Try.f33, List.lookup_cons, eS, rbR_iR, rbR_nil, rbOb_mk, iR_mf, pickOk, -List.all_eq_true, iR_ok, ok0, iR_eq_nil, deIs_nil, dcO]
  refine finN [0, 1] [] (by simp [pickOkN]) (by simp [upd, tl_cons]) ?_
  simp [one, B]
def M34 : MFun := ⟨[true, false], fun xs obs => ∃ (a : Nat) (s : ByteArray) (l : List Att) (fk fa : Int), xs = [.optr 0 0 0 0, I a] ∧ obs = dcO 0 s l fk fa ∧ s.size ≤ 6000 ∧ a + 1 < s.size,
  fun xs obs => (I (shN (dcS obs) (deI (xs.getD 1 .top)).toNat), dcO 0 (dcS obs) (dcL obs) (dcF obs).1 (dcF obs).2)⟩
theorem dshort_res (a : Nat) (s : ByteArray) (l : List Att) (fk fa : Int) : M34.res [.optr 0 0 0 0, I a] (dcO 0 s l fk fa) = (I (shN s a), dcO 0 s l fk fa) := by
  simp only [M34, dcS_O, dcL_O, dcF_O]
  simp [deI]
theorem n34 : GenNA K Try.prog 34 M34 := by
  refine contractNA Try.mix K [] [] [] (by simp) (by simp) (by simp) Try.func34 rfl (by decide) ?_
  rintro xs obs us ⟨a, s, l, fk, fa, rfl, rfl, hs, ha⟩ hu
  obtain ⟨u0, u1, rfl⟩ : ∃ u0 u1, us = [u0, u1] := by
    match us, hu with
    | [a, b], _ => exact ⟨a, b, rfl⟩
  rw [dshort_res]
  refine ⟨⟨by rw [Try.ntmps34]; simp, by simp, fun k ob hob => ?_⟩, ?_⟩
  · match k, hob with
    | 0, hob => simp [dcO] at hob; subst hob; exact ⟨_, rfl, rfl, rfl, rfl, rfl⟩
    | 1, hob => simp [dcO] at hob; subst hob; exact ⟨_, rfl, rfl, rfl, rfl, rfl⟩
    | k + 2, hob => simp [dcO] at hob
  have hb0 := byt_N (s := s) (k := a) (by omega)
  have hb1 := byt_N (s := s) (k := a + 1) (by omega)
  have ha0 : a < s.size := by omega
  have g0 := byN_lt s a
  have g1 := byN_lt s (a + 1)
  have hv0 : IntKind.i64.wrap (byN s a : Int) = byN s a := w64 (by omega) (by omega)
  have hv1 : IntKind.i64.wrap (byN s (a + 1) : Int) = byN s (a + 1) := w64 (by omega) (by omega)
  have hv2 : IntKind.i64.wrap ((byN s (a + 1) : Int) * 256) = (byN s (a + 1) : Int) * 256 := w64 (by omega) (by omega)
  have hor : orI .i64 (byN s a : Int) ((byN s (a + 1) : Int) * 256) = ((shN s a : Nat) : Int) := or_by (byN s a) (byN s (a + 1)) g0 g1
  have hbits : IntKind.i64.bits = 64 := rfl
  have hw1 : IntKind.i64.wrap ((a : Int) + 1) = ((a + 1 : Nat) : Int) := by rw [w64 (by omega) (by omega)]; omega
  simp -implicitDefEqProofs [Try.f34, List.lookup_cons, eS, rbR_iR, rbR_nil, rbOb_mk, iR_mf, pickOk, -List.all_eq_true, iR_ok, ok0, iR_eq_nil, deIs_nil, dcO]
  refine drawP_all _ (by decide) ?_
  simp -implicitDefEqProofs [List.lookup_cons, eS, rbR_iR, rbR_nil, rbOb_mk, iR_mf, pickOk, -List.all_eq_true, iR_ok, ok0, iR_eq_nil, deIs_nil, eConv, ei_str, ha0, ha, hw1, hb0, hb1, hv0, hv1, hv2, bin_or, hbits, hor]
  refine ⟨by omega, finN [0, 1] [] (by simp [pickOkN]) (by simp [upd, tl_cons]) ?_⟩
  simp [one]
end Go.Proofs
