/-
  What is proved here: contracts of the readers of one digit, and of the search for a byte. Condition: none.
  What is proved here: contracts of the readers of a number. Condition: none.
-/
import Derived.Test.YtecpfgnkiifnpaaDoorKXYtecpfgnkiifnpaaDoorn
import Derived.Test.YtecpfgnkiifnpaaDoorAbsF
import Derived.Test.YtecpfgnkiifnpaaDoorLBN
import Derived.Test.YtecpfgnkiifnpaaDoorFPa
import Derived.Test.YtecpfgnkiifnpaaDoorAbsG
import Derived.Test.YtecpfgnkiifnpaaDoorSIYtecpfgnkiifnpaaDoor
set_option linter.unusedVariables false
set_option linter.unusedSimpArgs false
set_option linter.unnecessarySimpa false
set_option maxHeartbeats 8000000
set_option maxRecDepth 20000
namespace Go.Proofs
open Go.Abs Go.Flat
theorem toL (b : ByteArray) : b.toList = bL b := ByteArray.toList_eq b
theorem toL_inj {a b : ByteArray} : a.toList = b.toList ↔ a = b := ⟨fun h => bL_inj (by rw [← toL, ← toL, h]), fun h => by rw [h]⟩
theorem byt_at {b : ByteArray} {k : Nat} (h : k < (bL b).length) : byt b k = ((bL b)[k].toNat : Int) := by
  show (((bL b).getD k 0).toNat : Int) = _
  rw [List.getD_eq_getElem?_getD, List.getElem?_eq_getElem h, Option.getD_some]
theorem byt_rng (b : ByteArray) (k : Nat) : 0 ≤ byt b k ∧ byt b k ≤ 255 := by
  have := ((bL b).getD k 0).toNat_lt
  have e : byt b k = (((bL b).getD k 0).toNat : Int) := rfl
  rw [e]
  omega
def hexI (x : Int) : Int := if 48 ≤ x ∧ x ≤ 57 then x - 48 else if 97 ≤ x ∧ x ≤ 102 then x - 97 + 10 else -1
def decB2 (x : Int) : Bool := decide (48 ≤ x) && decide (x ≤ 57)
def F141 : Fun := ⟨fun xs => ∃ x, xs = [.v (.int .u8 x)], fun xs => (B (decB2 (deU (xs.getD 0 .top))), [])⟩
theorem c141 : GenCA K Tryd.prog 141 F141 := by
  refine contractA Tryd.mix K [] [] (by simp) (by simp) Tryd.func141 rfl (by decide) ?_
  rintro xs ⟨x, rfl⟩
  refine ⟨by rw [Tryd.ntmps141]; simp, ?_⟩
  simp -implicitDefEqProofs [Tryd.f141, List.lookup_cons, eS]
  refine fin_pure (by simp) ?_
  simp -implicitDefEqProofs [fS, rn0, pickObs, deI, F141, decB2, deU]
def F140 : Fun := ⟨fun xs => ∃ x, xs = [.v (.int .u8 x)] ∧ 0 ≤ x ∧ x ≤ 255, fun xs => (I (hexI (deU (xs.getD 0 .top))), [])⟩
theorem c140 : GenCA K Tryd.prog 140 F140 := by
  refine contractA Tryd.mix K [(141, F141)] [] (by simp [c141]) (by simp) Tryd.func140 rfl (by decide) ?_
  rintro xs ⟨x, rfl, h0, h1⟩
  have hr : F140.res [.v (.int .u8 x)] = (I (hexI x), []) := rfl
  rw [hr]
  refine ⟨by rw [Tryd.ntmps140]; simp, ?_⟩
  by_cases a : 48 ≤ x ∧ x ≤ 57
  · have e : hexI x = x - 48 := by unfold hexI; rw [if_pos a]
    have w1 : IntKind.u8.wrap (x - 48) = x - 48 := by rw [IntKind.wrap_u8]; omega
    have w2 : IntKind.i64.wrap (x - 48) = x - 48 := w64 (by omega) (by omega)
    rw [e]
    simp -implicitDefEqProofs [Tryd.f140, F141, List.lookup_cons, eS, eConv, deU, decB2, a.1, a.2, w1, w2]
    refine fin_pure (by simp) ?_
    simp -implicitDefEqProofs [fS, rn0, pickObs, deI]
  · have hd : decB2 x = false := by unfold decB2; rw [Bool.eq_false_iff]; simp; omega
    by_cases b : 97 ≤ x ∧ x ≤ 102
    · have e : hexI x = x - 97 + 10 := by unfold hexI; rw [if_neg a, if_pos b]
      have w1 : IntKind.u8.wrap (x - 97) = x - 97 := by rw [IntKind.wrap_u8]; omega
      have w2 : IntKind.i64.wrap (x - 97) = x - 97 := w64 (by omega) (by omega)
      have w3 : IntKind.i64.wrap (x - 97 + 10) = x - 97 + 10 := w64 (by omega) (by omega)
      rw [e]
      simp -implicitDefEqProofs [Tryd.f140, F141, List.lookup_cons, eS, eConv, deU, hd, b.1, b.2, w1, w2, w3]
      refine fin_pure (by simp) ?_
      simp -implicitDefEqProofs [fS, rn0, pickObs, deI]
    · have e : hexI x = -1 := by unfold hexI; rw [if_neg a, if_neg b]
      rw [e]
      by_cases c : 97 ≤ x
      · have c2 : ¬ x ≤ 102 := by omega
        have c3 : 102 < x := by omega
        simp -implicitDefEqProofs [Tryd.f140, F141, List.lookup_cons, eS, eConv, deU, hd, c, c2, c3]
        refine fin_pure (by simp) ?_
        simp -implicitDefEqProofs [fS, rn0, pickObs, deI]
      · have c3 : x < 97 := by omega
        simp -implicitDefEqProofs [Tryd.f140, F141, List.lookup_cons, eS, eConv, deU, hd, c, c3]
        refine fin_pure (by simp) ?_
        simp -implicitDefEqProofs [fS, rn0, pickObs, deI]
/-! ### the search for a byte -/
theorem genIx {A : List (Nat × List X)} {P : Program} {f : Nat} {F : Fun} (he : ∀ args w, (callFunc f args).run P w = .ok (.enter f args) w)
    (hc : ∀ (s : ByteArray) (c : Int) (w : World), Calls P f #[.string s, .int .u8 c] w fun e w' => e = .returned (.int .i64 (Lib.indexByte s.data.toList c.toNat.toUInt8)) ∧ w' = w)
    (hF : ∀ xs, F.pre xs → ∃ (s : ByteArray) (c : Int), xs = [.v (.string s), .v (.int .u8 c)] ∧ F.res xs = (I (Lib.indexByte (bL s) c.toNat.toUInt8), [])) : GenCA A P f F := by
  refine ⟨he, fun w S vs xs hpre hl hr hS hA => ?_⟩
  obtain ⟨s, c, rfl, hres⟩ := hF xs hpre
  obtain ⟨v, u, rfl⟩ : ∃ v u, vs = #[v, u] := by
    obtain ⟨l⟩ := vs
    match l, hl with
    | [v, u], _ => exact ⟨v, u, rfl⟩
  have hv := (hr 0 _ v rfl rfl).inv_v.1
  have hu := (hr 1 _ u rfl rfl).inv_v.1
  subst hv hu
  rw [hres]
  refine (hc s c w).mono ?_
  rintro e w' ⟨rfl, rfl⟩
  exact ⟨_, Pl.none, rfl, hrel_new hS hA (⟨rfl, rfl, rfl, Nat.le_refl _, fun _ _ => rfl⟩), by simp, .v _ rfl⟩
def FIx1 : Fun := ⟨fun xs => ∃ (s : ByteArray) (c : Int), xs = [.v (.string s), .v (.int .u8 c)], fun xs => (I (Lib.indexByte (bL (deS (xs.getD 0 .top))) (deU (xs.getD 1 .top)).toNat.toUInt8), [])⟩
theorem cIx0 : GenCA K Tryd.prog 45 FIx1 :=
  genIx (callFunc_enter Tryd.func45 rfl rfl) (fun s c w => Any.stringslite_IndexByte Tryd.laysIxb s c w) fun xs hxs => by
    obtain ⟨s, c, rfl⟩ := hxs
    exact ⟨s, c, rfl, rfl⟩
theorem cIx1 : GenCA K Tryd.prog 27 FIx1 := by
  refine contractA Tryd.mix K [(45, FIx1)] [] (by simp [cIx0]) (by simp) Tryd.func27 rfl (by decide) ?_
  rintro xs ⟨s, c, rfl⟩
  refine ⟨by rw [Tryd.ntmps27]; simp, ?_⟩
  simp -implicitDefEqProofs [Tryd.f27, FIx1, List.lookup_cons, eS, deU]
  refine fin_pure (by simp) ?_
  simp -implicitDefEqProofs [fS, rn0, pickObs, deI, deU]
end Go.Proofs
namespace Go.Proofs
open Go.Abs Go.Flat
theorem hex_dig {b : ByteArray} {k : Nat} (h : k < (bL b).length) : (16 ≤ digV (bL b)[k] ∧ hexI (byt b k) = -1) ∨ (digV (bL b)[k] < 16 ∧ hexI (byt b k) = (digV (bL b)[k] : Int)) := by
  rw [byt_at h]
  unfold hexI digV
  generalize (bL b)[k].toNat = n
  repeat' split
  all_goals omega
theorem dec_dig {b : ByteArray} {k : Nat} (h : k < (bL b).length) : (10 ≤ digV (bL b)[k] ∧ decB2 (byt b k) = false) ∨ (digV (bL b)[k] < 10 ∧ decB2 (byt b k) = true ∧ byt b k - 48 = (digV (bL b)[k] : Int)) := by
  rw [byt_at h]
  unfold decB2 digV
  generalize (bL b)[k].toNat = n
  by_cases h1 : 48 ≤ n ∧ n ≤ 57
  · rw [if_pos h1]
    right
    refine ⟨by omega, by simp; omega, by omega⟩
  · rw [if_neg h1]
    left
    refine ⟨by split <;> omega, ?_⟩
    rw [Bool.eq_false_iff]
    simp
    omega
theorem dgN_drop (base most : Nat) (l : List UInt8) (k n : Nat) (h : k < l.length) : dgN base most (l.drop k) n = if base ≤ digV l[k] then none else if most < n * base + digV l[k] then none else dgN base most (l.drop (k + 1)) (n * base + digV l[k]) := by
  rw [List.drop_eq_getElem_cons h, dgN]
theorem dgN_end (base most : Nat) (l : List UInt8) (n : Nat) : dgN base most (l.drop l.length) n = some n := by rw [List.drop_length]; rfl
theorem or16 (n d : Nat) (hn : n ≤ 65535) (hd : d < 16) : (BitVec.ofInt 64 ((n : Int) * 16) ||| BitVec.ofInt 64 (d : Int)).toNat = n * 16 + d := by
  have e : ((n : Int) * 16) = ((n * 16 : Nat) : Int) := by push_cast; rfl
  rw [e, BitVec.ofInt_natCast, BitVec.ofInt_natCast, BitVec.toNat_or, BitVec.toNat_ofNat, BitVec.toNat_ofNat, Nat.mod_eq_of_lt (by omega), Nat.mod_eq_of_lt (by omega)]
  have := Nat.shiftLeft_add_eq_or_of_lt (i := 4) (b := d) (by omega) n
  rw [Nat.shiftLeft_eq] at this
  exact this.symm
def hexT (b : ByteArray) : X := if rdHex (bL b) < 0 then .tup [I 0, B false] else .tup [I (rdHex (bL b)), B true]
theorem isHex_iff {b : ByteArray} : isHexL (bL b) = true ↔ 2 ≤ b.size ∧ byt b 0 = 48 ∧ byt b 1 = 120 := by
  rw [← bL_len]
  unfold isHexL byt
  show decide ((bL b).take 2 = [48, 120]) = true ↔ 2 ≤ (bL b).length ∧ (((bL b).getD 0 0).toNat : Int) = 48 ∧ (((bL b).getD 1 0).toNat : Int) = 120
  rw [decide_eq_true_eq]
  match bL b with
  | [] => simp
  | [a] => simp
  | a :: c :: l =>
    simp
    have ha : (a.toNat : Int) = 48 ↔ a = 48 := ⟨fun h => UInt8.toNat_inj.1 (by simpa using (Int.ofNat_inj.1 h : a.toNat = 48)), fun h => by rw [h]; rfl⟩
    have hc : (c.toNat : Int) = 120 ↔ c = 120 := ⟨fun h => UInt8.toNat_inj.1 (by simpa using (Int.ofNat_inj.1 h : c.toNat = 120)), fun h => by rw [h]; rfl⟩
    rw [ha, hc]
theorem bin_or2 {P : Program} {s : St} {T : Nat} {k : IntKind} {a b : Int} : eBin P s .or T (.v (.int k a)) (.v (.int k b)) = ⟨True, .v (.int k (k.wrap (BitVec.ofInt k.bits a ||| BitVec.ofInt k.bits b).toNat)), s.h⟩ := by simp [eBin, binC, binV]
def F128 : Fun := ⟨fun xs => ∃ b, xs = [Sx b] ∧ b.size ≤ 1048576, fun xs => (hexT (deS (xs.getD 0 .top)), [])⟩
theorem hexT_no {b : ByteArray} (h : rdHex (bL b) < 0) : hexT b = .tup [I 0, B false] := by unfold hexT; rw [if_pos h]
theorem hexT_yes {b : ByteArray} {n : Nat} (h : rdHex (bL b) = n) : hexT b = .tup [I n, B true] := by unfold hexT; rw [if_neg (by omega), h]
theorem rdHex_0 {b : ByteArray} (h : isHexL (bL b) = false) : rdHex (bL b) < 0 := by unfold rdHex; rw [if_neg (by simp [h])]; decide
theorem rdHex_1 {b : ByteArray} (h : isHexL (bL b) = true) : rdHex (bL b) = optI (numD 16 65535 ((bL b).drop 2)) := by unfold rdHex; rw [if_pos h]
theorem byt2 {b : ByteArray} {k : Nat} (h : k < b.size) : byt b k = 48 ↔ (bL b)[k]? = some 48 := by
  rw [← bL_len] at h
  rw [byt_at h, List.getElem?_eq_getElem h]
  constructor
  · intro e
    congr 1
    exact UInt8.toNat_inj.1 (by simpa using (Int.ofNat_inj.1 e : ((bL b)[k]).toNat = 48))
  · intro e
    injection e with e
    rw [e]
    rfl
theorem c128 : GenCA K Tryd.prog 128 F128 := by
  refine contractA Tryd.mix K [(140, F140)] [] (by simp [c140]) (by simp) Tryd.func128 rfl (by decide) ?_
  rintro xs ⟨b, rfl, hb⟩
  have hres : F128.res [Sx b] = (hexT b, []) := rfl
  rw [hres]
  refine ⟨by rw [Tryd.ntmps128]; simp, ?_⟩
  have b0 := byt_rng b 0
  have b1 := byt_rng b 1
  have b2 := byt_rng b 2
  by_cases hx : isHexL (bL b) = true
  · obtain ⟨x1, x2, x3⟩ := isHex_iff.1 hx
    have hr := rdHex_1 hx
    by_cases hs : b.size < 3
    · have hsi : (b.size : Int) < 3 := by omega
      rw [hexT_no (by rw [hr, show (bL b).drop 2 = [] by rw [List.drop_eq_nil_iff, bL_len]; omega]; decide)]
      simp -implicitDefEqProofs [Tryd.f128, List.lookup_cons, eS, Sx, hsi, hs, ei_str]
      refine fin_pure (by simp) ?_
      simp -implicitDefEqProofs [fS, rn0, pickObs, deI]
    have hsi : ¬ (b.size : Int) < 3 := by omega
    have hl0 : 0 < b.size := by omega
    have hl1 : 1 < b.size := by omega
    have hl2 : 2 < b.size := by omega
    have hhead : ((bL b).drop 2).head? = (bL b)[2]? := by rw [List.head?_drop]
    by_cases hz : byt b 2 = 48 ∧ 3 < b.size
    · have hsz : (3 : Int) < b.size := by omega
      rw [hexT_no (by rw [hr]; unfold numD; rw [if_pos (Or.inr ⟨by rw [hhead]; exact (byt2 hl2).1 hz.1, by rw [List.length_drop, bL_len]; omega⟩)]; decide)]
      simp -implicitDefEqProofs [Tryd.f128, List.lookup_cons, eS, Sx, hsi, hs, ei_str, hl0, hl1, hl2, x2, x3, hz.1, hz.2, hsz]
      refine fin_pure (by simp) ?_
      simp -implicitDefEqProofs [fS, rn0, pickObs, deI]
    have hn : numD 16 65535 ((bL b).drop 2) = dgN 16 65535 ((bL b).drop 2) 0 := by
      unfold numD
      rw [if_neg]
      rintro (h | ⟨h, h2⟩)
      · rw [List.drop_eq_nil_iff, bL_len] at h; omega
      · rw [hhead, ← byt2 hl2] at h
        rw [List.length_drop, bL_len] at h2
        exact hz ⟨h, by omega⟩
    have hz' : byt b 2 ≠ 48 ∨ (byt b 2 = 48 ∧ b.size = 3) := by
      by_cases h : byt b 2 = 48
      · exact Or.inr ⟨h, by have : ¬ 3 < b.size := fun h3 => hz ⟨h, h3⟩; omega⟩
      · exact Or.inl h
    rw [hn] at hr
    rcases hz' with g | ⟨g, g2⟩
    · simp -implicitDefEqProofs [Tryd.f128, List.lookup_cons, eS, Sx, hsi, hs, ei_str, hl0, hl1, hl2, x2, x3, g]
      refine loopP_inv (fun p : Nat × Nat => ⟨49, tl [(0, .v (.string b)), (4, I p.2), (5, I p.1)], []⟩) (fun p => 2 ≤ p.1 ∧ p.1 ≤ b.size ∧ p.2 ≤ 65535 ∧ dgN 16 65535 ((bL b).drop 2) 0 = dgN 16 65535 ((bL b).drop p.1) p.2) (fun p => b.size - p.1) (2, 0) ⟨Nat.le_refl _, by omega, by omega, rfl⟩ (Wk.tl (by simp [hold, upd, tl_cons])) ?_
      rintro ⟨k, n⟩ ⟨hk2, hk, hn6, hd⟩
      dsimp only at hk2 hk hn6 hd ⊢
      by_cases h : k < b.size
      · have hk' : k < (bL b).length := by rw [bL_len]; exact h
        rw [dgN_drop _ _ _ _ _ hk'] at hd
        obtain ⟨r0, r1⟩ := byt_rng b k
        rcases hex_dig hk' with ⟨q1, q2⟩ | ⟨q1, q2⟩
        · rw [if_pos q1] at hd
          rw [hexT_no (by rw [hr, hd]; decide)]
          simp -implicitDefEqProofs [List.lookup_cons, eS, h, ei_str, F140, deU, q2, r0, r1]
          refine fin_pure (by simp) ?_
          simp -implicitDefEqProofs [fS, rn0, pickObs, deI]
        · rw [if_neg (by omega)] at hd
          generalize hv : digV (bL b)[k] = v at hd q1 q2
          have hvn : ¬ (v : Int) < 0 := by omega
          have w1 : IntKind.i64.wrap ((n : Int) * 2 ^ min 4 IntKind.i64.bits) = (n : Int) * 16 := by rw [show min 4 IntKind.i64.bits = 4 from rfl]; exact w64 (by omega) (by omega)
          have w2 := or16 n v hn6 q1
          have w3 : IntKind.i64.wrap ((n * 16 + v : Nat) : Int) = (n : Int) * 16 + v := by rw [w64 (by omega) (by omega)]; push_cast; rfl
          have w4 : ∀ s : St, eBin Tryd.prog s .or 3 (.v (.int .i64 ((n : Int) * 16))) (.v (.int .i64 (v : Int))) = ⟨True, .v (.int .i64 ((n : Int) * 16 + v)), s.h⟩ := fun s => by rw [bin_or2, show IntKind.i64.bits = 64 from rfl, w2, w3]
          have w5 := w64n (show k < 4611686018427387904 by omega)
          by_cases hm : 65535 < n * 16 + v
          · rw [if_pos hm] at hd
            rw [hexT_no (by rw [hr, hd]; decide)]
            have hmi : 65535 < (n : Int) * 16 + v := by omega
            simp -implicitDefEqProofs [List.lookup_cons, eS, h, ei_str, F140, deU, q2, r0, r1, hvn, w1, w4, hmi]
            refine fin_pure (by simp) ?_
            simp -implicitDefEqProofs [fS, rn0, pickObs, deI]
          · rw [if_neg hm] at hd
            have hmi : ¬ 65535 < (n : Int) * 16 + v := by omega
            simp -implicitDefEqProofs [List.lookup_cons, eS, h, ei_str, F140, deU, q2, r0, r1, hvn, w1, w4, hmi]
            refine ⟨k + 1, by omega, by omega, n * 16 + v, by omega, hd, by omega, ?_⟩
            exact Wk.tl (by simp [hold, upd, tl_cons, w5])
      · have e : k = b.size := by omega
        subst e
        have e2 : (bL b).length = b.size := bL_len b
        rw [← e2, dgN_end] at hd
        rw [hexT_yes (n := n) (by rw [hr, hd]; rfl)]
        simp -implicitDefEqProofs [List.lookup_cons, eS]
        refine fin_pure (by simp) ?_
        simp -implicitDefEqProofs [fS, rn0, pickObs, deI]
    · simp -implicitDefEqProofs [Tryd.f128, List.lookup_cons, eS, Sx, hsi, hs, ei_str, hl0, hl1, hl2, x2, x3, g, g2]
      refine loopP_inv (fun p : Nat × Nat => ⟨49, tl [(0, .v (.string b)), (4, I p.2), (5, I p.1)], []⟩) (fun p => 2 ≤ p.1 ∧ p.1 ≤ b.size ∧ p.2 ≤ 65535 ∧ dgN 16 65535 ((bL b).drop 2) 0 = dgN 16 65535 ((bL b).drop p.1) p.2) (fun p => b.size - p.1) (2, 0) ⟨Nat.le_refl _, by omega, by omega, rfl⟩ (Wk.tl (by simp [hold, upd, tl_cons])) ?_
      rintro ⟨k, n⟩ ⟨hk2, hk, hn6, hd⟩
      dsimp only at hk2 hk hn6 hd ⊢
      by_cases h : k < b.size
      · have hk' : k < (bL b).length := by rw [bL_len]; exact h
        rw [dgN_drop _ _ _ _ _ hk'] at hd
        obtain ⟨r0, r1⟩ := byt_rng b k
        rcases hex_dig hk' with ⟨q1, q2⟩ | ⟨q1, q2⟩
        · rw [if_pos q1] at hd
          rw [hexT_no (by rw [hr, hd]; decide)]
          simp -implicitDefEqProofs [List.lookup_cons, eS, h, ei_str, F140, deU, q2, r0, r1]
          refine fin_pure (by simp) ?_
          simp -implicitDefEqProofs [fS, rn0, pickObs, deI]
        · rw [if_neg (by omega)] at hd
          generalize hv : digV (bL b)[k] = v at hd q1 q2
          have hvn : ¬ (v : Int) < 0 := by omega
          have w1 : IntKind.i64.wrap ((n : Int) * 2 ^ min 4 IntKind.i64.bits) = (n : Int) * 16 := by rw [show min 4 IntKind.i64.bits = 4 from rfl]; exact w64 (by omega) (by omega)
          have w2 := or16 n v hn6 q1
          have w3 : IntKind.i64.wrap ((n * 16 + v : Nat) : Int) = (n : Int) * 16 + v := by rw [w64 (by omega) (by omega)]; push_cast; rfl
          have w4 : ∀ s : St, eBin Tryd.prog s .or 3 (.v (.int .i64 ((n : Int) * 16))) (.v (.int .i64 (v : Int))) = ⟨True, .v (.int .i64 ((n : Int) * 16 + v)), s.h⟩ := fun s => by rw [bin_or2, show IntKind.i64.bits = 64 from rfl, w2, w3]
          have w5 := w64n (show k < 4611686018427387904 by omega)
          by_cases hm : 65535 < n * 16 + v
          · rw [if_pos hm] at hd
            rw [hexT_no (by rw [hr, hd]; decide)]
            have hmi : 65535 < (n : Int) * 16 + v := by omega
            simp -implicitDefEqProofs [List.lookup_cons, eS, h, ei_str, F140, deU, q2, r0, r1, hvn, w1, w4, hmi]
            refine fin_pure (by simp) ?_
            simp -implicitDefEqProofs [fS, rn0, pickObs, deI]
          · rw [if_neg hm] at hd
            have hmi : ¬ 65535 < (n : Int) * 16 + v := by omega
            simp -implicitDefEqProofs [List.lookup_cons, eS, h, ei_str, F140, deU, q2, r0, r1, hvn, w1, w4, hmi]
            refine ⟨k + 1, by omega, by omega, n * 16 + v, by omega, hd, by omega, ?_⟩
            exact Wk.tl (by simp [hold, upd, tl_cons, w5])
      · have e : k = b.size := by omega
        subst e
        have e2 : (bL b).length = b.size := bL_len b
        rw [← e2, dgN_end] at hd
        rw [hexT_yes (n := n) (by rw [hr, hd]; rfl)]
        simp -implicitDefEqProofs [List.lookup_cons, eS]
        refine fin_pure (by simp) ?_
        simp -implicitDefEqProofs [fS, rn0, pickObs, deI]
  · have hx' : isHexL (bL b) = false := by rw [Bool.eq_false_iff]; exact hx
    rw [hexT_no (rdHex_0 hx')]
    have hq := fun h1 h2 h3 => hx (isHex_iff.2 ⟨h1, h2, h3⟩)
    by_cases hs : b.size < 3
    · have hsi : (b.size : Int) < 3 := by omega
      simp -implicitDefEqProofs [Tryd.f128, List.lookup_cons, eS, Sx, hsi, hs, ei_str]
      refine fin_pure (by simp) ?_
      simp -implicitDefEqProofs [fS, rn0, pickObs, deI]
    have hsi : ¬ (b.size : Int) < 3 := by omega
    have hl0 : 0 < b.size := by omega
    have hl1 : 1 < b.size := by omega
    have hl2 : 2 < b.size := by omega
    by_cases x2 : byt b 0 = 48
    · have x3 : byt b 1 ≠ 120 := fun h => hq (by omega) x2 h
      simp -implicitDefEqProofs [Tryd.f128, List.lookup_cons, eS, Sx, hsi, hs, ei_str, hl0, hl1, hl2, x2, x3]
      refine fin_pure (by simp) ?_
      simp -implicitDefEqProofs [fS, rn0, pickObs, deI]
    · simp -implicitDefEqProofs [Tryd.f128, List.lookup_cons, eS, Sx, hsi, hs, ei_str, hl0, hl1, hl2, x2]
      refine fin_pure (by simp) ?_
      simp -implicitDefEqProofs [fS, rn0, pickObs, deI]
end Go.Proofs
