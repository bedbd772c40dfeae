/-
  What is proved here: the contract of the reader of a decimal number. Condition: none.
-/
import Derived.Test.YtecpfgnkiifnpaaDoorFRa
namespace Go.Proofs
open Go.Abs Go.Flat
set_option linter.unusedSimpArgs false
set_option linter.unnecessarySimpa false
set_option linter.unusedVariables false
set_option maxHeartbeats 8000000
set_option maxRecDepth 20000
theorem dgN_ge {base most : Nat} (hb : 1 ≤ base) : ∀ (l : List UInt8) (n m : Nat), dgN base most l n = some m → n ≤ m
  | [], n, m, h => by rw [dgN] at h; injection h with h; omega
  | c :: l, n, m, h => by
    rw [dgN] at h
    split at h
    · cases h
    · split at h
      · cases h
      · have := dgN_ge hb l _ _ h
        have h2 : n ≤ n * base := Nat.le_mul_of_pos_right n hb
        omega
def unD (l : List UInt8) : List UInt8 := if unitN l = 1 then l else l.dropLast
def goN (l : List UInt8) : Option Nat := if unD l = [] ∨ ((unD l).head? = some 48 ∧ l ≠ [48]) then none else dgN 10 (1000000000 / unitN l) (unD l) 0
def goV (l : List UInt8) : Int := match goN l with
  | some n => ((n * unitN l : Nat) : Int)
  | none => -1
theorem digV0 (c : UInt8) (h : digV c = 0) : c = 48 := by
  have e : c.toNat = 48 := by
    unfold digV at h
    split at h
    · omega
    · split at h <;> omega
  exact UInt8.toNat_inj.1 (by simpa using e)
theorem rdNum_go (l : List UInt8) : rdNum l = goV l := by
  unfold rdNum goV
  by_cases hU : unitN l = 1
  · rw [if_pos hU]
    have e : goN l = numD 10 1000000000 l := by
      unfold goN numD unD
      rw [if_pos hU, hU]
      congr 1
      match l with
      | [] => simp
      | [a] =>
        simp
      | a :: c :: m => simp
    rw [e, hU]
    cases numD 10 1000000000 l with
    | none => rfl
    | some n => simp [optI]
  · rw [if_neg hU]
    have hne : l ≠ [48] := fun e => hU (by rw [e]; rfl)
    have hD : unD l = l.dropLast := by unfold unD; rw [if_neg hU]
    unfold goN numD
    rw [hD]
    generalize l.dropLast = D
    match D with
    | [] => simp
    | a :: m =>
      by_cases ha : a = 48
      · subst ha
        cases m with
        | nil => simp [hne, dgN, digV]
        | cons c m => simp [hne]
      · have h0 : 1 ≤ digV a := by
          have : digV a ≠ 0 := fun h => ha (digV0 a h)
          omega
        simp only [List.head?_cons, Option.some.injEq, ha, false_and, or_false, reduceCtorEq, if_false]
        cases hn : dgN 10 (1000000000 / unitN l) (a :: m) 0 with
        | none => rfl
        | some n =>
          have hp : n ≠ 0 := by
            rw [dgN] at hn
            split at hn
            · cases hn
            · split at hn
              · cases hn
              · have := dgN_ge (by decide) _ _ _ hn
                omega
          simp only [hp, if_false]
def numT (b : ByteArray) : X := if rdNum (bL b) < 0 then .tup [I 0, B false] else .tup [I (rdNum (bL b)), B true]
def F129 : Fun := ⟨fun xs => ∃ b, xs = [Sx b] ∧ b.size ≤ 1048576, fun xs => (numT (deS (xs.getD 0 .top)), [])⟩
theorem numT_no {b : ByteArray} (h : goN (bL b) = none) : numT b = .tup [I 0, B false] := by
  unfold numT
  rw [rdNum_go]
  unfold goV
  rw [h]
  rfl
theorem numT_yes {b : ByteArray} {n : Nat} (h : goN (bL b) = some n) : numT b = .tup [I ((n : Int) * unitN (bL b)), B true] := by
  unfold numT
  rw [rdNum_go]
  unfold goV
  rw [h]
  simp only [Int.natCast_mul]
  rw [if_neg]
  have : (0 : Int) ≤ (n : Int) * (unitN (bL b) : Int) := by rw [← Int.natCast_mul]; omega
  omega
theorem last_byt {b : ByteArray} (h : 0 < b.size) : (bL b).getLast? = some ((bL b)[b.size - 1]'(by rw [bL_len]; omega)) := by
  rw [List.getLast?_eq_getElem?]
  simp only [bL_len]
  exact List.getElem?_eq_getElem _
theorem drop_last (b : ByteArray) : (bL b).dropLast = bL (b.extract 0 (b.size - 1)) := by
  rw [bL_ext, List.drop_zero, Nat.sub_zero, List.dropLast_eq_take, bL_len]
theorem head48 {d : ByteArray} (h : bL d ≠ []) : (bL d).head? = some 48 ↔ byt d 0 = 48 := by
  have h0 : 0 < d.size := by rw [← bL_len]; exact List.length_pos_iff.2 h
  rw [byt2 h0, List.head?_eq_getElem?]
theorem goN_none {b d : ByteArray} (hD : unD (bL b) = bL d) (h : d.toList = [] ∨ byt d 0 = 48 ∧ ¬ b.toList = [48]) : goN (bL b) = none := by
  rw [toL, toL] at h
  unfold goN
  rw [hD, if_pos]
  by_cases h0 : bL d = []
  · exact Or.inl h0
  · rcases h with h | ⟨h1, h2⟩
    · exact Or.inl h
    · exact Or.inr ⟨(head48 h0).2 h1, h2⟩
theorem goN_some {b d : ByteArray} (hD : unD (bL b) = bL d) (h0 : ¬ d.toList = []) (h : byt d 0 = 48 → b.toList = [48]) : goN (bL b) = dgN 10 (1000000000 / unitN (bL b)) ((bL d).drop 0) 0 := by
  rw [toL] at h0 h
  unfold goN
  rw [hD, if_neg, List.drop_zero]
  rintro (h1 | ⟨h1, h2⟩)
  · exact h0 h1
  · exact h2 (h ((head48 h0).1 h1))
theorem unit_k {b : ByteArray} (h : 0 < b.size) : (unitN (bL b) = if byt b (b.size - 1) = 109 then 1000000 else if byt b (b.size - 1) = 107 then 1000 else 1) := by
  have hl : b.size - 1 < (bL b).length := by rw [bL_len]; omega
  unfold unitN
  dsimp only
  rw [last_byt h, byt_at hl]
  generalize (bL b)[b.size - 1] = c
  have e1 : (some c = some (109 : UInt8)) ↔ ((c.toNat : Int) = 109) := ⟨fun e => by injection e with e; rw [e]; rfl, fun e => by congr 1; exact UInt8.toNat_inj.1 (by simpa using (Int.ofNat_inj.1 e : c.toNat = 109))⟩
  have e2 : (some c = some (107 : UInt8)) ↔ ((c.toNat : Int) = 107) := ⟨fun e => by injection e with e; rw [e]; rfl, fun e => by congr 1; exact UInt8.toNat_inj.1 (by simpa using (Int.ofNat_inj.1 e : c.toNat = 107))⟩
  simp only [e1, e2]
theorem w64m (a : Int) (h0 : 0 ≤ a) (h1 : a ≤ 20000) : IntKind.i64.wrap (a * 1000000) = a * 1000000 := w64 (by omega) (by omega)
theorem gt6 (a : Int) : 1000000000 < a * 1000000 ↔ 1000 < a := by omega
theorem gt6n (a : Nat) : 1000000000 / 1000000 < a ↔ 1000 < a := by omega
theorem c129 : GenCA K Tryd.prog 129 F129 := by
  refine contractA Tryd.mix K [(141, F141)] [] (by simp [c141]) (by simp) Tryd.func129 rfl (by decide) ?_
  rintro xs ⟨b, rfl, hb⟩
  have hres : F129.res [Sx b] = (numT b, []) := rfl
  rw [hres]
  refine ⟨by rw [Tryd.ntmps129]; simp, ?_⟩
  by_cases h0 : b.size = 0
  · rw [numT_no (by unfold goN; rw [if_pos (Or.inl (by unfold unD; rw [show bL b = [] by rw [← List.length_eq_zero_iff, bL_len]; exact h0]; rfl))])]
    have hbt : b.toList = [] := by rw [toL, ← List.length_eq_zero_iff, bL_len]; exact h0
    have hi : ¬ 0 < (b.size : Int) := by omega
    simp -implicitDefEqProofs [Tryd.f129, List.lookup_cons, eS, Sx, h0, hi, hbt]
    refine fin_pure (by simp) ?_
    simp -implicitDefEqProofs [fS, rn0, pickObs, deI]
  have hp : 0 < b.size := by omega
  have hpi : 0 < (b.size : Int) := by omega
  have hw : IntKind.i64.wrap ((b.size : Int) - 1) = ((b.size - 1 : Nat) : Int) := by rw [w64 (by omega) (by omega)]; omega
  have hl : b.size - 1 < b.size := by omega
  have hun := unit_k hp
  by_cases hk : byt b (b.size - 1) = 107
  · have hU : Unit → unitN (bL b) = 1000 := fun _ => by rw [hun, if_neg (by omega), if_pos hk]
    have hD : unD (bL b) = bL (b.extract 0 (b.size - 1)) := by unfold unD; rw [if_neg (by rw [hU ()]; decide), drop_last]
    have hsz : (b.extract 0 (b.size - 1)).size = b.size - 1 := ext_size _ _ _ (by omega)
    clear hun
    simp -implicitDefEqProofs [Tryd.f129, List.lookup_cons, eS, Sx, hp, hpi, hw, hl, ei_str, eSlice, bnd, hk]
    generalize hd : b.extract 0 (b.size - 1) = d at hD hsz ⊢
    have hds : Unit → d.size < 4611686018427387904 := fun _ => by omega
    clear hb
    have hA : ¬ d.toList = [] → 0 < d.size := fun h => by rw [toL] at h; rw [← bL_len]; exact List.length_pos_iff.2 h
    refine ⟨fun h => by have := hA h; omega, fun h => ?_, fun h1 h2 => ?_⟩
    · rw [numT_no (goN_none hD h)]
      refine fin_pure (by simp) ?_
      simp -implicitDefEqProofs [fS, rn0, pickObs, deI]
    have hgo := goN_some hD h1 h2
    rw [hU ()] at hgo
    have hz9 : 0 * 1000 ≤ 1000000000 := by omega
    refine loopP_inv (fun p : Nat × Nat => ⟨68, tl [(4, .v (.int .i64 1000)), (5, .v (.string d)), (6, I p.2), (7, I p.1)], []⟩) (fun p => p.1 ≤ d.size ∧ p.2 * 1000 ≤ 1000000000 ∧ goN (bL b) = dgN 10 (1000000000 / 1000) ((bL d).drop p.1) p.2) (fun p => d.size - p.1) (0, 0) ⟨Nat.zero_le _, hz9, hgo⟩ (Wk.tl (by simp [hold, upd, tl_cons])) ?_
    rintro ⟨k, n⟩ ⟨hk1, hn, hg⟩
    dsimp only at hk1 hn hg ⊢
    by_cases h : k < d.size
    · have hk' : k < (bL d).length := by rw [bL_len]; exact h
      rw [dgN_drop _ _ _ _ _ hk'] at hg
      rcases dec_dig hk' with ⟨q1, q2⟩ | ⟨q1, q2, q3⟩
      · rw [if_pos q1] at hg
        rw [numT_no hg]
        simp -implicitDefEqProofs [List.lookup_cons, eS, h, ei_str, F141, deU, q2]
        refine fin_pure (by simp) ?_
        simp -implicitDefEqProofs [fS, rn0, pickObs, deI]
      · rw [if_neg (by omega)] at hg
        generalize hv : digV (bL d)[k] = v at hg q1 q3
        have w0 : IntKind.u8.wrap (v : Int) = v := by rw [IntKind.wrap_u8]; omega
        have w1 : IntKind.i64.wrap (10 * (n : Int)) = 10 * (n : Int) := w64 (by omega) (by omega)
        have w2 : IntKind.i64.wrap (v : Int) = v := w64 (by omega) (by omega)
        have w3 : IntKind.i64.wrap (10 * (n : Int) + v) = 10 * (n : Int) + v := w64 (by omega) (by omega)
        have w4 : IntKind.i64.wrap ((10 * (n : Int) + v) * 1000) = (10 * (n : Int) + v) * 1000 := w64 (by omega) (by omega)
        have w5 := w64n (show k < 4611686018427387904 from Nat.lt_trans h (hds ()))
        by_cases hm : 1000000000 / 1000 < n * 10 + v
        · rw [if_pos hm] at hg
          rw [numT_no hg]
          have hmi : 1000000000 < (10 * (n : Int) + v) * 1000 := by omega
          simp -implicitDefEqProofs [List.lookup_cons, eS, eConv, h, ei_str, F141, deU, q2, q3, w0, w1, w2, w3, w4, hmi]
          refine fin_pure (by simp) ?_
          simp -implicitDefEqProofs [fS, rn0, pickObs, deI]
        · rw [if_neg hm] at hg
          have hmi : ¬ 1000000000 < (10 * (n : Int) + v) * 1000 := by omega
          simp -implicitDefEqProofs [List.lookup_cons, eS, eConv, h, ei_str, F141, deU, q2, q3, w0, w1, w2, w3, w4, hmi]
          refine ⟨k + 1, by omega, n * 10 + v, by omega, hg, by omega, ?_⟩
          exact Wk.tl (by simp [hold, upd, tl_cons, w5, show (n : Int) * 10 + v = 10 * (n : Int) + v by omega])
    · have e : k = d.size := by omega
      subst e
      rw [← bL_len, dgN_end] at hg
      have w6 : IntKind.i64.wrap ((n : Int) * 1000) = (n : Int) * 1000 := w64 (by omega) (by omega)
      rw [numT_yes hg, hU ()]
      simp -implicitDefEqProofs [List.lookup_cons, eS, w6]
      refine fin_pure (by simp) ?_
      simp -implicitDefEqProofs [fS, rn0, pickObs, deI]
  by_cases hm : byt b (b.size - 1) = 109
  · have hU : Unit → unitN (bL b) = 1000000 := fun _ => by rw [hun, if_pos hm]
    have hD : unD (bL b) = bL (b.extract 0 (b.size - 1)) := by unfold unD; rw [if_neg (by rw [hU ()]; decide), drop_last]
    have hsz : (b.extract 0 (b.size - 1)).size = b.size - 1 := ext_size _ _ _ (by omega)
    clear hun
    simp -implicitDefEqProofs [Tryd.f129, List.lookup_cons, eS, Sx, hp, hpi, hw, hl, ei_str, eSlice, bnd, hk, hm]
    generalize hd : b.extract 0 (b.size - 1) = d at hD hsz ⊢
    have hds : Unit → d.size < 4611686018427387904 := fun _ => by omega
    clear hb
    have hA : ¬ d.toList = [] → 0 < d.size := fun h => by rw [toL] at h; rw [← bL_len]; exact List.length_pos_iff.2 h
    refine ⟨fun h => by have := hA h; omega, fun h => ?_, fun h1 h2 => ?_⟩
    · rw [numT_no (goN_none hD h)]
      refine fin_pure (by simp) ?_
      simp -implicitDefEqProofs [fS, rn0, pickObs, deI]
    have hgo := goN_some hD h1 h2
    rw [hU ()] at hgo
    have hz9 : 0 ≤ 1000 := by omega
    refine loopP_inv (fun p : Nat × Nat => ⟨68, tl [(4, .v (.int .i64 1000000)), (5, .v (.string d)), (6, I p.2), (7, I p.1)], []⟩) (fun p => p.1 ≤ d.size ∧ p.2 ≤ 1000 ∧ goN (bL b) = dgN 10 (1000000000 / 1000000) ((bL d).drop p.1) p.2) (fun p => d.size - p.1) (0, 0) ⟨Nat.zero_le _, hz9, hgo⟩ (Wk.tl (by simp [hold, upd, tl_cons])) ?_
    rintro ⟨k, n⟩ ⟨hk1, hn, hg⟩
    dsimp only at hk1 hn hg ⊢
    by_cases h : k < d.size
    · have hk' : k < (bL d).length := by rw [bL_len]; exact h
      rw [dgN_drop _ _ _ _ _ hk'] at hg
      rcases dec_dig hk' with ⟨q1, q2⟩ | ⟨q1, q2, q3⟩
      · rw [if_pos q1] at hg
        rw [numT_no hg]
        simp -implicitDefEqProofs [List.lookup_cons, eS, h, ei_str, F141, deU, q2]
        refine fin_pure (by simp) ?_
        simp -implicitDefEqProofs [fS, rn0, pickObs, deI]
      · rw [if_neg (by omega)] at hg
        generalize hv : digV (bL d)[k] = v at hg q1 q3
        have w0 : IntKind.u8.wrap (v : Int) = v := by rw [IntKind.wrap_u8]; omega
        have w1 : IntKind.i64.wrap (10 * (n : Int)) = 10 * (n : Int) := w64 (by omega) (by omega)
        have w2 : IntKind.i64.wrap (v : Int) = v := w64 (by omega) (by omega)
        have w3 : IntKind.i64.wrap (10 * (n : Int) + v) = 10 * (n : Int) + v := w64 (by omega) (by omega)
        have w4 := w64m (10 * (n : Int) + v) (by omega) (by omega)
        have w5 := w64n (show k < 4611686018427387904 from Nat.lt_trans h (hds ()))
        by_cases hm : 1000 < n * 10 + v
        · rw [if_pos ((gt6n _).2 hm)] at hg
          rw [numT_no hg]
          have hmi := (gt6 (10 * (n : Int) + v)).2 (by omega)
          simp -implicitDefEqProofs [List.lookup_cons, eS, eConv, h, ei_str, F141, deU, q2, q3, w0, w1, w2, w3, w4, hmi]
          refine fin_pure (by simp) ?_
          simp -implicitDefEqProofs [fS, rn0, pickObs, deI]
        · rw [if_neg (fun hc => hm ((gt6n _).1 hc))] at hg
          have hmi := mt (gt6 (10 * (n : Int) + v)).1 (by omega)
          simp -implicitDefEqProofs [List.lookup_cons, eS, eConv, h, ei_str, F141, deU, q2, q3, w0, w1, w2, w3, w4, hmi]
          refine ⟨k + 1, by omega, n * 10 + v, by omega, hg, by omega, ?_⟩
          exact Wk.tl (by simp [hold, upd, tl_cons, w5, show (n : Int) * 10 + v = 10 * (n : Int) + v by omega])
    · have e : k = d.size := by omega
      subst e
      rw [← bL_len, dgN_end] at hg
      have w6 := w64m (n : Int) (by omega) (by omega)
      rw [numT_yes hg, hU ()]
      simp -implicitDefEqProofs [List.lookup_cons, eS, w6]
      refine fin_pure (by simp) ?_
      simp -implicitDefEqProofs [fS, rn0, pickObs, deI]
  · have hU : Unit → unitN (bL b) = 1 := fun _ => by rw [hun, if_neg hm, if_neg hk]
    have hD : unD (bL b) = bL b := by unfold unD; rw [if_pos (hU ())]
    clear hun
    simp -implicitDefEqProofs [Tryd.f129, List.lookup_cons, eS, Sx, hp, hpi, hw, hl, ei_str, eSlice, bnd, hk, hm]
    have hds : Unit → b.size < 4611686018427387904 := fun _ => by omega
    clear hb
    have hA : ¬ b.toList = [] → 0 < b.size := fun h => by rw [toL] at h; rw [← bL_len]; exact List.length_pos_iff.2 h
    refine ⟨fun h => ?_, fun h1 h2 => ?_⟩
    · rw [numT_no (goN_none hD h)]
      refine fin_pure (by simp) ?_
      simp -implicitDefEqProofs [fS, rn0, pickObs, deI]
    have hgo := goN_some hD h1 h2
    rw [hU ()] at hgo
    have hz9 : 0 * 1 ≤ 1000000000 := by omega
    refine loopP_inv (fun p : Nat × Nat => ⟨68, tl [(4, .v (.int .i64 1)), (5, .v (.string b)), (6, I p.2), (7, I p.1)], []⟩) (fun p => p.1 ≤ b.size ∧ p.2 * 1 ≤ 1000000000 ∧ goN (bL b) = dgN 10 (1000000000 / 1) ((bL b).drop p.1) p.2) (fun p => b.size - p.1) (0, 0) ⟨Nat.zero_le _, hz9, hgo⟩ (Wk.tl (by simp [hold, upd, tl_cons])) ?_
    rintro ⟨k, n⟩ ⟨hk1, hn, hg⟩
    dsimp only at hk1 hn hg ⊢
    by_cases h : k < b.size
    · have hk' : k < (bL b).length := by rw [bL_len]; exact h
      rw [dgN_drop _ _ _ _ _ hk'] at hg
      rcases dec_dig hk' with ⟨q1, q2⟩ | ⟨q1, q2, q3⟩
      · rw [if_pos q1] at hg
        rw [numT_no hg]
        simp -implicitDefEqProofs [List.lookup_cons, eS, h, ei_str, F141, deU, q2]
        refine fin_pure (by simp) ?_
        simp -implicitDefEqProofs [fS, rn0, pickObs, deI]
      · rw [if_neg (by omega)] at hg
        generalize hv : digV (bL b)[k] = v at hg q1 q3
        have w0 : IntKind.u8.wrap (v : Int) = v := by rw [IntKind.wrap_u8]; omega
        have w1 : IntKind.i64.wrap (10 * (n : Int)) = 10 * (n : Int) := w64 (by omega) (by omega)
        have w2 : IntKind.i64.wrap (v : Int) = v := w64 (by omega) (by omega)
        have w3 : IntKind.i64.wrap (10 * (n : Int) + v) = 10 * (n : Int) + v := w64 (by omega) (by omega)
        have w4 : IntKind.i64.wrap ((10 * (n : Int) + v)) = (10 * (n : Int) + v) := w64 (by omega) (by omega)
        have w5 := w64n (show k < 4611686018427387904 from Nat.lt_trans h (hds ()))
        by_cases hm : 1000000000 / 1 < n * 10 + v
        · rw [if_pos hm] at hg
          rw [numT_no hg]
          have hmi : 1000000000 < (10 * (n : Int) + v) := by omega
          simp -implicitDefEqProofs [List.lookup_cons, eS, eConv, h, ei_str, F141, deU, q2, q3, w0, w1, w2, w3, w4, hmi]
          refine fin_pure (by simp) ?_
          simp -implicitDefEqProofs [fS, rn0, pickObs, deI]
        · rw [if_neg hm] at hg
          have hmi : ¬ 1000000000 < (10 * (n : Int) + v) := by omega
          simp -implicitDefEqProofs [List.lookup_cons, eS, eConv, h, ei_str, F141, deU, q2, q3, w0, w1, w2, w3, w4, hmi]
          refine ⟨k + 1, by omega, n * 10 + v, by omega, hg, by omega, ?_⟩
          exact Wk.tl (by simp [hold, upd, tl_cons, w5, show (n : Int) * 10 + v = 10 * (n : Int) + v by omega])
    · have e : k = b.size := by omega
      subst e
      rw [← bL_len, dgN_end] at hg
      have w6 : IntKind.i64.wrap ((n : Int)) = (n : Int) := w64 (by omega) (by omega)
      rw [numT_yes hg, hU ()]
      simp -implicitDefEqProofs [List.lookup_cons, eS, w6]
      refine fin_pure (by simp) ?_
      simp -implicitDefEqProofs [fS, rn0, pickObs, deI]
end Go.Proofs
