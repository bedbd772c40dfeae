/-
  What is proved here: contracts of the reference's readers of numbers. Condition: none.
-/
import Derived.Test.YtecpfgnkiifnpaaDoorFR3n
namespace Go.Proofs
open Go.Abs Go.Flat
set_option linter.unusedSimpArgs false
set_option linter.unnecessarySimpa false
set_option linter.unusedVariables false
set_option maxHeartbeats 8000000
set_option maxRecDepth 20000
theorem dig_cases {b : ByteArray} {k : Nat} (h : k < (bL b).length) : (byt b k < 48 ∧ digV (bL b)[k] = 99) ∨ (48 ≤ byt b k ∧ byt b k ≤ 57 ∧ byt b k - 48 = (digV (bL b)[k] : Int) ∧ digV (bL b)[k] ≤ 9) ∨ (57 < byt b k ∧ byt b k < 97 ∧ digV (bL b)[k] = 99) ∨ (97 ≤ byt b k ∧ byt b k ≤ 102 ∧ byt b k - 97 + 10 = (digV (bL b)[k] : Int) ∧ digV (bL b)[k] ≤ 15) ∨ (102 < byt b k ∧ digV (bL b)[k] = 99) := by
  rw [byt_at h]
  unfold digV
  generalize (bL b)[k].toNat = n
  repeat' split
  all_goals omega
def F53 : Fun := ⟨fun xs => ∃ (b : ByteArray) (base most : Nat), xs = [Sx b, I base, I most] ∧ (base = 10 ∨ base = 16) ∧ most ≤ 1000000000 ∧ b.size ≤ 1048576, fun xs => (I (optI (numD (deI (xs.getD 1 .top)).toNat (deI (xs.getD 2 .top)).toNat (bL (deS (xs.getD 0 .top))))), [])⟩
theorem dg_res (b : ByteArray) (base most : Nat) : F53.res [Sx b, I base, I most] = (I (optI (numD base most (bL b))), []) := by simp [F53, deI, deS, Sx]
/-- the reference looks at the bound one digit later -/
def dgI (base most : Nat) (l : List UInt8) (n : Nat) : Int := if most < n then -1 else optI (dgN base most l n)
theorem dgI_bad {base most : Nat} {l : List UInt8} {k n : Nat} (h : k < l.length) (hd : base ≤ digV l[k]) : dgI base most (l.drop k) n = -1 := by
  unfold dgI
  split
  · rfl
  · rw [dgN_drop _ _ _ _ _ h, if_pos hd]; rfl
theorem dgI_over {base most : Nat} {l : List UInt8} {n : Nat} (h : most < n) : dgI base most l n = -1 := by unfold dgI; rw [if_pos h]
theorem dgI_step {base most : Nat} {l : List UInt8} {k n : Nat} (h : k < l.length) (hd : ¬ base ≤ digV l[k]) (hn : ¬ most < n) : dgI base most (l.drop k) n = dgI base most (l.drop (k + 1)) (n * base + digV l[k]) := by
  unfold dgI
  rw [if_neg hn, dgN_drop _ _ _ _ _ h, if_neg hd]
  split <;> rfl
theorem dgI_end {base most : Nat} {l : List UInt8} {n : Nat} (hn : ¬ most < n) : dgI base most (l.drop l.length) n = n := by
  unfold dgI
  rw [if_neg hn, dgN_end]
  rfl
theorem c53 : GenCA K Tryd.prog 53 F53 := by
  refine contractA Tryd.mix K [] [] (by simp) (by simp) Tryd.func53 rfl (by decide) ?_
  rintro xs ⟨b, base, most, rfl, hbase, hmost, hb⟩
  rw [dg_res]
  refine ⟨by rw [Tryd.ntmps53]; simp, ?_⟩
  have hbt : b.toList = [] ↔ bL b = [] := by rw [toL]
  by_cases h0 : bL b = []
  · have hbl := hbt.2 h0
    have e : numD base most (bL b) = none := by unfold numD; rw [if_pos (Or.inl h0)]
    rw [e]
    simp -implicitDefEqProofs [Tryd.f53, List.lookup_cons, eS, Sx, hbl]
    refine fin_pure (by simp) ?_
    simp -implicitDefEqProofs [fS, rn0, pickObs, deI, optI]
  have hbl : ¬ b.toList = [] := fun h => h0 (hbt.1 h)
  have hp : 0 < b.size := by rw [← bL_len]; exact List.length_pos_iff.2 h0
  by_cases hz : byt b 0 = 48 ∧ 1 < b.size
  · have hzi : (1 : Int) < b.size := by omega
    have e : numD base most (bL b) = none := by unfold numD; rw [if_pos (Or.inr ⟨(head48 h0).2 hz.1, by rw [bL_len]; exact hz.2⟩)]
    rw [e]
    simp -implicitDefEqProofs [Tryd.f53, List.lookup_cons, eS, Sx, hbl, hp, ei_str, hz.1, hz.2, hzi]
    refine fin_pure (by simp) ?_
    simp -implicitDefEqProofs [fS, rn0, pickObs, deI, optI]
  have hgo : optI (numD base most (bL b)) = dgI base most ((bL b).drop 0) 0 := by
    unfold numD dgI
    rw [if_neg, List.drop_zero, if_neg (by omega)]
    rintro (h | ⟨h1, h2⟩)
    · exact h0 h
    · rw [bL_len] at h2
      exact hz ⟨(head48 h0).1 h1, h2⟩
  rw [hgo]
  clear hgo
  generalize hG : dgI base most ((bL b).drop 0) 0 = G
  have hz' : byt b 0 ≠ 48 ∨ (byt b 0 = 48 ∧ b.size = 1) := by
    by_cases h : byt b 0 = 48
    · exact Or.inr ⟨h, by have : ¬ 1 < b.size := fun h3 => hz ⟨h, h3⟩; omega⟩
    · exact Or.inl h
  rcases hbase with rfl | rfl
  · rcases hz' with g | ⟨g, g2⟩
    · simp -implicitDefEqProofs [Tryd.f53, List.lookup_cons, eS, Sx, hbl, hp, ei_str, g]
      refine loopP_inv (fun p : Nat × Nat => ⟨78, tl [(0, .v (.string b)), (1, .v (.int .i64 10)), (2, I most), (7, I p.2), (8, I p.1)], []⟩) (fun p => p.1 ≤ b.size ∧ p.2 ≤ 17000000000 ∧ G = dgI 10 most ((bL b).drop p.1) p.2) (fun p => b.size - p.1) (0, 0) ⟨Nat.zero_le _, Nat.zero_le _, hG.symm⟩ (Wk.tl (by simp [hold, upd, tl_cons])) ?_
      rintro ⟨k, n⟩ ⟨hk, hn, hd⟩
      dsimp only at hk hn hd ⊢
      by_cases h : k < b.size
      · have hk' : k < (bL b).length := by rw [bL_len]; exact h
        have w5 := w64n (show k < 4611686018427387904 by omega)
        rcases dig_cases hk' with ⟨q1, q3⟩ | ⟨q1, q2, q3, q4⟩ | ⟨q1, q2, q3⟩ | ⟨q1, q2, q3, q4⟩ | ⟨q1, q3⟩
        · rw [hd, dgI_bad hk' (by omega)]
          have hb99 : 10 ≤ (99 : Int) := by omega
          simp -implicitDefEqProofs [List.lookup_cons, eS, eConv, h, ei_str, show ¬ 48 ≤ byt b k by omega, show ¬ 97 ≤ byt b k by omega, show byt b k < 48 by omega, show byt b k < 97 by omega]
          refine fin_pure (by simp) ?_
          simp -implicitDefEqProofs [fS, rn0, pickObs, deI]
        · generalize hv : digV (bL b)[k] = v at q3 q4
          have u1 : IntKind.i64.wrap (byt b k) = byt b k := w64 (by omega) (by omega)
          have u2 : IntKind.i64.wrap (byt b k - 48) = byt b k - 48 := w64 (by omega) (by omega)
          have u3 := u2
          have u6 : IntKind.i64.wrap (v : Int) = v := w64 (by omega) (by omega)
          by_cases hs : 10 ≤ v
          · rw [hd, dgI_bad hk' (by rw [hv]; exact hs)]
            have hsi : (10 : Int) ≤ v := by omega
            simp -implicitDefEqProofs [List.lookup_cons, eS, eConv, h, ei_str, q1, q2, u1, u2, u3, u6, q3, hsi]
            refine fin_pure (by simp) ?_
            simp -implicitDefEqProofs [fS, rn0, pickObs, deI]
          have hsi : ¬ (10 : Int) ≤ v := by omega
          by_cases hm : most < n
          · rw [hd, dgI_over hm]
            have hmi : (most : Int) < n := by omega
            simp -implicitDefEqProofs [List.lookup_cons, eS, eConv, h, ei_str, q1, q2, u1, u2, u3, u6, q3, hsi, hm, hmi]
            refine fin_pure (by simp) ?_
            simp -implicitDefEqProofs [fS, rn0, pickObs, deI]
          have hmi : ¬ (most : Int) < n := by omega
          rw [dgI_step hk' (by rw [hv]; exact hs) hm, hv] at hd
          have u4 : IntKind.i64.wrap ((n : Int) * 10) = (n : Int) * 10 := w64 (by omega) (by omega)
          have u5 : IntKind.i64.wrap ((n : Int) * 10 + v) = (n : Int) * 10 + v := w64 (by omega) (by omega)
          simp -implicitDefEqProofs [List.lookup_cons, eS, eConv, h, ei_str, q1, q2, u1, u2, u3, u6, q3, hsi, hm, hmi, u4, u5]
          refine ⟨k + 1, by omega, n * 10 + v, by omega, hd, by omega, ?_⟩
          exact Wk.tl (by simp [hold, upd, tl_cons, w5])
        · rw [hd, dgI_bad hk' (by omega)]
          have hb99 : 10 ≤ (99 : Int) := by omega
          simp -implicitDefEqProofs [List.lookup_cons, eS, eConv, h, ei_str, show 48 ≤ byt b k by omega, show ¬ byt b k ≤ 57 by omega, show ¬ 97 ≤ byt b k by omega, show 57 < byt b k by omega, show byt b k < 97 by omega]
          refine fin_pure (by simp) ?_
          simp -implicitDefEqProofs [fS, rn0, pickObs, deI]
        · generalize hv : digV (bL b)[k] = v at q3 q4
          have u1 : IntKind.i64.wrap (byt b k) = byt b k := w64 (by omega) (by omega)
          have u2 : IntKind.i64.wrap (byt b k - 97) = byt b k - 97 := w64 (by omega) (by omega)
          have u3 : IntKind.i64.wrap (byt b k - 97 + 10) = byt b k - 97 + 10 := w64 (by omega) (by omega)
          have u6 : IntKind.i64.wrap (v : Int) = v := w64 (by omega) (by omega)
          by_cases hs : 10 ≤ v
          · rw [hd, dgI_bad hk' (by rw [hv]; exact hs)]
            have hsi : (10 : Int) ≤ v := by omega
            simp -implicitDefEqProofs [List.lookup_cons, eS, eConv, h, ei_str, q1, q2, show 48 ≤ byt b k by omega, show ¬ byt b k ≤ 57 by omega, show 57 < byt b k by omega, u1, u2, u3, u6, q3, hsi]
            refine fin_pure (by simp) ?_
            simp -implicitDefEqProofs [fS, rn0, pickObs, deI]
          have hsi : ¬ (10 : Int) ≤ v := by omega
          by_cases hm : most < n
          · rw [hd, dgI_over hm]
            have hmi : (most : Int) < n := by omega
            simp -implicitDefEqProofs [List.lookup_cons, eS, eConv, h, ei_str, q1, q2, show 48 ≤ byt b k by omega, show ¬ byt b k ≤ 57 by omega, show 57 < byt b k by omega, u1, u2, u3, u6, q3, hsi, hm, hmi]
            refine fin_pure (by simp) ?_
            simp -implicitDefEqProofs [fS, rn0, pickObs, deI]
          have hmi : ¬ (most : Int) < n := by omega
          rw [dgI_step hk' (by rw [hv]; exact hs) hm, hv] at hd
          have u4 : IntKind.i64.wrap ((n : Int) * 10) = (n : Int) * 10 := w64 (by omega) (by omega)
          have u5 : IntKind.i64.wrap ((n : Int) * 10 + v) = (n : Int) * 10 + v := w64 (by omega) (by omega)
          simp -implicitDefEqProofs [List.lookup_cons, eS, eConv, h, ei_str, q1, q2, show 48 ≤ byt b k by omega, show ¬ byt b k ≤ 57 by omega, show 57 < byt b k by omega, u1, u2, u3, u6, q3, hsi, hm, hmi, u4, u5]
          refine ⟨k + 1, by omega, n * 10 + v, by omega, hd, by omega, ?_⟩
          exact Wk.tl (by simp [hold, upd, tl_cons, w5])
        · rw [hd, dgI_bad hk' (by omega)]
          have hb99 : 10 ≤ (99 : Int) := by omega
          simp -implicitDefEqProofs [List.lookup_cons, eS, eConv, h, ei_str, show 48 ≤ byt b k by omega, show ¬ byt b k ≤ 57 by omega, show 97 ≤ byt b k by omega, show ¬ byt b k ≤ 102 by omega, show 57 < byt b k by omega, show 102 < byt b k by omega]
          refine fin_pure (by simp) ?_
          simp -implicitDefEqProofs [fS, rn0, pickObs, deI]
      · have e : k = b.size := by omega
        subst e
        rw [← bL_len] at hd
        rw [hd]
        by_cases hm : most < n
        · rw [dgI_over hm]
          have hmi : (most : Int) < n := by omega
          simp -implicitDefEqProofs [List.lookup_cons, eS, hm, hmi]
          refine fin_pure (by simp) ?_
          simp -implicitDefEqProofs [fS, rn0, pickObs, deI]
        · rw [dgI_end hm]
          have hmi : ¬ (most : Int) < n := by omega
          simp -implicitDefEqProofs [List.lookup_cons, eS, hm, hmi]
          refine fin_pure (by simp) ?_
          simp -implicitDefEqProofs [fS, rn0, pickObs, deI]
    · simp -implicitDefEqProofs [Tryd.f53, List.lookup_cons, eS, Sx, hbl, hp, ei_str, g, g2]
      refine loopP_inv (fun p : Nat × Nat => ⟨78, tl [(0, .v (.string b)), (1, .v (.int .i64 10)), (2, I most), (7, I p.2), (8, I p.1)], []⟩) (fun p => p.1 ≤ b.size ∧ p.2 ≤ 17000000000 ∧ G = dgI 10 most ((bL b).drop p.1) p.2) (fun p => b.size - p.1) (0, 0) ⟨Nat.zero_le _, Nat.zero_le _, hG.symm⟩ (Wk.tl (by simp [hold, upd, tl_cons])) ?_
      rintro ⟨k, n⟩ ⟨hk, hn, hd⟩
      dsimp only at hk hn hd ⊢
      by_cases h : k < b.size
      · have hk' : k < (bL b).length := by rw [bL_len]; exact h
        have w5 := w64n (show k < 4611686018427387904 by omega)
        rcases dig_cases hk' with ⟨q1, q3⟩ | ⟨q1, q2, q3, q4⟩ | ⟨q1, q2, q3⟩ | ⟨q1, q2, q3, q4⟩ | ⟨q1, q3⟩
        · rw [hd, dgI_bad hk' (by omega)]
          have hb99 : 10 ≤ (99 : Int) := by omega
          simp -implicitDefEqProofs [List.lookup_cons, eS, eConv, h, ei_str, show ¬ 48 ≤ byt b k by omega, show ¬ 97 ≤ byt b k by omega, show byt b k < 48 by omega, show byt b k < 97 by omega]
          refine fin_pure (by simp) ?_
          simp -implicitDefEqProofs [fS, rn0, pickObs, deI]
        · generalize hv : digV (bL b)[k] = v at q3 q4
          have u1 : IntKind.i64.wrap (byt b k) = byt b k := w64 (by omega) (by omega)
          have u2 : IntKind.i64.wrap (byt b k - 48) = byt b k - 48 := w64 (by omega) (by omega)
          have u3 := u2
          have u6 : IntKind.i64.wrap (v : Int) = v := w64 (by omega) (by omega)
          by_cases hs : 10 ≤ v
          · rw [hd, dgI_bad hk' (by rw [hv]; exact hs)]
            have hsi : (10 : Int) ≤ v := by omega
            simp -implicitDefEqProofs [List.lookup_cons, eS, eConv, h, ei_str, q1, q2, u1, u2, u3, u6, q3, hsi]
            refine fin_pure (by simp) ?_
            simp -implicitDefEqProofs [fS, rn0, pickObs, deI]
          have hsi : ¬ (10 : Int) ≤ v := by omega
          by_cases hm : most < n
          · rw [hd, dgI_over hm]
            have hmi : (most : Int) < n := by omega
            simp -implicitDefEqProofs [List.lookup_cons, eS, eConv, h, ei_str, q1, q2, u1, u2, u3, u6, q3, hsi, hm, hmi]
            refine fin_pure (by simp) ?_
            simp -implicitDefEqProofs [fS, rn0, pickObs, deI]
          have hmi : ¬ (most : Int) < n := by omega
          rw [dgI_step hk' (by rw [hv]; exact hs) hm, hv] at hd
          have u4 : IntKind.i64.wrap ((n : Int) * 10) = (n : Int) * 10 := w64 (by omega) (by omega)
          have u5 : IntKind.i64.wrap ((n : Int) * 10 + v) = (n : Int) * 10 + v := w64 (by omega) (by omega)
          simp -implicitDefEqProofs [List.lookup_cons, eS, eConv, h, ei_str, q1, q2, u1, u2, u3, u6, q3, hsi, hm, hmi, u4, u5]
          refine ⟨k + 1, by omega, n * 10 + v, by omega, hd, by omega, ?_⟩
          exact Wk.tl (by simp [hold, upd, tl_cons, w5])
        · rw [hd, dgI_bad hk' (by omega)]
          have hb99 : 10 ≤ (99 : Int) := by omega
          simp -implicitDefEqProofs [List.lookup_cons, eS, eConv, h, ei_str, show 48 ≤ byt b k by omega, show ¬ byt b k ≤ 57 by omega, show ¬ 97 ≤ byt b k by omega, show 57 < byt b k by omega, show byt b k < 97 by omega]
          refine fin_pure (by simp) ?_
          simp -implicitDefEqProofs [fS, rn0, pickObs, deI]
        · generalize hv : digV (bL b)[k] = v at q3 q4
          have u1 : IntKind.i64.wrap (byt b k) = byt b k := w64 (by omega) (by omega)
          have u2 : IntKind.i64.wrap (byt b k - 97) = byt b k - 97 := w64 (by omega) (by omega)
          have u3 : IntKind.i64.wrap (byt b k - 97 + 10) = byt b k - 97 + 10 := w64 (by omega) (by omega)
          have u6 : IntKind.i64.wrap (v : Int) = v := w64 (by omega) (by omega)
          by_cases hs : 10 ≤ v
          · rw [hd, dgI_bad hk' (by rw [hv]; exact hs)]
            have hsi : (10 : Int) ≤ v := by omega
            simp -implicitDefEqProofs [List.lookup_cons, eS, eConv, h, ei_str, q1, q2, show 48 ≤ byt b k by omega, show ¬ byt b k ≤ 57 by omega, show 57 < byt b k by omega, u1, u2, u3, u6, q3, hsi]
            refine fin_pure (by simp) ?_
            simp -implicitDefEqProofs [fS, rn0, pickObs, deI]
          have hsi : ¬ (10 : Int) ≤ v := by omega
          by_cases hm : most < n
          · rw [hd, dgI_over hm]
            have hmi : (most : Int) < n := by omega
            simp -implicitDefEqProofs [List.lookup_cons, eS, eConv, h, ei_str, q1, q2, show 48 ≤ byt b k by omega, show ¬ byt b k ≤ 57 by omega, show 57 < byt b k by omega, u1, u2, u3, u6, q3, hsi, hm, hmi]
            refine fin_pure (by simp) ?_
            simp -implicitDefEqProofs [fS, rn0, pickObs, deI]
          have hmi : ¬ (most : Int) < n := by omega
          rw [dgI_step hk' (by rw [hv]; exact hs) hm, hv] at hd
          have u4 : IntKind.i64.wrap ((n : Int) * 10) = (n : Int) * 10 := w64 (by omega) (by omega)
          have u5 : IntKind.i64.wrap ((n : Int) * 10 + v) = (n : Int) * 10 + v := w64 (by omega) (by omega)
          simp -implicitDefEqProofs [List.lookup_cons, eS, eConv, h, ei_str, q1, q2, show 48 ≤ byt b k by omega, show ¬ byt b k ≤ 57 by omega, show 57 < byt b k by omega, u1, u2, u3, u6, q3, hsi, hm, hmi, u4, u5]
          refine ⟨k + 1, by omega, n * 10 + v, by omega, hd, by omega, ?_⟩
          exact Wk.tl (by simp [hold, upd, tl_cons, w5])
        · rw [hd, dgI_bad hk' (by omega)]
          have hb99 : 10 ≤ (99 : Int) := by omega
          simp -implicitDefEqProofs [List.lookup_cons, eS, eConv, h, ei_str, show 48 ≤ byt b k by omega, show ¬ byt b k ≤ 57 by omega, show 97 ≤ byt b k by omega, show ¬ byt b k ≤ 102 by omega, show 57 < byt b k by omega, show 102 < byt b k by omega]
          refine fin_pure (by simp) ?_
          simp -implicitDefEqProofs [fS, rn0, pickObs, deI]
      · have e : k = b.size := by omega
        subst e
        rw [← bL_len] at hd
        rw [hd]
        by_cases hm : most < n
        · rw [dgI_over hm]
          have hmi : (most : Int) < n := by omega
          simp -implicitDefEqProofs [List.lookup_cons, eS, hm, hmi]
          refine fin_pure (by simp) ?_
          simp -implicitDefEqProofs [fS, rn0, pickObs, deI]
        · rw [dgI_end hm]
          have hmi : ¬ (most : Int) < n := by omega
          simp -implicitDefEqProofs [List.lookup_cons, eS, hm, hmi]
          refine fin_pure (by simp) ?_
          simp -implicitDefEqProofs [fS, rn0, pickObs, deI]
  · rcases hz' with g | ⟨g, g2⟩
    · simp -implicitDefEqProofs [Tryd.f53, List.lookup_cons, eS, Sx, hbl, hp, ei_str, g]
      refine loopP_inv (fun p : Nat × Nat => ⟨78, tl [(0, .v (.string b)), (1, .v (.int .i64 16)), (2, I most), (7, I p.2), (8, I p.1)], []⟩) (fun p => p.1 ≤ b.size ∧ p.2 ≤ 17000000000 ∧ G = dgI 16 most ((bL b).drop p.1) p.2) (fun p => b.size - p.1) (0, 0) ⟨Nat.zero_le _, Nat.zero_le _, hG.symm⟩ (Wk.tl (by simp [hold, upd, tl_cons])) ?_
      rintro ⟨k, n⟩ ⟨hk, hn, hd⟩
      dsimp only at hk hn hd ⊢
      by_cases h : k < b.size
      · have hk' : k < (bL b).length := by rw [bL_len]; exact h
        have w5 := w64n (show k < 4611686018427387904 by omega)
        rcases dig_cases hk' with ⟨q1, q3⟩ | ⟨q1, q2, q3, q4⟩ | ⟨q1, q2, q3⟩ | ⟨q1, q2, q3, q4⟩ | ⟨q1, q3⟩
        · rw [hd, dgI_bad hk' (by omega)]
          have hb99 : 16 ≤ (99 : Int) := by omega
          simp -implicitDefEqProofs [List.lookup_cons, eS, eConv, h, ei_str, show ¬ 48 ≤ byt b k by omega, show ¬ 97 ≤ byt b k by omega, show byt b k < 48 by omega, show byt b k < 97 by omega]
          refine fin_pure (by simp) ?_
          simp -implicitDefEqProofs [fS, rn0, pickObs, deI]
        · generalize hv : digV (bL b)[k] = v at q3 q4
          have u1 : IntKind.i64.wrap (byt b k) = byt b k := w64 (by omega) (by omega)
          have u2 : IntKind.i64.wrap (byt b k - 48) = byt b k - 48 := w64 (by omega) (by omega)
          have u3 := u2
          have u6 : IntKind.i64.wrap (v : Int) = v := w64 (by omega) (by omega)
          by_cases hs : 16 ≤ v
          · rw [hd, dgI_bad hk' (by rw [hv]; exact hs)]
            have hsi : (16 : Int) ≤ v := by omega
            simp -implicitDefEqProofs [List.lookup_cons, eS, eConv, h, ei_str, q1, q2, u1, u2, u3, u6, q3, hsi]
            refine fin_pure (by simp) ?_
            simp -implicitDefEqProofs [fS, rn0, pickObs, deI]
          have hsi : ¬ (16 : Int) ≤ v := by omega
          by_cases hm : most < n
          · rw [hd, dgI_over hm]
            have hmi : (most : Int) < n := by omega
            simp -implicitDefEqProofs [List.lookup_cons, eS, eConv, h, ei_str, q1, q2, u1, u2, u3, u6, q3, hsi, hm, hmi]
            refine fin_pure (by simp) ?_
            simp -implicitDefEqProofs [fS, rn0, pickObs, deI]
          have hmi : ¬ (most : Int) < n := by omega
          rw [dgI_step hk' (by rw [hv]; exact hs) hm, hv] at hd
          have u4 : IntKind.i64.wrap ((n : Int) * 16) = (n : Int) * 16 := w64 (by omega) (by omega)
          have u5 : IntKind.i64.wrap ((n : Int) * 16 + v) = (n : Int) * 16 + v := w64 (by omega) (by omega)
          simp -implicitDefEqProofs [List.lookup_cons, eS, eConv, h, ei_str, q1, q2, u1, u2, u3, u6, q3, hsi, hm, hmi, u4, u5]
          refine ⟨k + 1, by omega, n * 16 + v, by omega, hd, by omega, ?_⟩
          exact Wk.tl (by simp [hold, upd, tl_cons, w5])
        · rw [hd, dgI_bad hk' (by omega)]
          have hb99 : 16 ≤ (99 : Int) := by omega
          simp -implicitDefEqProofs [List.lookup_cons, eS, eConv, h, ei_str, show 48 ≤ byt b k by omega, show ¬ byt b k ≤ 57 by omega, show ¬ 97 ≤ byt b k by omega, show 57 < byt b k by omega, show byt b k < 97 by omega]
          refine fin_pure (by simp) ?_
          simp -implicitDefEqProofs [fS, rn0, pickObs, deI]
        · generalize hv : digV (bL b)[k] = v at q3 q4
          have u1 : IntKind.i64.wrap (byt b k) = byt b k := w64 (by omega) (by omega)
          have u2 : IntKind.i64.wrap (byt b k - 97) = byt b k - 97 := w64 (by omega) (by omega)
          have u3 : IntKind.i64.wrap (byt b k - 97 + 10) = byt b k - 97 + 10 := w64 (by omega) (by omega)
          have u6 : IntKind.i64.wrap (v : Int) = v := w64 (by omega) (by omega)
          by_cases hs : 16 ≤ v
          · rw [hd, dgI_bad hk' (by rw [hv]; exact hs)]
            have hsi : (16 : Int) ≤ v := by omega
            simp -implicitDefEqProofs [List.lookup_cons, eS, eConv, h, ei_str, q1, q2, show 48 ≤ byt b k by omega, show ¬ byt b k ≤ 57 by omega, show 57 < byt b k by omega, u1, u2, u3, u6, q3, hsi]
            refine fin_pure (by simp) ?_
            simp -implicitDefEqProofs [fS, rn0, pickObs, deI]
          have hsi : ¬ (16 : Int) ≤ v := by omega
          by_cases hm : most < n
          · rw [hd, dgI_over hm]
            have hmi : (most : Int) < n := by omega
            simp -implicitDefEqProofs [List.lookup_cons, eS, eConv, h, ei_str, q1, q2, show 48 ≤ byt b k by omega, show ¬ byt b k ≤ 57 by omega, show 57 < byt b k by omega, u1, u2, u3, u6, q3, hsi, hm, hmi]
            refine fin_pure (by simp) ?_
            simp -implicitDefEqProofs [fS, rn0, pickObs, deI]
          have hmi : ¬ (most : Int) < n := by omega
          rw [dgI_step hk' (by rw [hv]; exact hs) hm, hv] at hd
          have u4 : IntKind.i64.wrap ((n : Int) * 16) = (n : Int) * 16 := w64 (by omega) (by omega)
          have u5 : IntKind.i64.wrap ((n : Int) * 16 + v) = (n : Int) * 16 + v := w64 (by omega) (by omega)
          simp -implicitDefEqProofs [List.lookup_cons, eS, eConv, h, ei_str, q1, q2, show 48 ≤ byt b k by omega, show ¬ byt b k ≤ 57 by omega, show 57 < byt b k by omega, u1, u2, u3, u6, q3, hsi, hm, hmi, u4, u5]
          refine ⟨k + 1, by omega, n * 16 + v, by omega, hd, by omega, ?_⟩
          exact Wk.tl (by simp [hold, upd, tl_cons, w5])
        · rw [hd, dgI_bad hk' (by omega)]
          have hb99 : 16 ≤ (99 : Int) := by omega
          simp -implicitDefEqProofs [List.lookup_cons, eS, eConv, h, ei_str, show 48 ≤ byt b k by omega, show ¬ byt b k ≤ 57 by omega, show 97 ≤ byt b k by omega, show ¬ byt b k ≤ 102 by omega, show 57 < byt b k by omega, show 102 < byt b k by omega]
          refine fin_pure (by simp) ?_
          simp -implicitDefEqProofs [fS, rn0, pickObs, deI]
      · have e : k = b.size := by omega
        subst e
        rw [← bL_len] at hd
        rw [hd]
        by_cases hm : most < n
        · rw [dgI_over hm]
          have hmi : (most : Int) < n := by omega
          simp -implicitDefEqProofs [List.lookup_cons, eS, hm, hmi]
          refine fin_pure (by simp) ?_
          simp -implicitDefEqProofs [fS, rn0, pickObs, deI]
        · rw [dgI_end hm]
          have hmi : ¬ (most : Int) < n := by omega
          simp -implicitDefEqProofs [List.lookup_cons, eS, hm, hmi]
          refine fin_pure (by simp) ?_
          simp -implicitDefEqProofs [fS, rn0, pickObs, deI]
    · simp -implicitDefEqProofs [Tryd.f53, List.lookup_cons, eS, Sx, hbl, hp, ei_str, g, g2]
      refine loopP_inv (fun p : Nat × Nat => ⟨78, tl [(0, .v (.string b)), (1, .v (.int .i64 16)), (2, I most), (7, I p.2), (8, I p.1)], []⟩) (fun p => p.1 ≤ b.size ∧ p.2 ≤ 17000000000 ∧ G = dgI 16 most ((bL b).drop p.1) p.2) (fun p => b.size - p.1) (0, 0) ⟨Nat.zero_le _, Nat.zero_le _, hG.symm⟩ (Wk.tl (by simp [hold, upd, tl_cons])) ?_
      rintro ⟨k, n⟩ ⟨hk, hn, hd⟩
      dsimp only at hk hn hd ⊢
      by_cases h : k < b.size
      · have hk' : k < (bL b).length := by rw [bL_len]; exact h
        have w5 := w64n (show k < 4611686018427387904 by omega)
        rcases dig_cases hk' with ⟨q1, q3⟩ | ⟨q1, q2, q3, q4⟩ | ⟨q1, q2, q3⟩ | ⟨q1, q2, q3, q4⟩ | ⟨q1, q3⟩
        · rw [hd, dgI_bad hk' (by omega)]
          have hb99 : 16 ≤ (99 : Int) := by omega
          simp -implicitDefEqProofs [List.lookup_cons, eS, eConv, h, ei_str, show ¬ 48 ≤ byt b k by omega, show ¬ 97 ≤ byt b k by omega, show byt b k < 48 by omega, show byt b k < 97 by omega]
          refine fin_pure (by simp) ?_
          simp -implicitDefEqProofs [fS, rn0, pickObs, deI]
        · generalize hv : digV (bL b)[k] = v at q3 q4
          have u1 : IntKind.i64.wrap (byt b k) = byt b k := w64 (by omega) (by omega)
          have u2 : IntKind.i64.wrap (byt b k - 48) = byt b k - 48 := w64 (by omega) (by omega)
          have u3 := u2
          have u6 : IntKind.i64.wrap (v : Int) = v := w64 (by omega) (by omega)
          by_cases hs : 16 ≤ v
          · rw [hd, dgI_bad hk' (by rw [hv]; exact hs)]
            have hsi : (16 : Int) ≤ v := by omega
            simp -implicitDefEqProofs [List.lookup_cons, eS, eConv, h, ei_str, q1, q2, u1, u2, u3, u6, q3, hsi]
            refine fin_pure (by simp) ?_
            simp -implicitDefEqProofs [fS, rn0, pickObs, deI]
          have hsi : ¬ (16 : Int) ≤ v := by omega
          by_cases hm : most < n
          · rw [hd, dgI_over hm]
            have hmi : (most : Int) < n := by omega
            simp -implicitDefEqProofs [List.lookup_cons, eS, eConv, h, ei_str, q1, q2, u1, u2, u3, u6, q3, hsi, hm, hmi]
            refine fin_pure (by simp) ?_
            simp -implicitDefEqProofs [fS, rn0, pickObs, deI]
          have hmi : ¬ (most : Int) < n := by omega
          rw [dgI_step hk' (by rw [hv]; exact hs) hm, hv] at hd
          have u4 : IntKind.i64.wrap ((n : Int) * 16) = (n : Int) * 16 := w64 (by omega) (by omega)
          have u5 : IntKind.i64.wrap ((n : Int) * 16 + v) = (n : Int) * 16 + v := w64 (by omega) (by omega)
          simp -implicitDefEqProofs [List.lookup_cons, eS, eConv, h, ei_str, q1, q2, u1, u2, u3, u6, q3, hsi, hm, hmi, u4, u5]
          refine ⟨k + 1, by omega, n * 16 + v, by omega, hd, by omega, ?_⟩
          exact Wk.tl (by simp [hold, upd, tl_cons, w5])
        · rw [hd, dgI_bad hk' (by omega)]
          have hb99 : 16 ≤ (99 : Int) := by omega
          simp -implicitDefEqProofs [List.lookup_cons, eS, eConv, h, ei_str, show 48 ≤ byt b k by omega, show ¬ byt b k ≤ 57 by omega, show ¬ 97 ≤ byt b k by omega, show 57 < byt b k by omega, show byt b k < 97 by omega]
          refine fin_pure (by simp) ?_
          simp -implicitDefEqProofs [fS, rn0, pickObs, deI]
        · generalize hv : digV (bL b)[k] = v at q3 q4
          have u1 : IntKind.i64.wrap (byt b k) = byt b k := w64 (by omega) (by omega)
          have u2 : IntKind.i64.wrap (byt b k - 97) = byt b k - 97 := w64 (by omega) (by omega)
          have u3 : IntKind.i64.wrap (byt b k - 97 + 10) = byt b k - 97 + 10 := w64 (by omega) (by omega)
          have u6 : IntKind.i64.wrap (v : Int) = v := w64 (by omega) (by omega)
          by_cases hs : 16 ≤ v
          · rw [hd, dgI_bad hk' (by rw [hv]; exact hs)]
            have hsi : (16 : Int) ≤ v := by omega
            simp -implicitDefEqProofs [List.lookup_cons, eS, eConv, h, ei_str, q1, q2, show 48 ≤ byt b k by omega, show ¬ byt b k ≤ 57 by omega, show 57 < byt b k by omega, u1, u2, u3, u6, q3, hsi]
            refine fin_pure (by simp) ?_
            simp -implicitDefEqProofs [fS, rn0, pickObs, deI]
          have hsi : ¬ (16 : Int) ≤ v := by omega
          by_cases hm : most < n
          · rw [hd, dgI_over hm]
            have hmi : (most : Int) < n := by omega
            simp -implicitDefEqProofs [List.lookup_cons, eS, eConv, h, ei_str, q1, q2, show 48 ≤ byt b k by omega, show ¬ byt b k ≤ 57 by omega, show 57 < byt b k by omega, u1, u2, u3, u6, q3, hsi, hm, hmi]
            refine fin_pure (by simp) ?_
            simp -implicitDefEqProofs [fS, rn0, pickObs, deI]
          have hmi : ¬ (most : Int) < n := by omega
          rw [dgI_step hk' (by rw [hv]; exact hs) hm, hv] at hd
          have u4 : IntKind.i64.wrap ((n : Int) * 16) = (n : Int) * 16 := w64 (by omega) (by omega)
          have u5 : IntKind.i64.wrap ((n : Int) * 16 + v) = (n : Int) * 16 + v := w64 (by omega) (by omega)
          simp -implicitDefEqProofs [List.lookup_cons, eS, eConv, h, ei_str, q1, q2, show 48 ≤ byt b k by omega, show ¬ byt b k ≤ 57 by omega, show 57 < byt b k by omega, u1, u2, u3, u6, q3, hsi, hm, hmi, u4, u5]
          refine ⟨k + 1, by omega, n * 16 + v, by omega, hd, by omega, ?_⟩
          exact Wk.tl (by simp [hold, upd, tl_cons, w5])
        · rw [hd, dgI_bad hk' (by omega)]
          have hb99 : 16 ≤ (99 : Int) := by omega
          simp -implicitDefEqProofs [List.lookup_cons, eS, eConv, h, ei_str, show 48 ≤ byt b k by omega, show ¬ byt b k ≤ 57 by omega, show 97 ≤ byt b k by omega, show ¬ byt b k ≤ 102 by omega, show 57 < byt b k by omega, show 102 < byt b k by omega]
          refine fin_pure (by simp) ?_
          simp -implicitDefEqProofs [fS, rn0, pickObs, deI]
      · have e : k = b.size := by omega
        subst e
        rw [← bL_len] at hd
        rw [hd]
        by_cases hm : most < n
        · rw [dgI_over hm]
          have hmi : (most : Int) < n := by omega
          simp -implicitDefEqProofs [List.lookup_cons, eS, hm, hmi]
          refine fin_pure (by simp) ?_
          simp -implicitDefEqProofs [fS, rn0, pickObs, deI]
        · rw [dgI_end hm]
          have hmi : ¬ (most : Int) < n := by omega
          simp -implicitDefEqProofs [List.lookup_cons, eS, hm, hmi]
          refine fin_pure (by simp) ?_
          simp -implicitDefEqProofs [fS, rn0, pickObs, deI]
end Go.Proofs
