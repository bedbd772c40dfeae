/-
  What is proved here: the contract of the reference's AccountBelow, and of the law. Condition: none.
-/
import Derived.Test.YtglbimhhiikkpaaDoorAB2r
import Derived.Test.YtglbimhhiikkpaaDoorE5r
import Derived.Test.YtglbimhhiikkpaaDoorC11r
namespace Go.Proofs
open Go.Abs
set_option linter.unusedSimpArgs false
set_option linter.unnecessarySimpa false
set_option linter.unusedVariables false
set_option maxHeartbeats 8000000
set_option maxRecDepth 20000

def mixL (a b : List Int) (m : Nat) : List Int := addL (a.take m) (b.take m) ++ a.drop m
theorem c35 : GenCA K Tryd.prog 35 F36 := by
  refine contractA Tryd.mix K [(50, F53), (41, F72), (70, F70.pu), (71, F71)] [] (by simp [c50, c41, c70.pu, c71]) (by simp) Tryd.func35 rfl (by decide) ?_
  intro xs hxs
  obtain ⟨c, l, id, rfl, hp⟩ := F36_in hxs
  rw [F36_res]
  refine ⟨by rw [Tryd.ntmps35]; simp, ?_⟩
  obtain ⟨hok, hl⟩ := hp
  cases gf : fitB c l with
  | false =>
    simp -implicitDefEqProofs [Tryd.f35, F53, F72, F70, F71, List.lookup_cons, and_assoc, pick_and, pick_or, if_and, if_or, hok, hl, gf]
    refine fin_pure (by simp) ?_
    simp -implicitDefEqProofs [pur2_i, pur2_b, pur2_s, pur2_nil, pur2_sl, pur2_tup, rn2_tup, rn2_agg, rn2_osl, rn1_v, rn1_osl, rn1_agg, rn0_v, rn0_sl, rn0, pickObs, pur_v, pur_b, pur_s, pur_nil, pur_sl, deI, deIs_sl, belR, gf]
  | true =>
  have hfr := fidx_rng c.cls id
  by_cases h0 : fidx c.cls id < 0
  · have h0' : ¬ 0 ≤ fidx c.cls id := by omega
    simp -implicitDefEqProofs [Tryd.f35, F53, F72, F70, F71, List.lookup_cons, and_assoc, pick_and, pick_or, if_and, if_or, hok, hl, gf, h0, h0']
    refine fin_pure (by simp) ?_
    simp -implicitDefEqProofs [pur2_i, pur2_b, pur2_s, pur2_nil, pur2_sl, pur2_tup, rn2_tup, rn2_agg, rn2_osl, rn1_v, rn1_osl, rn1_agg, rn0_v, rn0_sl, rn0, pickObs, pur_v, pur_b, pur_s, pur_nil, pur_sl, deI, deIs_sl, belR, gf, h0']
  have h0' : 0 ≤ fidx c.cls id := by omega
  have hI : okI c (fidx c.cls id) := ⟨hok, h0', hfr.2⟩
  have hfit := gf
  simp only [fitB, Bool.and_eq_true] at hfit
  obtain ⟨⟨hg, he⟩, hfa⟩ := hfit
  obtain ⟨he1, he2⟩ := evsOk_all he
  have hsm := cfg_lim hg
  have T := tree_of (c := c) (by rw [← isCfg_eq]; exact hg)
  obtain ⟨i, hi⟩ := Int.eq_ofNat_of_zero_le h0'
  have hil : i < c.cls.length := by have := hfr.2; omega
  have hR : belR c l id = (.tup [.osl 0 0, B true], [iOb (acc4S l (belS c.cls (walk c.cls i)))]) := by
    rw [belR, gf, if_pos (by simp [h0']), hi, Int.toNat_natCast, acc4S_perm l (below_perm T hil)]
  rw [hR]
  have hbl : (belS c.cls (walk c.cls i)).length ≤ 24 := by
    unfold belS
    rw [List.length_map]
    have h1 := List.length_filter_le (leafB c.cls) (walk c.cls i)
    have h2 := walk_len T hil
    omega
  have hI' : okI c (i : Int) := by rw [← hi]; exact hI
  have hi0 : ¬ (i : Int) < 0 := by omega
  simp -implicitDefEqProofs [Tryd.f35, List.lookup_cons, and_assoc, pick_and, pick_or, if_and, if_or, F53, F72, hok, hl, gf, hi, hi0, eMake]
  refine drawP_all _ (by decide) ?_
  simp -implicitDefEqProofs [List.lookup_cons, and_assoc, pick_and, pick_or, if_and, if_or, F72, F70, hok, hi, hI', hg, cBx, iOb, Fun.pu]
  generalize belS c.cls (walk c.cls i) = ks at hbl
  refine loopP_inv (fun k : Nat => ⟨53, tl [(1, .sl (tR l)), (8, .osl 1 0), (28, .sl (iR ks)), (29, I ks.length), (30, I k)], [cBx c, iOb (acc4S l (ks.take k))]⟩) (fun k => k ≤ ks.length) (fun k => ks.length - k) 0 (Nat.zero_le _) (Wk.tl (by simp [hold, upd, tl_cons])) ?_
  intro k hk
  by_cases h : k < ks.length
  · have hw1 := w64n (show k < 4611686018427387904 by omega)
    have hS : acc4S l (ks.take (k + 1)) = addL (acc4S l (ks.take k)) (acc4 l ks[k]) := by rw [takeS ks k h, acc4S_snoc]
    have hsl : smallL (acc4S l (ks.take k)) := acc4S_small l _ he1 he2 (by simp; omega)
    have hb1 := sk_nn l ks[k] 1 he2
    have hb2 := sk_nn l ks[k] 2 he2
    have hb4 := sk_nn l ks[k] 4 he2
    have hsb : smallL (acc4 l ks[k]) := by simp [smallL, acc4]; omega
    obtain ⟨a0, a1, a2, a3, hA⟩ : ∃ a0 a1 a2 a3, acc4S l (ks.take k) = [a0, a1, a2, a3] := ⟨_, _, _, _, rfl⟩
    obtain ⟨b0, b1, b2, b3, hB⟩ : ∃ b0 b1 b2 b3, acc4 l ks[k] = [b0, b1, b2, b3] := ⟨_, _, _, _, rfl⟩
    rw [hA, hB] at hS
    rw [hA] at hsl ⊢
    rw [hB] at hsb
    simp [smallL] at hsl hsb
    simp -implicitDefEqProofs [List.lookup_cons, and_assoc, pick_and, pick_or, if_and, if_or, h, F71, he1, hB, cBx, iOb]
    refine ⟨he2, ?_⟩
    refine loopP_inv (fun m : Nat => ⟨53, tl [(1, .sl (tR l)), (8, .osl 1 0), (28, .sl (iR ks)), (29, I ks.length), (30, I k), (36, .osl 2 0), (37, I 4), (38, I m)], [cBx c, iOb (mixL [a0, a1, a2, a3] [b0, b1, b2, b3] m), iOb [b0, b1, b2, b3]]⟩) (fun m => m ≤ 4) (fun m => 4 - m) 0 (Nat.zero_le _) ?_ ?_
    · rw [show mixL [a0, a1, a2, a3] [b0, b1, b2, b3] 0 = [a0, a1, a2, a3] from rfl]
      exact Wk.tl (by simp [hold, upd, tl_cons])
    intro m hm
    by_cases h4 : m < 4
    · have w0 : IntKind.i64.wrap (a0 + b0) = a0 + b0 := w64 (by omega) (by omega)
      have w1 : IntKind.i64.wrap (a1 + b1) = a1 + b1 := w64 (by omega) (by omega)
      have w2 : IntKind.i64.wrap (a2 + b2) = a2 + b2 := w64 (by omega) (by omega)
      have w3 : IntKind.i64.wrap (a3 + b3) = a3 + b3 := w64 (by omega) (by omega)
      obtain rfl | rfl | rfl | rfl : m = 0 ∨ m = 1 ∨ m = 2 ∨ m = 3 := by omega
      · rw [show mixL [a0, a1, a2, a3] [b0, b1, b2, b3] 0 = [a0, a1, a2, a3] from rfl]
        simp -implicitDefEqProofs [List.lookup_cons, and_assoc, pick_and, pick_or, if_and, if_or, cBx, iOb, iR_cons, iR_nil, w0]
        refine ⟨1, by omega, by omega, ?_⟩
        rw [show mixL [a0, a1, a2, a3] [b0, b1, b2, b3] 1 = [a0 + b0, a1, a2, a3] from rfl]
        exact Wk.tl (by simp [hold, upd, tl_cons, show IntKind.i64.wrap 1 = 1 from rfl, show IntKind.i64.wrap 2 = 2 from rfl, show IntKind.i64.wrap 3 = 3 from rfl, show IntKind.i64.wrap 4 = 4 from rfl])
      · rw [show mixL [a0, a1, a2, a3] [b0, b1, b2, b3] 1 = [a0 + b0, a1, a2, a3] from rfl]
        simp -implicitDefEqProofs [List.lookup_cons, and_assoc, pick_and, pick_or, if_and, if_or, cBx, iOb, iR_cons, iR_nil, w1]
        refine ⟨2, by omega, by omega, ?_⟩
        rw [show mixL [a0, a1, a2, a3] [b0, b1, b2, b3] 2 = [a0 + b0, a1 + b1, a2, a3] from rfl]
        exact Wk.tl (by simp [hold, upd, tl_cons, show IntKind.i64.wrap 1 = 1 from rfl, show IntKind.i64.wrap 2 = 2 from rfl, show IntKind.i64.wrap 3 = 3 from rfl, show IntKind.i64.wrap 4 = 4 from rfl])
      · rw [show mixL [a0, a1, a2, a3] [b0, b1, b2, b3] 2 = [a0 + b0, a1 + b1, a2, a3] from rfl]
        simp -implicitDefEqProofs [List.lookup_cons, and_assoc, pick_and, pick_or, if_and, if_or, cBx, iOb, iR_cons, iR_nil, w2]
        refine ⟨3, by omega, by omega, ?_⟩
        rw [show mixL [a0, a1, a2, a3] [b0, b1, b2, b3] 3 = [a0 + b0, a1 + b1, a2 + b2, a3] from rfl]
        exact Wk.tl (by simp [hold, upd, tl_cons, show IntKind.i64.wrap 1 = 1 from rfl, show IntKind.i64.wrap 2 = 2 from rfl, show IntKind.i64.wrap 3 = 3 from rfl, show IntKind.i64.wrap 4 = 4 from rfl])
      · rw [show mixL [a0, a1, a2, a3] [b0, b1, b2, b3] 3 = [a0 + b0, a1 + b1, a2 + b2, a3] from rfl]
        simp -implicitDefEqProofs [List.lookup_cons, and_assoc, pick_and, pick_or, if_and, if_or, cBx, iOb, iR_cons, iR_nil, w3]
        refine ⟨4, by omega, by omega, ?_⟩
        rw [show mixL [a0, a1, a2, a3] [b0, b1, b2, b3] 4 = [a0 + b0, a1 + b1, a2 + b2, a3 + b3] from rfl]
        exact Wk.tl (by simp [hold, upd, tl_cons, show IntKind.i64.wrap 1 = 1 from rfl, show IntKind.i64.wrap 2 = 2 from rfl, show IntKind.i64.wrap 3 = 3 from rfl, show IntKind.i64.wrap 4 = 4 from rfl])
    · have e : m = 4 := by omega
      subst e
      have hM : mixL [a0, a1, a2, a3] [b0, b1, b2, b3] 4 = acc4S l (ks.take (k + 1)) := by rw [hS]; simp [mixL]
      rw [hM]
      simp -implicitDefEqProofs [List.lookup_cons, and_assoc, pick_and, pick_or, if_and, if_or, cBx, iOb]
      refine ⟨k + 1, by omega, by omega, ?_⟩
      exact Wk.tlD (m := 2) rfl (by simp [hold, upd, tl_cons, hw1]) (by simp [okL_cons, okL_nil, ok1, ok0]) (okH_cBx _ _ _ (okH_iR _ _ _ _ _ _ _ _ _ (by simp [okH_nil])))
  · have e : k = ks.length := by omega
    subst e
    rw [List.take_length]
    simp -implicitDefEqProofs [List.lookup_cons, and_assoc, pick_and, pick_or, if_and, if_or, iOb, cBx]
    refine fin_own [1] (by simp [pickOk, -List.all_eq_true, iR_ok]) ?_
    simp -implicitDefEqProofs [pur2_i, pur2_b, pur2_s, pur2_nil, pur2_sl, pur2_tup, rn2_tup, rn2_agg, rn2_osl, rn1_v, rn1_osl, rn1_agg, rn0_v, rn0_sl, rn0, pickObs, pur_v, pur_b, pur_s, pur_nil, pur_sl, deI, deIs_sl, iOb]
end Go.Proofs
