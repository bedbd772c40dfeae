/-
  What is proved here: contracts of the reading of a line of its own, of the program and of the reference. Condition: none.
-/
import Derived.Test.YtecpfgnkiifnpaaFR12k
import Derived.Test.YtecpfgnkiifnpaaFR13k
namespace Go.Proofs
open Go.Abs Go.Flat
set_option linter.unusedSimpArgs false
set_option linter.unnecessarySimpa false
set_option linter.unusedVariables false
set_option maxHeartbeats 8000000
set_option maxRecDepth 20000
def zAg (z : Nat) : X := .agg (List.replicate z (I 0))
def roX (z : Nat) : Option (List Int) → X × List Ob
  | none => (.tup [zAg z, B false], [])
  | some l => (.tup [.agg (l.map fun a => I a), B true], [])
theorem lgOk (nm : ByteArray → Bool) (w cmd : ByteArray) (ws gs : List ByteArray) (s : ByteArray) (h : splitB 32 s = w :: gs) : lnS nm s cmd ws = if w = cmd then (match lgR nm (specW ws) gs w.size [] with
    | .ok l => some l
    | .er _ _ => none) else none := by
  unfold lnS
  rw [h]
  rfl
theorem lnR_len (s cmd : ByteArray) (ws : List ByteArray) : (lnR s cmd ws).1.length = ws.length := by
  unfold lnR numbersR
  exact numsR_len _ _
theorem lgR_pos {nm : ByteArray → Bool} : ∀ {W gs : List ByteArray} {p : Int} {out : List Int} {k a : Int}, lgR nm W gs p out = .er k a → 0 < k
  | [], [], _, _, k, a, h => by simp [lgR] at h
  | [], _ :: _, _, _, k, a, h => by simp only [lgR] at h; injection h with h; omega
  | _ :: _, [], _, _, k, a, h => by simp only [lgR] at h; injection h with h; omega
  | w :: W, g :: gs, p, out, k, a, h => by
    simp only [lgR] at h
    split at h
    · injection h with h; omega
    · split at h
      · injection h with h; omega
      · split at h
        · exact lgR_pos h
        · split at h
          · injection h with h; omega
          · exact lgR_pos h
theorem fwL_five {l : List Int} (h : l.length = 5) : ∃ a0 a1 a2 a3 a4, l = [a0, a1, a2, a3, a4] := by
  match l, h with
  | [a0, a1, a2, a3, a4], _ => exact ⟨a0, a1, a2, a3, a4, rfl⟩
def F13 : Fun := ⟨fun xs => ∃ s, xs = [Sx s] ∧ s.size ≤ 1048576, fun xs => roX 5 (lnS nmF (deS (xs.getD 0 .top)) kwFilter fwL)⟩
theorem c13 : GenCA K Try.prog 13 F13 := by
  refine contractA Try.mix K [(25, F25), (26, F26), (27, F27)] [] (by simp [c25, c26, c27]) (by simp) Try.func13 rfl (by decide) ?_
  rintro xs ⟨s, rfl, hs⟩
  have hres : F13.res [Sx s] = roX 5 (lnS nmF s kwFilter fwL) := rfl
  rw [hres]
  refine ⟨by rw [Try.ntmps13]; simp, ?_⟩
  have p1 : F25.pre [.v (.string s), .v (.string ⟨#[102, 105, 108, 116, 101, 114]⟩), .sl (sR fwL)] := ⟨s, ⟨#[102, 105, 108, 116, 101, 114]⟩, fwL, rfl, hs, by decide, by decide, by decide, by decide⟩
  have q1 : F25.res [.v (.string s), .v (.string ⟨#[102, 105, 108, 116, 101, 114]⟩), .sl (sR fwL)] = _ := rl_res s ⟨#[102, 105, 108, 116, 101, 114]⟩ fwL
  have p2 : F26.pre [] := rfl
  have q2 : F26.res [] = (.sl (sR fwL), []) := rfl
  have S := ln_same nmF s kwFilter fwL (by decide) fw_ok
  rw [show lnR s ⟨#[102, 105, 108, 116, 101, 114]⟩ fwL = lnR s kwFilter fwL from rfl] at q1
  generalize lnS nmF s kwFilter fwL = o at S ⊢
  have hlen : (lnR s kwFilter fwL).1.length = 5 := (lnR_len _ _ _).trans rfl
  generalize lnR s kwFilter fwL = r at q1 S hlen
  obtain ⟨l, r⟩ := r
  dsimp only at q1 S hlen
  rcases S with ⟨rfl, h⟩ | ⟨l', rfl, h, rfl⟩
  · have hd : decide (r.fk = 0) = false := by simp [h]
    rw [hd] at q1
    simp -implicitDefEqProofs [Try.f13, List.lookup_cons, eS, Sx, p1, q1, p2, q2]
    refine fin_pure (by simp) ?_
    simp -implicitDefEqProofs [fS, rn0, pickObs, deI, roX, zAg]
  · have hd : decide (r.fk = 0) = true := by simp [h]
    rw [hd] at q1
    obtain ⟨a0, a1, a2, a3, a4, rfl⟩ := fwL_five hlen
    have p3 : F27.pre [.sl (iR [a0, a1, a2, a3, a4])] := ⟨a0, a1, a2, a3, a4, rfl⟩
    have q3 := wi_5 a0 a1 a2 a3 a4
    simp -implicitDefEqProofs [Try.f13, List.lookup_cons, eS, Sx, p1, q1, p2, q2, p3, q3]
    refine fin_pure (by simp) ?_
    simp -implicitDefEqProofs [fS, rn0, pickObs, deI, roX]
theorem c12 : GenCA K Try.prog 12 F13 := by
  refine contractA Try.mix K [(22, F22), (23, F23), (24, F27)] [] (by simp [c22, c23, c24]) (by simp) Try.func12 rfl (by decide) ?_
  rintro xs ⟨s, rfl, hs⟩
  have hres : F13.res [Sx s] = roX 5 (lnS nmF s kwFilter fwL) := rfl
  rw [hres]
  refine ⟨by rw [Try.ntmps12]; simp, ?_⟩
  have p1 : F22.pre [.v (.string s), .v (.int .u8 32)] := ⟨s, 32, rfl, hs⟩
  have q1 : F22.res [.v (.string s), .v (.int .u8 32)] = (.sl (sR (splitB 32 s)), []) := sp_res s 32
  have hsl := split_le 32 s
  cases hsp : splitB 32 s with
  | nil => exact absurd hsp (splitB_ne _ _)
  | cons w gs =>
    have hO := lgOk nmF w kwFilter fwL gs s hsp
    have hlen : ∀ l, lnS nmF s kwFilter fwL = some l → l.length = 5 := fun l h => lnS_len (by decide) fw_ok h
    rw [hsp] at q1 hsl
    by_cases hw : w = kwFilter
    · rw [if_pos hw] at hO
      subst hw
      have p2 : F23.pre [.sl (sR (⟨#[102, 105, 108, 116, 101, 114]⟩ :: gs)), I 0] := ⟨kwFilter, gs, 0, rfl, by first | exact trivial | exact Or.inr rfl | exact Or.inl rfl, by omega, by decide, by have := hsl.1; simp only [List.length_cons] at this; omega, fun g hg => by have := hsl.2 g (by simp [hg]); omega⟩
      have q2 : F23.res [.sl (sR (⟨#[102, 105, 108, 116, 101, 114]⟩ :: gs)), I 0] = rsX (lgR nmF (wordsW kwFilter) gs ((0 : Nat) + (kwFilter.size : Int)) []) := lgRead_res kwFilter gs 0
      rw [wordsW_filter, show (((0 : Nat) : Int) + (kwFilter.size : Int)) = (kwFilter.size : Int) by omega] at q2
      rw [show sR (kwFilter :: gs) = sR (⟨#[102, 105, 108, 116, 101, 114]⟩ :: gs) from rfl] at q1
      have hg0 : (sR (⟨#[102, 105, 108, 116, 101, 114]⟩ :: gs))[0]? = some [.v (.string ⟨#[102, 105, 108, 116, 101, 114]⟩)] := rfl
      have hln : (sR (⟨#[102, 105, 108, 116, 101, 114]⟩ :: gs)).length = gs.length + 1 := by simp [sR]
      have hgz : ∀ h : 0 < (sR (⟨#[102, 105, 108, 116, 101, 114]⟩ :: gs)).length, (sR (⟨#[102, 105, 108, 116, 101, 114]⟩ :: gs))[0] = [.v (.string ⟨#[102, 105, 108, 116, 101, 114]⟩)] := fun _ => rfl
      generalize sR (⟨#[102, 105, 108, 116, 101, 114]⟩ :: gs) = R at q1 p2 q2 hg0 hln hgz
      revert hO
      cases hr : lgR nmF (specW fwL) gs kwFilter.size [] with
      | er k a =>
        intro hO
        rw [hO]
        rw [hr] at q2
        simp only [rsX] at q2
        by_cases hk : 0 < k
        · simp -implicitDefEqProofs [Try.f12, List.lookup_cons, eS, Sx, p1, q1, hln, hg0, hgz, p2, q2, hk]
          refine fin_pure (by simp) ?_
          simp -implicitDefEqProofs [fS, rn0, pickObs, deI, roX, zAg]
        · exact absurd (lgR_pos hr) hk
      | ok l =>
        intro hO
        have hl := hlen l hO
        rw [hO]
        rw [hr] at q2
        simp only [rsX] at q2
        obtain ⟨a0, a1, a2, a3, a4, rfl⟩ := fwL_five hl
        have p3 : F27.pre [.sl (iR [a0, a1, a2, a3, a4])] := ⟨a0, a1, a2, a3, a4, rfl⟩
        have q3 := wi_5 a0 a1 a2 a3 a4
        simp -implicitDefEqProofs [Try.f12, List.lookup_cons, eS, Sx, p1, q1, hln, hg0, hgz, p2, q2, p3, q3]
        refine fin_pure (by simp) ?_
        simp -implicitDefEqProofs [fS, rn0, pickObs, deI, roX]
    · rw [if_neg hw] at hO
      rw [hO]
      have gw' : ¬ w.toList = [102, 105, 108, 116, 101, 114] := toL_ne hw
      simp -implicitDefEqProofs [Try.f12, List.lookup_cons, eS, Sx, p1, q1, sR_length, sR_get, sR_getE, gw']
      refine fin_pure (by simp) ?_
      simp -implicitDefEqProofs [fS, rn0, pickObs, deI, roX, zAg]
theorem cwL_five {l : List Int} (h : l.length = 8) : ∃ a0 a1 a2 a3 a4 a5 a6 a7, l = [a0, a1, a2, a3, a4, a5, a6, a7] := by
  match l, h with
  | [a0, a1, a2, a3, a4, a5, a6, a7], _ => exact ⟨a0, a1, a2, a3, a4, a5, a6, a7, rfl⟩
def F16 : Fun := ⟨fun xs => ∃ s, xs = [Sx s] ∧ s.size ≤ 1048576, fun xs => roX 8 (lnS nmF (deS (xs.getD 0 .top)) kwClass cwL)⟩
theorem c16 : GenCA K Try.prog 16 F16 := by
  refine contractA Try.mix K [(25, F25), (29, F29), (30, F30)] [] (by simp [c25, c29, c30]) (by simp) Try.func16 rfl (by decide) ?_
  rintro xs ⟨s, rfl, hs⟩
  have hres : F16.res [Sx s] = roX 8 (lnS nmF s kwClass cwL) := rfl
  rw [hres]
  refine ⟨by rw [Try.ntmps16]; simp, ?_⟩
  have p1 : F25.pre [.v (.string s), .v (.string ⟨#[99, 108, 97, 115, 115]⟩), .sl (sR cwL)] := ⟨s, ⟨#[99, 108, 97, 115, 115]⟩, cwL, rfl, hs, by decide, by decide, by decide, by decide⟩
  have q1 : F25.res [.v (.string s), .v (.string ⟨#[99, 108, 97, 115, 115]⟩), .sl (sR cwL)] = _ := rl_res s ⟨#[99, 108, 97, 115, 115]⟩ cwL
  have p2 : F29.pre [] := rfl
  have q2 : F29.res [] = (.sl (sR cwL), []) := rfl
  have S := ln_same nmF s kwClass cwL (by decide) cw_ok
  rw [show lnR s ⟨#[99, 108, 97, 115, 115]⟩ cwL = lnR s kwClass cwL from rfl] at q1
  generalize lnS nmF s kwClass cwL = o at S ⊢
  have hlen : (lnR s kwClass cwL).1.length = 8 := (lnR_len _ _ _).trans rfl
  generalize lnR s kwClass cwL = r at q1 S hlen
  obtain ⟨l, r⟩ := r
  dsimp only at q1 S hlen
  rcases S with ⟨rfl, h⟩ | ⟨l', rfl, h, rfl⟩
  · have hd : decide (r.fk = 0) = false := by simp [h]
    rw [hd] at q1
    simp -implicitDefEqProofs [Try.f16, List.lookup_cons, eS, Sx, p1, q1, p2, q2]
    refine fin_pure (by simp) ?_
    simp -implicitDefEqProofs [fS, rn0, pickObs, deI, roX, zAg]
  · have hd : decide (r.fk = 0) = true := by simp [h]
    rw [hd] at q1
    obtain ⟨a0, a1, a2, a3, a4, a5, a6, a7, rfl⟩ := cwL_five hlen
    have p3 : F30.pre [.sl (iR [a0, a1, a2, a3, a4, a5, a6, a7])] := ⟨a0, a1, a2, a3, a4, a5, a6, a7, rfl⟩
    have q3 := wi_8 a0 a1 a2 a3 a4 a5 a6 a7
    simp -implicitDefEqProofs [Try.f16, List.lookup_cons, eS, Sx, p1, q1, p2, q2, p3, q3]
    refine fin_pure (by simp) ?_
    simp -implicitDefEqProofs [fS, rn0, pickObs, deI, roX]
theorem c15 : GenCA K Try.prog 15 F16 := by
  refine contractA Try.mix K [(22, F22), (23, F23), (28, F30)] [] (by simp [c22, c23, c28]) (by simp) Try.func15 rfl (by decide) ?_
  rintro xs ⟨s, rfl, hs⟩
  have hres : F16.res [Sx s] = roX 8 (lnS nmF s kwClass cwL) := rfl
  rw [hres]
  refine ⟨by rw [Try.ntmps15]; simp, ?_⟩
  have p1 : F22.pre [.v (.string s), .v (.int .u8 32)] := ⟨s, 32, rfl, hs⟩
  have q1 : F22.res [.v (.string s), .v (.int .u8 32)] = (.sl (sR (splitB 32 s)), []) := sp_res s 32
  have hsl := split_le 32 s
  cases hsp : splitB 32 s with
  | nil => exact absurd hsp (splitB_ne _ _)
  | cons w gs =>
    have hO := lgOk nmF w kwClass cwL gs s hsp
    have hlen : ∀ l, lnS nmF s kwClass cwL = some l → l.length = 8 := fun l h => lnS_len (by decide) cw_ok h
    rw [hsp] at q1 hsl
    by_cases hw : w = kwClass
    · rw [if_pos hw] at hO
      subst hw
      have p2 : F23.pre [.sl (sR (⟨#[99, 108, 97, 115, 115]⟩ :: gs)), I 0] := ⟨kwClass, gs, 0, rfl, by first | exact trivial | exact Or.inr rfl | exact Or.inl rfl, by omega, by decide, by have := hsl.1; simp only [List.length_cons] at this; omega, fun g hg => by have := hsl.2 g (by simp [hg]); omega⟩
      have q2 : F23.res [.sl (sR (⟨#[99, 108, 97, 115, 115]⟩ :: gs)), I 0] = rsX (lgR nmF (wordsW kwClass) gs ((0 : Nat) + (kwClass.size : Int)) []) := lgRead_res kwClass gs 0
      rw [wordsW_class, show (((0 : Nat) : Int) + (kwClass.size : Int)) = (kwClass.size : Int) by omega] at q2
      rw [show sR (kwClass :: gs) = sR (⟨#[99, 108, 97, 115, 115]⟩ :: gs) from rfl] at q1
      have hg0 : (sR (⟨#[99, 108, 97, 115, 115]⟩ :: gs))[0]? = some [.v (.string ⟨#[99, 108, 97, 115, 115]⟩)] := rfl
      have hln : (sR (⟨#[99, 108, 97, 115, 115]⟩ :: gs)).length = gs.length + 1 := by simp [sR]
      have hgz : ∀ h : 0 < (sR (⟨#[99, 108, 97, 115, 115]⟩ :: gs)).length, (sR (⟨#[99, 108, 97, 115, 115]⟩ :: gs))[0] = [.v (.string ⟨#[99, 108, 97, 115, 115]⟩)] := fun _ => rfl
      generalize sR (⟨#[99, 108, 97, 115, 115]⟩ :: gs) = R at q1 p2 q2 hg0 hln hgz
      revert hO
      cases hr : lgR nmF (specW cwL) gs kwClass.size [] with
      | er k a =>
        intro hO
        rw [hO]
        rw [hr] at q2
        simp only [rsX] at q2
        by_cases hk : 0 < k
        · simp -implicitDefEqProofs [Try.f15, List.lookup_cons, eS, Sx, p1, q1, hln, hg0, hgz, p2, q2, hk]
          refine fin_pure (by simp) ?_
          simp -implicitDefEqProofs [fS, rn0, pickObs, deI, roX, zAg]
        · exact absurd (lgR_pos hr) hk
      | ok l =>
        intro hO
        have hl := hlen l hO
        rw [hO]
        rw [hr] at q2
        simp only [rsX] at q2
        obtain ⟨a0, a1, a2, a3, a4, a5, a6, a7, rfl⟩ := cwL_five hl
        have p3 : F30.pre [.sl (iR [a0, a1, a2, a3, a4, a5, a6, a7])] := ⟨a0, a1, a2, a3, a4, a5, a6, a7, rfl⟩
        have q3 := wi_8 a0 a1 a2 a3 a4 a5 a6 a7
        simp -implicitDefEqProofs [Try.f15, List.lookup_cons, eS, Sx, p1, q1, hln, hg0, hgz, p2, q2, p3, q3]
        refine fin_pure (by simp) ?_
        simp -implicitDefEqProofs [fS, rn0, pickObs, deI, roX]
    · rw [if_neg hw] at hO
      rw [hO]
      have gw' : ¬ w.toList = [99, 108, 97, 115, 115] := toL_ne hw
      simp -implicitDefEqProofs [Try.f15, List.lookup_cons, eS, Sx, p1, q1, sR_length, sR_get, sR_getE, gw']
      refine fin_pure (by simp) ?_
      simp -implicitDefEqProofs [fS, rn0, pickObs, deI, roX, zAg]
end Go.Proofs
