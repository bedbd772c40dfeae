/-
  What is proved here: contracts of the readers of one digit, and of the search for a byte. Condition: none.
-/
import Derived.Test.YtecpfgnkiifnpaaKXYtecpfgnkiifnpaa
import Derived.Test.YtecpfgnkiifnpaaAbsF
import Derived.Test.YtecpfgnkiifnpaaLIk
import Derived.Test.YtecpfgnkiifnpaaFP2
import Derived.Test.YtecpfgnkiifnpaaAbsG
import Derived.Test.YtecpfgnkiifnpaaSIYtecpfgnkiifnpaa
namespace Go.Proofs
open Go.Abs Go.Flat
set_option linter.unusedSimpArgs false
set_option linter.unnecessarySimpa false
set_option linter.unusedVariables false
set_option maxHeartbeats 8000000
set_option maxRecDepth 20000
theorem toL (b : ByteArray) : b.toList = bL b := ByteArray.toList_eq b
theorem toL_inj {a b : ByteArray} : a.toList = b.toList ↔ a = b := ⟨fun h => bL_inj (by rw [← toL, ← toL, h]), fun h => by rw [h]⟩
theorem byt_at {b : ByteArray} {k : Nat} (h : k < (bL b).length) : byt b k = ((bL b)[k].toNat : Int) := by
  show (((bL b).getD k 0).toNat : Int) = _
  rw [List.getD_eq_getElem?_getD, List.getElem?_eq_getElem h, Option.getD_some]
theorem byt_rng (b : ByteArray) (k : Nat) : 0 ≤ byt b k ∧ byt b k ≤ 255 := by
  have := ((bL b).getD k 0).toNat_lt
  have e : byt b k = (((bL b).getD k 0).toNat : Int) := rfl
  rw [e]
  omega
def hexI (x : Int) : Int := if 48 ≤ x ∧ x ≤ 57 then x - 48 else if 97 ≤ x ∧ x ≤ 102 then x - 97 + 10 else -1
def decB2 (x : Int) : Bool := decide (48 ≤ x) && decide (x ≤ 57)
def F65 : Fun := ⟨fun xs => ∃ x, xs = [.v (.int .u8 x)], fun xs => (B (decB2 (deU (xs.getD 0 .top))), [])⟩
theorem c65 : GenCA K Try.prog 65 F65 := by
  refine contractA Try.mix K [] [] (by simp) (by simp) Try.func65 rfl (by decide) ?_
  rintro xs ⟨x, rfl⟩
  refine ⟨by rw [Try.ntmps65]; simp, ?_⟩
  simp -implicitDefEqProofs [Try.f65, List.lookup_cons, eS]
  refine fin_pure (by simp) ?_
  simp -implicitDefEqProofs [fS, rn0, pickObs, deI, F65, decB2, deU]
def F64 : Fun := ⟨fun xs => ∃ x, xs = [.v (.int .u8 x)] ∧ 0 ≤ x ∧ x ≤ 255, fun xs => (I (hexI (deU (xs.getD 0 .top))), [])⟩
theorem c64 : GenCA K Try.prog 64 F64 := by
  refine contractA Try.mix K [(65, F65)] [] (by simp [c65]) (by simp) Try.func64 rfl (by decide) ?_
  rintro xs ⟨x, rfl, h0, h1⟩
  have hr : F64.res [.v (.int .u8 x)] = (I (hexI x), []) := rfl
  rw [hr]
  refine ⟨by rw [Try.ntmps64]; simp, ?_⟩
  by_cases a : 48 ≤ x ∧ x ≤ 57
  · have e : hexI x = x - 48 := by unfold hexI; rw [if_pos a]
    have w1 : IntKind.u8.wrap (x - 48) = x - 48 := by rw [IntKind.wrap_u8]; omega
    have w2 : IntKind.i64.wrap (x - 48) = x - 48 := w64 (by omega) (by omega)
    rw [e]
    simp -implicitDefEqProofs [Try.f64, F65, List.lookup_cons, eS, eConv, deU, decB2, a.1, a.2, w1, w2]
    refine fin_pure (by simp) ?_
    simp -implicitDefEqProofs [fS, rn0, pickObs, deI]
  · have hd : decB2 x = false := by unfold decB2; rw [Bool.eq_false_iff]; simp; omega
    by_cases b : 97 ≤ x ∧ x ≤ 102
    · have e : hexI x = x - 97 + 10 := by unfold hexI; rw [if_neg a, if_pos b]
      have w1 : IntKind.u8.wrap (x - 97) = x - 97 := by rw [IntKind.wrap_u8]; omega
      have w2 : IntKind.i64.wrap (x - 97) = x - 97 := w64 (by omega) (by omega)
      have w3 : IntKind.i64.wrap (x - 97 + 10) = x - 97 + 10 := w64 (by omega) (by omega)
      rw [e]
      simp -implicitDefEqProofs [Try.f64, F65, List.lookup_cons, eS, eConv, deU, hd, b.1, b.2, w1, w2, w3]
      refine fin_pure (by simp) ?_
      simp -implicitDefEqProofs [fS, rn0, pickObs, deI]
    · have e : hexI x = -1 := by unfold hexI; rw [if_neg a, if_neg b]
      rw [e]
      by_cases c : 97 ≤ x
      · have c2 : ¬ x ≤ 102 := by omega
        have c3 : 102 < x := by omega
        simp -implicitDefEqProofs [Try.f64, F65, List.lookup_cons, eS, eConv, deU, hd, c, c2, c3]
        refine fin_pure (by simp) ?_
        simp -implicitDefEqProofs [fS, rn0, pickObs, deI]
      · have c3 : x < 97 := by omega
        simp -implicitDefEqProofs [Try.f64, F65, List.lookup_cons, eS, eConv, deU, hd, c, c3]
        refine fin_pure (by simp) ?_
        simp -implicitDefEqProofs [fS, rn0, pickObs, deI]
/-! ### the search for a byte -/
theorem genIx {A : List (Nat × List X)} {P : Program} {f : Nat} {F : Fun} (he : ∀ args w, (callFunc f args).run P w = .ok (.enter f args) w)
    (hc : ∀ (s : ByteArray) (c : Int) (w : World), Calls P f #[.string s, .int .u8 c] w fun e w' => e = .returned (.int .i64 (Lib.indexByte s.data.toList c.toNat.toUInt8)) ∧ w' = w)
    (hF : ∀ xs, F.pre xs → ∃ (s : ByteArray) (c : Int), xs = [.v (.string s), .v (.int .u8 c)] ∧ F.res xs = (I (Lib.indexByte (bL s) c.toNat.toUInt8), [])) : GenCA A P f F := by
  refine ⟨he, fun w S vs xs hpre hl hr hS hA => ?_⟩
  obtain ⟨s, c, rfl, hres⟩ := hF xs hpre
  obtain ⟨v, u, rfl⟩ : ∃ v u, vs = #[v, u] := by
    obtain ⟨l⟩ := vs
    match l, hl with
    | [v, u], _ => exact ⟨v, u, rfl⟩
  have hv := (hr 0 _ v rfl rfl).inv_v.1
  have hu := (hr 1 _ u rfl rfl).inv_v.1
  subst hv hu
  rw [hres]
  refine (hc s c w).mono ?_
  rintro e w' ⟨rfl, rfl⟩
  exact ⟨_, Pl.none, rfl, hrel_new hS hA (⟨rfl, rfl, rfl, Nat.le_refl _, fun _ _ => rfl⟩), by simp, .v _ rfl⟩
def FIx1 : Fun := ⟨fun xs => ∃ (s : ByteArray) (c : Int), xs = [.v (.string s), .v (.int .u8 c)], fun xs => (I (Lib.indexByte (bL (deS (xs.getD 0 .top))) (deU (xs.getD 1 .top)).toNat.toUInt8), [])⟩
theorem cIx0 : GenCA K Try.prog 59 FIx1 :=
  genIx (callFunc_enter Try.func59 rfl rfl) (fun s c w => Any.stringslite_IndexByte Try.laysIxb s c w) fun xs hxs => by
    obtain ⟨s, c, rfl⟩ := hxs
    exact ⟨s, c, rfl, rfl⟩
theorem cIx1 : GenCA K Try.prog 51 FIx1 := by
  refine contractA Try.mix K [(59, FIx1)] [] (by simp [cIx0]) (by simp) Try.func51 rfl (by decide) ?_
  rintro xs ⟨s, c, rfl⟩
  refine ⟨by rw [Try.ntmps51]; simp, ?_⟩
  simp -implicitDefEqProofs [Try.f51, FIx1, List.lookup_cons, eS, deU]
  refine fin_pure (by simp) ?_
  simp -implicitDefEqProofs [fS, rn0, pickObs, deI, deU]
end Go.Proofs
