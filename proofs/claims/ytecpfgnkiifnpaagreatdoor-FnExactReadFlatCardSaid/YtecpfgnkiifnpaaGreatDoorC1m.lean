/-
  What is proved here: contracts of the checks of one class and of one filter, and of the library's searches by a predicate. Condition: none.
-/
import Derived.Test.YtecpfgnkiifnpaaGreatDoorC0m
namespace Go.Proofs
open Go.Abs
set_option linter.unusedSimpArgs false
set_option linter.unnecessarySimpa false
set_option linter.unusedVariables false
set_option maxHeartbeats 4000000
set_option maxRecDepth 20000
def F99 : Fun := ⟨fun xs => xs = [.agg (rX (deA (xs.getD 0 .top) : Cls))] ∧ (fun (x : Cls) => (True)) (deA (xs.getD 0 .top) : Cls), fun xs => (fun (x : Cls) => ((B x.rateOk, []) : X × List Ob)) (deA (xs.getD 0 .top) : Cls)⟩
theorem F99_in {xs : List X} (h : F99.pre xs) : ∃ (x : Cls), xs = [.agg (rX x)] ∧ (True) := ⟨_, h.1, h.2⟩
theorem F99_res (x : Cls) : F99.res [.agg (rX x)] = (B x.rateOk, []) := by simp [F99]
theorem F99_mk (x : Cls) (h : True) : F99.pre [.agg (rX x)] := by simpa [F99] using h
theorem c99 : GenCA K Tryz.prog 99 F99 := by
  refine contractA Tryz.mix K [] [] (by simp) (by simp) Tryz.func99 rfl (by decide) ?_
  intro xs hxs
  obtain ⟨x, rfl, hp⟩ := F99_in hxs
  rw [F99_res]
  refine ⟨by rw [Tryz.ntmps99]; simp, ?_⟩
  simp -implicitDefEqProofs [Tryz.f99, List.lookup_cons, eS]
  refine fin_pure (by simp) ?_
  simp -implicitDefEqProofs [fS, rn0, pickObs, deI, Cls.rateOk, rng, Bool.and_assoc]
def F103 : Fun := ⟨fun xs => xs = [.agg (rX (deA (xs.getD 0 .top) : Cls))] ∧ (fun (x : Cls) => (True)) (deA (xs.getD 0 .top) : Cls), fun xs => (fun (x : Cls) => ((B x.burstOk, []) : X × List Ob)) (deA (xs.getD 0 .top) : Cls)⟩
theorem F103_in {xs : List X} (h : F103.pre xs) : ∃ (x : Cls), xs = [.agg (rX x)] ∧ (True) := ⟨_, h.1, h.2⟩
theorem F103_res (x : Cls) : F103.res [.agg (rX x)] = (B x.burstOk, []) := by simp [F103]
theorem F103_mk (x : Cls) (h : True) : F103.pre [.agg (rX x)] := by simpa [F103] using h
theorem c103 : GenCA K Tryz.prog 103 F103 := by
  refine contractA Tryz.mix K [] [] (by simp) (by simp) Tryz.func103 rfl (by decide) ?_
  intro xs hxs
  obtain ⟨x, rfl, hp⟩ := F103_in hxs
  rw [F103_res]
  refine ⟨by rw [Tryz.ntmps103]; simp, ?_⟩
  simp -implicitDefEqProofs [Tryz.f103, List.lookup_cons, eS]
  refine fin_pure (by simp) ?_
  simp -implicitDefEqProofs [fS, rn0, pickObs, deI, Cls.burstOk, rng, Bool.and_assoc]
def F52 : Fun := ⟨fun xs => xs = [.agg (rX (deA (xs.getD 0 .top) : Cls))] ∧ (fun (x : Cls) => (True)) (deA (xs.getD 0 .top) : Cls), fun xs => (fun (x : Cls) => ((B x.ok, []) : X × List Ob)) (deA (xs.getD 0 .top) : Cls)⟩
theorem F52_in {xs : List X} (h : F52.pre xs) : ∃ (x : Cls), xs = [.agg (rX x)] ∧ (True) := ⟨_, h.1, h.2⟩
theorem F52_res (x : Cls) : F52.res [.agg (rX x)] = (B x.ok, []) := by simp [F52]
theorem F52_mk (x : Cls) (h : True) : F52.pre [.agg (rX x)] := by simpa [F52] using h
theorem c52 : GenCA K Tryz.prog 52 F52 := by
  refine contractA Tryz.mix K [(29, F29)] [] (by simp [c29]) (by simp) Tryz.func52 rfl (by decide) ?_
  intro xs hxs
  obtain ⟨x, rfl, hp⟩ := F52_in hxs
  rw [F52_res]
  refine ⟨by rw [Tryz.ntmps52]; simp, ?_⟩
  simp -implicitDefEqProofs [Tryz.f52, F29, List.lookup_cons, eS]
  refine fin_pure (by simp) ?_
  simp -implicitDefEqProofs [fS, rn0, pickObs, deI, Cls.ok, Cls.rateOk, Cls.burstOk, Bool.and_assoc]
def F56 : Fun := ⟨fun xs => xs = [.agg (rX (deA (xs.getD 0 .top) : Fil))] ∧ (fun (x : Fil) => (True)) (deA (xs.getD 0 .top) : Fil), fun xs => (fun (x : Fil) => ((B x.ok, []) : X × List Ob)) (deA (xs.getD 0 .top) : Fil)⟩
theorem F56_in {xs : List X} (h : F56.pre xs) : ∃ (x : Fil), xs = [.agg (rX x)] ∧ (True) := ⟨_, h.1, h.2⟩
theorem F56_res (x : Fil) : F56.res [.agg (rX x)] = (B x.ok, []) := by simp [F56]
theorem F56_mk (x : Fil) (h : True) : F56.pre [.agg (rX x)] := by simpa [F56] using h
theorem c56 : GenCA K Tryz.prog 56 F56 := by
  refine contractA Tryz.mix K [(29, F29)] [] (by simp [c29]) (by simp) Tryz.func56 rfl (by decide) ?_
  intro xs hxs
  obtain ⟨x, rfl, hp⟩ := F56_in hxs
  rw [F56_res]
  refine ⟨by rw [Tryz.ntmps56]; simp, ?_⟩
  have em : IntKind.i64.wrap (BitVec.ofInt IntKind.i64.bits x.value &&& BitVec.ofInt IntKind.i64.bits x.mask).toNat = mskd x.value x.mask := rfl
  simp -implicitDefEqProofs [Tryz.f56, F29, List.lookup_cons, eS, em, -BitVec.toNat_and]
  refine fin_pure (by simp) ?_
  simp -implicitDefEqProofs [fS, rn0, pickObs, deI, Fil.ok, Bool.and_assoc]
theorem and_bits (V M : BitVec 64) : V &&& ~~~M = 0#64 ↔ V &&& M = V := by
  constructor
  · intro h
    apply BitVec.eq_of_getElem_eq
    intro i hi
    have := congrArg (fun (z : BitVec 64) => z[i]) h
    simp at this
    simp
    exact this
  · intro h
    apply BitVec.eq_of_getElem_eq
    intro i hi
    have := congrArg (fun (z : BitVec 64) => z[i]) h
    simp at this
    simp
    exact this
theorem wrap0 (n : Nat) (h : n < 18446744073709551616) : (IntKind.i64.wrap (n : Int) = 0) ↔ n = 0 := by
  rw [IntKind.wrap_i64]; omega
theorem mask_eq (v m : Int) (h0 : 0 ≤ v) (h1 : v ≤ 65535) : (cut_ v m == 0) = (mskd v m == v) := by
  have hV : (BitVec.ofInt 64 v).toNat = v.toNat := by
    rw [BitVec.toNat_ofInt]; omega
  have hle : (BitVec.ofInt 64 v &&& BitVec.ofInt 64 m).toNat ≤ v.toNat := by
    rw [BitVec.toNat_and, hV]; exact Nat.and_le_left
  have e1 : cut_ v m = 0 ↔ BitVec.ofInt 64 v &&& ~~~BitVec.ofInt 64 m = 0#64 := by
    unfold cut_
    rw [wrap0 _ (BitVec.isLt _)]
    constructor
    · intro h; exact BitVec.eq_of_toNat_eq (by simpa using h)
    · intro h; rw [h]; rfl
  have e2 : mskd v m = v ↔ BitVec.ofInt 64 v &&& BitVec.ofInt 64 m = BitVec.ofInt 64 v := by
    unfold mskd
    rw [w64 (by omega) (by omega)]
    constructor
    · intro h; exact BitVec.eq_of_toNat_eq (by rw [hV]; omega)
    · intro h; rw [h, hV]; omega
  rw [Bool.eq_iff_iff]
  simp only [beq_iff_eq]
  rw [e1, e2, and_bits]
def F128 : Fun := ⟨fun xs => xs = [.agg (rX (deA (xs.getD 0 .top) : Fil))] ∧ (fun (x : Fil) => (True)) (deA (xs.getD 0 .top) : Fil), fun xs => (fun (x : Fil) => ((B x.ok, []) : X × List Ob)) (deA (xs.getD 0 .top) : Fil)⟩
theorem F128_in {xs : List X} (h : F128.pre xs) : ∃ (x : Fil), xs = [.agg (rX x)] ∧ (True) := ⟨_, h.1, h.2⟩
theorem F128_res (x : Fil) : F128.res [.agg (rX x)] = (B x.ok, []) := by simp [F128]
theorem F128_mk (x : Fil) (h : True) : F128.pre [.agg (rX x)] := by simpa [F128] using h
theorem c128 : GenCA K Tryz.prog 128 F128 := by
  refine contractA Tryz.mix K [] [] (by simp) (by simp) Tryz.func128 rfl (by decide) ?_
  intro xs hxs
  obtain ⟨x, rfl, hp⟩ := F128_in hxs
  rw [F128_res]
  refine ⟨by rw [Tryz.ntmps128]; simp, ?_⟩
  have em : IntKind.i64.wrap (BitVec.ofInt IntKind.i64.bits x.value &&& ~~~BitVec.ofInt IntKind.i64.bits x.mask).toNat = cut_ x.value x.mask := rfl
  simp -implicitDefEqProofs [Tryz.f128, List.lookup_cons, eS, em, -BitVec.toNat_and]
  refine fin_pure (by simp) ?_
  by_cases h : 0 ≤ x.value ∧ x.value ≤ 65535
  · simp -implicitDefEqProofs [fS, rn0, pickObs, deI, Fil.ok, rng, Bool.and_assoc, ← mask_eq x.value x.mask h.1 h.2]
  · have e1 : rng 0 65535 x.value = false := by simp [rng]; omega
    simp -implicitDefEqProofs [fS, rn0, pickObs, deI, Fil.ok, e1]
    intro _ _ _ _ _ _ h1 h2
    omega
/-! ### searches by a predicate: the predicate is a function value with what it holds -/
def capsOf : X → List X
  | .fn _ c => c
  | _ => []
@[simp] theorem capsOf_fn (g : Nat) (c : List X) : capsOf (.fn g c) = c := rfl
def idxB {α : Type} (p : α → Bool) (l : List α) : Int := match l.findIdx? p with | some i => (i : Int) | none => -1
theorem idxB_found {α : Type} (p : α → Bool) (l : List α) (k : Nat) (h : k < l.length) (h1 : (l.take k).all (fun x => !p x) = true) (h2 : p l[k] = true) : idxB p l = (k : Int) := by
  have : l.findIdx? p = some k := by
    rw [List.findIdx?_eq_some_iff_getElem]
    refine ⟨h, h2, fun j hj => ?_⟩
    rw [List.all_eq_true] at h1
    have := h1 l[j] (List.mem_take_iff_getElem.2 ⟨j, by omega, rfl⟩)
    simpa using this
  simp [idxB, this]
theorem idxB_none {α : Type} (p : α → Bool) (l : List α) (h1 : l.all (fun x => !p x) = true) : idxB p l = -1 := by
  have : l.findIdx? p = none := by
    rw [List.findIdx?_eq_none_iff]
    intro x hx
    rw [List.all_eq_true] at h1
    simpa using h1 x hx
  simp [idxB, this]
theorem idxB_any {α : Type} (p : α → Bool) (l : List α) : decide (0 ≤ idxB p l) = l.any p := by
  rw [Bool.eq_iff_iff, List.any_eq_true, decide_eq_true_eq]
  unfold idxB
  cases h : l.findIdx? p with
  | none =>
    rw [List.findIdx?_eq_none_iff] at h
    simp
    intro x hx
    have := h x hx
    simpa using this
  | some i =>
    obtain ⟨hi, hp, _⟩ := List.findIdx?_eq_some_iff_getElem.1 h
    simp
    exact ⟨_, List.getElem_mem hi, hp⟩
theorem all_stepG {α : Type} (l : List α) (p : α → Bool) (k : Nat) (h : k < l.length) (h1 : (l.take k).all p = true) (h2 : p l[k] = true) : (l.take (k + 1)).all p = true := by
  rw [takeS l k h, List.all_append, h1]; simp [h2]
/-- a predicate: its argument, then what it holds -/
def FPr {α : Type} [Rw α] (cp : List X → Prop) (p : List X → α → Bool) : Fun := ⟨fun xs => xs = .agg (rX (deA (xs.getD 0 .top) : α)) :: xs.tail ∧ cp xs.tail, fun xs => (B (p xs.tail (deA (xs.getD 0 .top))), [])⟩
def FIx {α : Type} [Rw α] (g : Nat) (cp : List X → Prop) (p : List X → α → Bool) : Fun :=
  ⟨fun xs => xs = [.sl (tR (deT (xs.getD 0 .top) : List α)), .fn g (capsOf (xs.getD 1 .top))] ∧ cp (capsOf (xs.getD 1 .top)) ∧ (deT (xs.getD 0 .top) : List α).length ≤ 1048576, fun xs => (I (idxB (p (capsOf (xs.getD 1 .top))) (deT (xs.getD 0 .top))), [])⟩
def FCt {α : Type} [Rw α] (g : Nat) (cp : List X → Prop) (p : List X → α → Bool) : Fun :=
  ⟨(FIx g cp p).pre, fun xs => (B ((deT (xs.getD 0 .top)).any (p (capsOf (xs.getD 1 .top)))), [])⟩
theorem cIxCls (g : Nat) (cp : List X → Prop) (p : List X → Cls → Bool) (hpu : ∀ c, cp c → c.all isP0 = true ∧ ∀ n, c.map (purN [] n) = c) (hg : GenCA K Tryz.prog g (FPr cp p)) : GenCA K Tryz.prog 124 (FIx g cp p) := by
  refine contractA Tryz.mix K [(g, FPr cp p)] [] (by simp [hg]) (by simp) Tryz.func124 rfl (by decide) ?_
  intro xs hxs
  obtain ⟨l, cs, rfl, hcp, hl⟩ : ∃ (l : List Cls) (cs : List X), xs = [.sl (tR l), .fn g cs] ∧ cp cs ∧ l.length ≤ 1048576 := ⟨_, _, hxs.1, hxs.2.1, hxs.2.2⟩
  have hres : (FIx g cp p).res [.sl (tR l), .fn g cs] = (I (idxB (p cs) l), []) := by simp [FIx]
  rw [hres]
  refine ⟨by rw [Tryz.ntmps124]; simp, ?_⟩
  obtain ⟨hpc, hpm⟩ := hpu cs hcp
  have hpf : ∀ x ∈ cs, isP0 x = true := List.all_eq_true.1 hpc
  simp -implicitDefEqProofs [Tryz.f124, List.lookup_cons, eS]
  refine loopP_inv (fun k : Nat => ⟨19, tl [(0, .sl (tR l)), (1, .fn g cs), (7, I l.length), (8, I k)], []⟩) (fun k => k ≤ l.length ∧ (l.take k).all (fun x => !p cs x) = true) (fun k => l.length - k) 0 (by simp) (Wk.tl (by simp [hold, upd, tl_cons])) ?_
  rintro k ⟨hk, ha⟩
  by_cases h : k < l.length
  · have hw1 := w64n (show k < 4611686018427387904 by omega)
    cases hr : p cs l[k] with
    | true =>
      have hf := idxB_found (p cs) l k h ha hr
      simp -implicitDefEqProofs [List.lookup_cons, eS, h, FPr, hcp, hr, hpc, hpf, hpm]
      refine fin_pure (by simp) ?_
      simp -implicitDefEqProofs [fS, rn0, pickObs, deI, hf]
    | false =>
      simp -implicitDefEqProofs [List.lookup_cons, eS, h, FPr, hcp, hr, hpc, hpf, hpm]
      exact ⟨k + 1, by omega, by simpa using all_stepG l _ k h ha (by simp [hr]), by omega, Wk.tl (by simp [hold, upd, tl_cons, hw1])⟩
  · have e : k = l.length := by omega
    subst e
    rw [List.take_length] at ha
    have hf := idxB_none (p cs) l ha
    simp -implicitDefEqProofs [List.lookup_cons, eS]
    refine fin_pure (by simp) ?_
    simp -implicitDefEqProofs [fS, rn0, pickObs, deI, hf]
theorem cCtCls (g : Nat) (cp : List X → Prop) (p : List X → Cls → Bool) (hpu : ∀ c, cp c → c.all isP0 = true ∧ ∀ n, c.map (purN [] n) = c) (hg : GenCA K Tryz.prog g (FPr cp p)) : GenCA K Tryz.prog 97 (FCt g cp p) := by
  refine contractA Tryz.mix K [(124, FIx g cp p)] [] (by simp [cIxCls g cp p hpu hg]) (by simp) Tryz.func97 rfl (by decide) ?_
  intro xs hxs
  obtain ⟨l, cs, rfl, hcp, hl⟩ : ∃ (l : List Cls) (cs : List X), xs = [.sl (tR l), .fn g cs] ∧ cp cs ∧ l.length ≤ 1048576 := ⟨_, _, hxs.1, hxs.2.1, hxs.2.2⟩
  have hres : (FCt g cp p).res [.sl (tR l), .fn g cs] = (B (l.any (p cs)), []) := by simp [FCt]
  rw [hres]
  refine ⟨by rw [Tryz.ntmps97]; simp, ?_⟩
  obtain ⟨hpc, hpm⟩ := hpu cs hcp
  have hpf : ∀ x ∈ cs, isP0 x = true := List.all_eq_true.1 hpc
  have hh := idxB_any (p cs) l
  simp -implicitDefEqProofs [Tryz.f97, List.lookup_cons, eS, FIx, hcp, hl, hpc, hpf, hpm, hh]
  refine fin_pure (by simp) ?_
  simp -implicitDefEqProofs [fS, rn0, pickObs, deI]
end Go.Proofs
