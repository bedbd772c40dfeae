/-
  What is proved here: contracts of the checks of one class and of one filter, and of the library's searches by a predicate. Condition: none.
-/
import Derived.Test.YtflhbkcjfmajeaaGreatDoorC0z
namespace Go.Proofs
open Go.Abs
set_option linter.unusedSimpArgs false
set_option linter.unnecessarySimpa false
set_option linter.unusedVariables false
set_option maxHeartbeats 4000000
set_option maxRecDepth 20000

def F76 : Fun := ⟨fun xs => xs = [.agg (rX (deA (xs.getD 0 .top) : Cls))] ∧ (fun (x : Cls) => (True)) (deA (xs.getD 0 .top) : Cls), fun xs => (fun (x : Cls) => ((B x.rateOk, []) : X × List Ob)) (deA (xs.getD 0 .top) : Cls)⟩
theorem F76_in {xs : List X} (h : F76.pre xs) : ∃ (x : Cls), xs = [.agg (rX x)] ∧ (True) := ⟨_, h.1, h.2⟩
theorem F76_res (x : Cls) : F76.res [.agg (rX x)] = (B x.rateOk, []) := by simp [F76]
theorem F76_mk (x : Cls) (h : True) : F76.pre [.agg (rX x)] := by simpa [F76] using h
theorem c76 : GenCA K Tryz.prog 76 F76 := by
  refine contractA Tryz.mix K [] [] (by simp) (by simp) Tryz.func76 rfl (by decide) ?_
  intro xs hxs
  obtain ⟨x, rfl, hp⟩ := F76_in hxs
  rw [F76_res]
  refine ⟨by rw [Tryz.ntmps76]; simp, ?_⟩
  simp -implicitDefEqProofs [Tryz.f76, List.lookup_cons, and_assoc, pick_and, pick_or, if_and, if_or]
  refine fin_pure (by simp) ?_
  simp -implicitDefEqProofs [pur2_i, pur2_b, pur2_s, pur2_nil, pur2_sl, pur2_tup, rn2_tup, rn2_agg, rn2_osl, rn1_v, rn1_osl, rn1_agg, rn0_v, rn0_sl, rn0, pickObs, pur_v, pur_b, pur_s, pur_nil, pur_sl, deI, deIs_sl, Cls.rateOk, rng, Bool.and_assoc]
def F80 : Fun := ⟨fun xs => xs = [.agg (rX (deA (xs.getD 0 .top) : Cls))] ∧ (fun (x : Cls) => (True)) (deA (xs.getD 0 .top) : Cls), fun xs => (fun (x : Cls) => ((B x.burstOk, []) : X × List Ob)) (deA (xs.getD 0 .top) : Cls)⟩
theorem F80_in {xs : List X} (h : F80.pre xs) : ∃ (x : Cls), xs = [.agg (rX x)] ∧ (True) := ⟨_, h.1, h.2⟩
theorem F80_res (x : Cls) : F80.res [.agg (rX x)] = (B x.burstOk, []) := by simp [F80]
theorem F80_mk (x : Cls) (h : True) : F80.pre [.agg (rX x)] := by simpa [F80] using h
theorem c80 : GenCA K Tryz.prog 80 F80 := by
  refine contractA Tryz.mix K [] [] (by simp) (by simp) Tryz.func80 rfl (by decide) ?_
  intro xs hxs
  obtain ⟨x, rfl, hp⟩ := F80_in hxs
  rw [F80_res]
  refine ⟨by rw [Tryz.ntmps80]; simp, ?_⟩
  simp -implicitDefEqProofs [Tryz.f80, List.lookup_cons, and_assoc, pick_and, pick_or, if_and, if_or]
  refine fin_pure (by simp) ?_
  simp -implicitDefEqProofs [pur2_i, pur2_b, pur2_s, pur2_nil, pur2_sl, pur2_tup, rn2_tup, rn2_agg, rn2_osl, rn1_v, rn1_osl, rn1_agg, rn0_v, rn0_sl, rn0, pickObs, pur_v, pur_b, pur_s, pur_nil, pur_sl, deI, deIs_sl, Cls.burstOk, rng, Bool.and_assoc]
def F65 : Fun := ⟨fun xs => xs = [.agg (rX (deA (xs.getD 0 .top) : Cls))] ∧ (fun (x : Cls) => (True)) (deA (xs.getD 0 .top) : Cls), fun xs => (fun (x : Cls) => ((B x.ok, []) : X × List Ob)) (deA (xs.getD 0 .top) : Cls)⟩
theorem F65_in {xs : List X} (h : F65.pre xs) : ∃ (x : Cls), xs = [.agg (rX x)] ∧ (True) := ⟨_, h.1, h.2⟩
theorem F65_res (x : Cls) : F65.res [.agg (rX x)] = (B x.ok, []) := by simp [F65]
theorem F65_mk (x : Cls) (h : True) : F65.pre [.agg (rX x)] := by simpa [F65] using h
theorem c65 : GenCA K Tryz.prog 65 F65 := by
  refine contractA Tryz.mix K [(42, F42)] [] (by simp [c42]) (by simp) Tryz.func65 rfl (by decide) ?_
  intro xs hxs
  obtain ⟨x, rfl, hp⟩ := F65_in hxs
  rw [F65_res]
  refine ⟨by rw [Tryz.ntmps65]; simp, ?_⟩
  simp -implicitDefEqProofs [Tryz.f65, F42, List.lookup_cons, and_assoc, pick_and, pick_or, if_and, if_or]
  refine fin_pure (by simp) ?_
  simp -implicitDefEqProofs [pur2_i, pur2_b, pur2_s, pur2_nil, pur2_sl, pur2_tup, rn2_tup, rn2_agg, rn2_osl, rn1_v, rn1_osl, rn1_agg, rn0_v, rn0_sl, rn0, pickObs, pur_v, pur_b, pur_s, pur_nil, pur_sl, deI, deIs_sl, Cls.ok, Cls.rateOk, Cls.burstOk, Bool.and_assoc]
def F69 : Fun := ⟨fun xs => xs = [.agg (rX (deA (xs.getD 0 .top) : Fil))] ∧ (fun (x : Fil) => (True)) (deA (xs.getD 0 .top) : Fil), fun xs => (fun (x : Fil) => ((B x.ok, []) : X × List Ob)) (deA (xs.getD 0 .top) : Fil)⟩
theorem F69_in {xs : List X} (h : F69.pre xs) : ∃ (x : Fil), xs = [.agg (rX x)] ∧ (True) := ⟨_, h.1, h.2⟩
theorem F69_res (x : Fil) : F69.res [.agg (rX x)] = (B x.ok, []) := by simp [F69]
theorem F69_mk (x : Fil) (h : True) : F69.pre [.agg (rX x)] := by simpa [F69] using h
theorem c69 : GenCA K Tryz.prog 69 F69 := by
  refine contractA Tryz.mix K [(42, F42)] [] (by simp [c42]) (by simp) Tryz.func69 rfl (by decide) ?_
  intro xs hxs
  obtain ⟨x, rfl, hp⟩ := F69_in hxs
  rw [F69_res]
  refine ⟨by rw [Tryz.ntmps69]; simp, ?_⟩
  have em : IntKind.i64.wrap (BitVec.ofInt IntKind.i64.bits x.value &&& BitVec.ofInt IntKind.i64.bits x.mask).toNat = mskd x.value x.mask := rfl
  simp -implicitDefEqProofs [Tryz.f69, F42, List.lookup_cons, and_assoc, pick_and, pick_or, if_and, if_or, em, -BitVec.toNat_and]
  refine fin_pure (by simp) ?_
  simp -implicitDefEqProofs [pur2_i, pur2_b, pur2_s, pur2_nil, pur2_sl, pur2_tup, rn2_tup, rn2_agg, rn2_osl, rn1_v, rn1_osl, rn1_agg, rn0_v, rn0_sl, rn0, pickObs, pur_v, pur_b, pur_s, pur_nil, pur_sl, deI, deIs_sl, Fil.ok, Bool.and_assoc]
theorem and_bits (V M : BitVec 64) : V &&& ~~~M = 0#64 ↔ V &&& M = V := by
  constructor
  · intro h
    apply BitVec.eq_of_getElem_eq
    intro i hi
    have := congrArg (fun (z : BitVec 64) => z[i]) h
    simp at this
    simp
    exact this
  · intro h
    apply BitVec.eq_of_getElem_eq
    intro i hi
    have := congrArg (fun (z : BitVec 64) => z[i]) h
    simp at this
    simp
    exact this
theorem wrap0 (n : Nat) (h : n < 18446744073709551616) : (IntKind.i64.wrap (n : Int) = 0) ↔ n = 0 := by
  rw [IntKind.wrap_i64]; omega
theorem mask_eq (v m : Int) (h0 : 0 ≤ v) (h1 : v ≤ 65535) : (cut_ v m == 0) = (mskd v m == v) := by
  have hV : (BitVec.ofInt 64 v).toNat = v.toNat := by
    rw [BitVec.toNat_ofInt]; omega
  have hle : (BitVec.ofInt 64 v &&& BitVec.ofInt 64 m).toNat ≤ v.toNat := by
    rw [BitVec.toNat_and, hV]; exact Nat.and_le_left
  have e1 : cut_ v m = 0 ↔ BitVec.ofInt 64 v &&& ~~~BitVec.ofInt 64 m = 0#64 := by
    unfold cut_
    rw [wrap0 _ (BitVec.isLt _)]
    constructor
    · intro h; exact BitVec.eq_of_toNat_eq (by simpa using h)
    · intro h; rw [h]; rfl
  have e2 : mskd v m = v ↔ BitVec.ofInt 64 v &&& BitVec.ofInt 64 m = BitVec.ofInt 64 v := by
    unfold mskd
    rw [w64 (by omega) (by omega)]
    constructor
    · intro h; exact BitVec.eq_of_toNat_eq (by rw [hV]; omega)
    · intro h; rw [h, hV]; omega
  rw [Bool.eq_iff_iff]
  simp only [beq_iff_eq]
  rw [e1, e2, and_bits]
def F104 : Fun := ⟨fun xs => xs = [.agg (rX (deA (xs.getD 0 .top) : Fil))] ∧ (fun (x : Fil) => (True)) (deA (xs.getD 0 .top) : Fil), fun xs => (fun (x : Fil) => ((B x.ok, []) : X × List Ob)) (deA (xs.getD 0 .top) : Fil)⟩
theorem F104_in {xs : List X} (h : F104.pre xs) : ∃ (x : Fil), xs = [.agg (rX x)] ∧ (True) := ⟨_, h.1, h.2⟩
theorem F104_res (x : Fil) : F104.res [.agg (rX x)] = (B x.ok, []) := by simp [F104]
theorem F104_mk (x : Fil) (h : True) : F104.pre [.agg (rX x)] := by simpa [F104] using h
theorem c104 : GenCA K Tryz.prog 104 F104 := by
  refine contractA Tryz.mix K [] [] (by simp) (by simp) Tryz.func104 rfl (by decide) ?_
  intro xs hxs
  obtain ⟨x, rfl, hp⟩ := F104_in hxs
  rw [F104_res]
  refine ⟨by rw [Tryz.ntmps104]; simp, ?_⟩
  have em : IntKind.i64.wrap (BitVec.ofInt IntKind.i64.bits x.value &&& ~~~BitVec.ofInt IntKind.i64.bits x.mask).toNat = cut_ x.value x.mask := rfl
  simp -implicitDefEqProofs [Tryz.f104, List.lookup_cons, and_assoc, pick_and, pick_or, if_and, if_or, em, -BitVec.toNat_and]
  refine fin_pure (by simp) ?_
  by_cases h : 0 ≤ x.value ∧ x.value ≤ 65535
  · simp -implicitDefEqProofs [pur2_i, pur2_b, pur2_s, pur2_nil, pur2_sl, pur2_tup, rn2_tup, rn2_agg, rn2_osl, rn1_v, rn1_osl, rn1_agg, rn0_v, rn0_sl, rn0, pickObs, pur_v, pur_b, pur_s, pur_nil, pur_sl, deI, deIs_sl, Fil.ok, rng, Bool.and_assoc, ← mask_eq x.value x.mask h.1 h.2]
  · have e1 : rng 0 65535 x.value = false := by simp [rng]; omega
    simp -implicitDefEqProofs [pur2_i, pur2_b, pur2_s, pur2_nil, pur2_sl, pur2_tup, rn2_tup, rn2_agg, rn2_osl, rn1_v, rn1_osl, rn1_agg, rn0_v, rn0_sl, rn0, pickObs, pur_v, pur_b, pur_s, pur_nil, pur_sl, deI, deIs_sl, Fil.ok, e1]
    intro _ _ _ _ _ _ h1 h2
    omega

/-! ### searches by a predicate: the predicate is a function value with what it holds -/
def capsOf : X → List X
  | .fn _ c => c
  | _ => []
@[simp] theorem capsOf_fn (g : Nat) (c : List X) : capsOf (.fn g c) = c := rfl
def idxB {α : Type} (p : α → Bool) (l : List α) : Int := match l.findIdx? p with | some i => (i : Int) | none => -1
theorem idxB_found {α : Type} (p : α → Bool) (l : List α) (k : Nat) (h : k < l.length) (h1 : (l.take k).all (fun x => !p x) = true) (h2 : p l[k] = true) : idxB p l = (k : Int) := by
  have : l.findIdx? p = some k := by
    rw [List.findIdx?_eq_some_iff_getElem]
    refine ⟨h, h2, fun j hj => ?_⟩
    rw [List.all_eq_true] at h1
    have := h1 l[j] (List.mem_take_iff_getElem.2 ⟨j, by omega, rfl⟩)
    simpa using this
  simp [idxB, this]
theorem idxB_none {α : Type} (p : α → Bool) (l : List α) (h1 : l.all (fun x => !p x) = true) : idxB p l = -1 := by
  have : l.findIdx? p = none := by
    rw [List.findIdx?_eq_none_iff]
    intro x hx
    rw [List.all_eq_true] at h1
    simpa using h1 x hx
  simp [idxB, this]
theorem idxB_any {α : Type} (p : α → Bool) (l : List α) : decide (0 ≤ idxB p l) = l.any p := by
  rw [Bool.eq_iff_iff, List.any_eq_true, decide_eq_true_eq]
  unfold idxB
  cases h : l.findIdx? p with
  | none =>
    rw [List.findIdx?_eq_none_iff] at h
    simp
    intro x hx
    have := h x hx
    simpa using this
  | some i =>
    obtain ⟨hi, hp, _⟩ := List.findIdx?_eq_some_iff_getElem.1 h
    simp
    exact ⟨_, List.getElem_mem hi, hp⟩
theorem all_stepG {α : Type} (l : List α) (p : α → Bool) (k : Nat) (h : k < l.length) (h1 : (l.take k).all p = true) (h2 : p l[k] = true) : (l.take (k + 1)).all p = true := by
  rw [takeS l k h, List.all_append, h1]; simp [h2]
/-- a predicate: its argument, then what it holds -/
def FPr {α : Type} [Rw α] (cp : List X → Prop) (p : List X → α → Bool) : Fun := ⟨fun xs => xs = .agg (rX (deA (xs.getD 0 .top) : α)) :: xs.tail ∧ cp xs.tail, fun xs => (B (p xs.tail (deA (xs.getD 0 .top))), [])⟩
def FIx {α : Type} [Rw α] (g : Nat) (cp : List X → Prop) (p : List X → α → Bool) : Fun :=
  ⟨fun xs => xs = [.sl (tR (deT (xs.getD 0 .top) : List α)), .fn g (capsOf (xs.getD 1 .top))] ∧ cp (capsOf (xs.getD 1 .top)) ∧ (deT (xs.getD 0 .top) : List α).length ≤ 1048576, fun xs => (I (idxB (p (capsOf (xs.getD 1 .top))) (deT (xs.getD 0 .top))), [])⟩
def FCt {α : Type} [Rw α] (g : Nat) (cp : List X → Prop) (p : List X → α → Bool) : Fun :=
  ⟨(FIx g cp p).pre, fun xs => (B ((deT (xs.getD 0 .top)).any (p (capsOf (xs.getD 1 .top)))), [])⟩
theorem cIxCls (g : Nat) (cp : List X → Prop) (p : List X → Cls → Bool) (hpu : ∀ c, cp c → c.all isP0 = true ∧ ∀ n, c.map (purN [] n) = c) (hg : GenCA K Tryz.prog g (FPr cp p)) : GenCA K Tryz.prog 100 (FIx g cp p) := by
  refine contractA Tryz.mix K [(g, FPr cp p)] [] (by simp [hg]) (by simp) Tryz.func100 rfl (by decide) ?_
  intro xs hxs
  obtain ⟨l, cs, rfl, hcp, hl⟩ : ∃ (l : List Cls) (cs : List X), xs = [.sl (tR l), .fn g cs] ∧ cp cs ∧ l.length ≤ 1048576 := ⟨_, _, hxs.1, hxs.2.1, hxs.2.2⟩
  have hres : (FIx g cp p).res [.sl (tR l), .fn g cs] = (I (idxB (p cs) l), []) := by simp [FIx]
  rw [hres]
  refine ⟨by rw [Tryz.ntmps100]; simp, ?_⟩
  obtain ⟨hpc, hpm⟩ := hpu cs hcp
  have hpf : ∀ x ∈ cs, isP0 x = true := List.all_eq_true.1 hpc
  simp -implicitDefEqProofs [Tryz.f100, List.lookup_cons, and_assoc, pick_and, pick_or, if_and, if_or]
  refine loopP_inv (fun k : Nat => ⟨19, tl [(0, .sl (tR l)), (1, .fn g cs), (7, I l.length), (8, I k)], []⟩) (fun k => k ≤ l.length ∧ (l.take k).all (fun x => !p cs x) = true) (fun k => l.length - k) 0 (by simp) (Wk.tl (by simp [hold, upd, tl_cons])) ?_
  rintro k ⟨hk, ha⟩
  by_cases h : k < l.length
  · have hw1 := w64n (show k < 4611686018427387904 by omega)
    cases hr : p cs l[k] with
    | true =>
      have hf := idxB_found (p cs) l k h ha hr
      simp -implicitDefEqProofs [List.lookup_cons, and_assoc, pick_and, pick_or, if_and, if_or, h, FPr, hcp, hr, hpc, hpf, hpm]
      refine fin_pure (by simp) ?_
      simp -implicitDefEqProofs [pur2_i, pur2_b, pur2_s, pur2_nil, pur2_sl, pur2_tup, rn2_tup, rn2_agg, rn2_osl, rn1_v, rn1_osl, rn1_agg, rn0_v, rn0_sl, rn0, pickObs, pur_v, pur_b, pur_s, pur_nil, pur_sl, deI, deIs_sl, hf]
    | false =>
      simp -implicitDefEqProofs [List.lookup_cons, and_assoc, pick_and, pick_or, if_and, if_or, h, FPr, hcp, hr, hpc, hpf, hpm]
      exact ⟨k + 1, by omega, by simpa using all_stepG l _ k h ha (by simp [hr]), by omega, Wk.tl (by simp [hold, upd, tl_cons, hw1])⟩
  · have e : k = l.length := by omega
    subst e
    rw [List.take_length] at ha
    have hf := idxB_none (p cs) l ha
    simp -implicitDefEqProofs [List.lookup_cons, and_assoc, pick_and, pick_or, if_and, if_or]
    refine fin_pure (by simp) ?_
    simp -implicitDefEqProofs [pur2_i, pur2_b, pur2_s, pur2_nil, pur2_sl, pur2_tup, rn2_tup, rn2_agg, rn2_osl, rn1_v, rn1_osl, rn1_agg, rn0_v, rn0_sl, rn0, pickObs, pur_v, pur_b, pur_s, pur_nil, pur_sl, deI, deIs_sl, hf]
theorem cCtCls (g : Nat) (cp : List X → Prop) (p : List X → Cls → Bool) (hpu : ∀ c, cp c → c.all isP0 = true ∧ ∀ n, c.map (purN [] n) = c) (hg : GenCA K Tryz.prog g (FPr cp p)) : GenCA K Tryz.prog 74 (FCt g cp p) := by
  refine contractA Tryz.mix K [(100, FIx g cp p)] [] (by simp [cIxCls g cp p hpu hg]) (by simp) Tryz.func74 rfl (by decide) ?_
  intro xs hxs
  obtain ⟨l, cs, rfl, hcp, hl⟩ : ∃ (l : List Cls) (cs : List X), xs = [.sl (tR l), .fn g cs] ∧ cp cs ∧ l.length ≤ 1048576 := ⟨_, _, hxs.1, hxs.2.1, hxs.2.2⟩
  have hres : (FCt g cp p).res [.sl (tR l), .fn g cs] = (B (l.any (p cs)), []) := by simp [FCt]
  rw [hres]
  refine ⟨by rw [Tryz.ntmps74]; simp, ?_⟩
  obtain ⟨hpc, hpm⟩ := hpu cs hcp
  have hpf : ∀ x ∈ cs, isP0 x = true := List.all_eq_true.1 hpc
  have hh := idxB_any (p cs) l
  simp -implicitDefEqProofs [Tryz.f74, List.lookup_cons, and_assoc, pick_and, pick_or, if_and, if_or, FIx, hcp, hl, hpc, hpf, hpm, hh]
  refine fin_pure (by simp) ?_
  simp -implicitDefEqProofs [pur2_i, pur2_b, pur2_s, pur2_nil, pur2_sl, pur2_tup, rn2_tup, rn2_agg, rn2_osl, rn1_v, rn1_osl, rn1_agg, rn0_v, rn0_sl, rn0, pickObs, pur_v, pur_b, pur_s, pur_nil, pur_sl, deI, deIs_sl]
end Go.Proofs
