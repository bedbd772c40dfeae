/-
  What is proved here: contracts of the leaf to which a packet goes. Condition: none.
-/
import Derived.Test.YtdpmlddmdogggaaGreatDoorIL9ij
namespace Go.Proofs
open Go.Abs
set_option linter.unusedSimpArgs false
set_option linter.unnecessarySimpa false
set_option linter.unusedVariables false
set_option maxHeartbeats 16000000
set_option maxRecDepth 20000
def fldI (p : Pkt) (f : Int) : Int := if f = 0 then p.src else if f = 1 then p.dst else if f = 2 then p.port else p.mark
def F124 : Fun := ⟨fun xs => xs = [.agg (rX (deA (xs.getD 0 .top) : Pkt))] ∧ (fun (p : Pkt) => (True)) (deA (xs.getD 0 .top) : Pkt), fun xs => (fun (p : Pkt) => ((.agg [I p.src, I p.dst, I p.port, I p.mark], []) : X × List Ob)) (deA (xs.getD 0 .top) : Pkt)⟩
theorem F124_in {xs : List X} (h : F124.pre xs) : ∃ (p : Pkt), xs = [.agg (rX p)] ∧ (True) := ⟨_, h.1, h.2⟩
theorem F124_res (p : Pkt) : F124.res [.agg (rX p)] = (.agg [I p.src, I p.dst, I p.port, I p.mark], []) := by simp [F124]
theorem c124 : GenCA K Tryz.prog 124 F124 := by
  refine contractA Tryz.mix K [] [] (by simp) (by simp) Tryz.func124 rfl (by decide) ?_
  intro xs hxs
  obtain ⟨p, rfl, hp⟩ := F124_in hxs
  rw [F124_res]
  refine ⟨by rw [Tryz.ntmps124]; simp, ?_⟩
  have fk : Go.Abs.flOk Tryz.prog 122 = false := by kernel_rfl
  simp -implicitDefEqProofs [Tryz.f124, List.lookup_cons, eS, eBuild, fk, fillX]
  refine fin_pure (by simp) ?_
  simp -implicitDefEqProofs [fS, rn0, pickObs, deI]
def pkOk (p : Pkt) : Bool := rng 1 100000 p.id && (rng 0 65535 p.src && (rng 0 65535 p.dst && (rng 0 65535 p.port && (rng 0 65535 p.mark && rng 1 1500 p.size))))
def F93 : Fun := ⟨fun xs => xs = [.agg (rX (deA (xs.getD 0 .top) : Pkt))] ∧ (fun (p : Pkt) => (True)) (deA (xs.getD 0 .top) : Pkt), fun xs => (fun (p : Pkt) => ((B (pkOk p), []) : X × List Ob)) (deA (xs.getD 0 .top) : Pkt)⟩
theorem F93_in {xs : List X} (h : F93.pre xs) : ∃ (p : Pkt), xs = [.agg (rX p)] ∧ (True) := ⟨_, h.1, h.2⟩
theorem F93_res (p : Pkt) : F93.res [.agg (rX p)] = (B (pkOk p), []) := by simp [F93]
theorem c93 : GenCA K Tryz.prog 93 F93 := by
  refine contractA Tryz.mix K [(124, F124)] [] (by simp [c124]) (by simp) Tryz.func93 rfl (by decide) ?_
  intro xs hxs
  obtain ⟨p, rfl, hp⟩ := F93_in hxs
  rw [F93_res]
  refine ⟨by rw [Tryz.ntmps93]; simp, ?_⟩
  simp -implicitDefEqProofs [Tryz.f93, F124, List.lookup_cons, eS]
  refine loopP_inv (fun k : Nat => ⟨35, tl [(1, .optr 0 0 0 0), (6, .agg [I p.src, I p.dst, I p.port, I p.mark]), (7, I k)], [⟨59, 6, 0, [[I p.id, I p.src, I p.dst, I p.port, I p.mark, I p.size]], true, true, none⟩]⟩) (fun k => k ≤ 4 ∧ ∀ j, j < k → rng 0 65535 ([p.src, p.dst, p.port, p.mark].getD j 0) = true) (fun k => 4 - k) 0 ⟨by omega, fun j hj => by omega⟩ (Wk.tl (by simp [hold, upd, tl_cons])) ?_
  rintro k ⟨hk, ha⟩
  by_cases h : k < 4
  · have hlt : (k : Int) < 4 := by omega
    have hw := w64n (show k < 4611686018427387904 by omega)
    have key : ∀ v, ([p.src, p.dst, p.port, p.mark].getD k 0) = v → (rng 0 65535 v = false → pkOk p = false) ∧ (rng 0 65535 v = true → ∀ j, j < k + 1 → rng 0 65535 ([p.src, p.dst, p.port, p.mark].getD j 0) = true) := by
      intro v hv
      constructor
      · intro hf
        rw [← hv] at hf
        rcases k with _ | _ | _ | _ | k
        · simp at hf; simp [pkOk, hf]
        · simp at hf; simp [pkOk, hf]
        · simp at hf; simp [pkOk, hf]
        · simp at hf; simp [pkOk, hf]
        · omega
      · intro hf j hj
        by_cases e : j = k
        · subst e; rw [hv]; exact hf
        · exact ha j (by omega)
    obtain ⟨v, hv⟩ : ∃ v, ([p.src, p.dst, p.port, p.mark].getD k 0) = v := ⟨_, rfl⟩
    obtain ⟨k1, k2⟩ := key v hv
    have hix : [I p.src, I p.dst, I p.port, I p.mark][k]? = some (I v) := by
      rw [← hv]
      rcases k with _ | _ | _ | _ | k
      · rfl
      · rfl
      · rfl
      · rfl
      · omega
    by_cases q0 : v < 0
    · have hb := k1 (by simp [rng]; omega)
      simp -implicitDefEqProofs [List.lookup_cons, eS, hlt, hix, q0]
      refine ⟨by omega, by omega, fin_pure (by simp) ?_⟩
      simp -implicitDefEqProofs [fS, rn0, pickObs, deI, hb]
    by_cases q1 : 65535 < v
    · have hb := k1 (by simp [rng]; omega)
      simp -implicitDefEqProofs [List.lookup_cons, eS, hlt, hix, q0, q1]
      refine ⟨by omega, by omega, fin_pure (by simp) ?_⟩
      simp -implicitDefEqProofs [fS, rn0, pickObs, deI, hb]
    · have hg := k2 (by simp [rng]; omega)
      simp -implicitDefEqProofs [List.lookup_cons, eS, hlt, hix, q0, q1]
      refine ⟨by omega, by omega, k + 1, by omega, by simpa using hg, by omega, ?_⟩
      exact Wk.tl (by simp [hold, upd, tl_cons, hw])
  · have e : k = 4 := by omega
    subst e
    have a0 := ha 0 (by omega)
    have a1 := ha 1 (by omega)
    have a2 := ha 2 (by omega)
    have a3 := ha 3 (by omega)
    simp only [List.getD_cons_zero, List.getD_cons_succ] at a0 a1 a2 a3
    have hr : pkOk p = (rng 1 100000 p.id && rng 1 1500 p.size) := by simp [pkOk, a0, a1, a2, a3]
    rw [hr]
    by_cases b1 : 1 ≤ p.id
    rotate_left
    · simp -implicitDefEqProofs [List.lookup_cons, eS, b1]
      refine fin_pure (by simp) ?_
      simp -implicitDefEqProofs [fS, rn0, pickObs, deI, rng, b1]
    by_cases b2 : p.id ≤ 100000
    rotate_left
    · simp -implicitDefEqProofs [List.lookup_cons, eS, b1, b2]
      refine fin_pure (by simp) ?_
      simp -implicitDefEqProofs [fS, rn0, pickObs, deI, rng, b1, b2]
    by_cases b3 : 1 ≤ p.size
    rotate_left
    · simp -implicitDefEqProofs [List.lookup_cons, eS, b1, b2, b3]
      refine fin_pure (by simp) ?_
      simp -implicitDefEqProofs [fS, rn0, pickObs, deI, rng, b1, b2, b3]
    · simp -implicitDefEqProofs [List.lookup_cons, eS, b1, b2, b3]
      refine fin_pure (by simp) ?_
      simp -implicitDefEqProofs [fS, rn0, pickObs, deI, rng, b1, b2, b3]
def F122 : Fun := ⟨fun xs => xs = [I (deI (xs.getD 0 .top) : Int)] ∧ (fun (n : Int) => (True)) (deI (xs.getD 0 .top) : Int), fun xs => (fun (n : Int) => ((B (rng 0 65535 n), []) : X × List Ob)) (deI (xs.getD 0 .top) : Int)⟩
theorem F122_in {xs : List X} (h : F122.pre xs) : ∃ (n : Int), xs = [I n] ∧ (True) := ⟨_, h.1, h.2⟩
theorem F122_res (n : Int) : F122.res [I n] = (B (rng 0 65535 n), []) := by simp [F122]
theorem c122 : GenCA K Tryz.prog 122 F122 := by
  refine contractA Tryz.mix K [(87, F87)] [] (by simp [c87]) (by simp) Tryz.func122 rfl (by decide) ?_
  intro xs hxs
  obtain ⟨n, rfl, hp⟩ := F122_in hxs
  rw [F122_res]
  refine ⟨by rw [Tryz.ntmps122]; simp, ?_⟩
  simp -implicitDefEqProofs [Tryz.f122, F87, List.lookup_cons, eS]
  refine fin_pure (by simp) ?_
  simp -implicitDefEqProofs [fS, rn0, pickObs, deI]
theorem c91 : GenCA K Tryz.prog 91 F93 := by
  refine contractA Tryz.mix K [(87, F87), (122, F122)] [] (by simp [c87, c122]) (by simp) Tryz.func91 rfl (by decide) ?_
  intro xs hxs
  obtain ⟨p, rfl, hp⟩ := F93_in hxs
  rw [F93_res]
  refine ⟨by rw [Tryz.ntmps91]; simp, ?_⟩
  unfold pkOk
  cases b0 : rng 1 100000 p.id with
  | false =>
    simp -implicitDefEqProofs [Tryz.f91, F87, F122, List.lookup_cons, eS, b0]
    refine fin_pure (by simp) ?_
    simp -implicitDefEqProofs [fS, rn0, pickObs, deI]
  | true =>
  cases b1 : rng 0 65535 p.src with
  | false =>
    simp -implicitDefEqProofs [Tryz.f91, F87, F122, List.lookup_cons, eS, b0, b1]
    refine fin_pure (by simp) ?_
    simp -implicitDefEqProofs [fS, rn0, pickObs, deI]
  | true =>
  cases b2 : rng 0 65535 p.dst with
  | false =>
    simp -implicitDefEqProofs [Tryz.f91, F87, F122, List.lookup_cons, eS, b0, b1, b2]
    refine fin_pure (by simp) ?_
    simp -implicitDefEqProofs [fS, rn0, pickObs, deI]
  | true =>
  cases b3 : rng 0 65535 p.port with
  | false =>
    simp -implicitDefEqProofs [Tryz.f91, F87, F122, List.lookup_cons, eS, b0, b1, b2, b3]
    refine fin_pure (by simp) ?_
    simp -implicitDefEqProofs [fS, rn0, pickObs, deI]
  | true =>
  cases b4 : rng 0 65535 p.mark with
  | false =>
    simp -implicitDefEqProofs [Tryz.f91, F87, F122, List.lookup_cons, eS, b0, b1, b2, b3, b4]
    refine fin_pure (by simp) ?_
    simp -implicitDefEqProofs [fS, rn0, pickObs, deI]
  | true =>
    simp -implicitDefEqProofs [Tryz.f91, F87, F122, List.lookup_cons, eS, b0, b1, b2, b3, b4]
    refine fin_pure (by simp) ?_
    simp -implicitDefEqProofs [fS, rn0, pickObs, deI]
def tkP (y : Fil) (p : Pkt) : Bool := mskd (fldI p y.field) y.mask == y.value
def F188 : Fun := ⟨fun xs => xs = [.agg (rX (deA (xs.getD 0 .top) : Pkt)), I (deI (xs.getD 1 .top) : Int)] ∧ (fun (p : Pkt) (f : Int) => (0 ≤ f ∧ f ≤ 3)) (deA (xs.getD 0 .top) : Pkt) (deI (xs.getD 1 .top) : Int), fun xs => (fun (p : Pkt) (f : Int) => ((I (fldI p f), []) : X × List Ob)) (deA (xs.getD 0 .top) : Pkt) (deI (xs.getD 1 .top) : Int)⟩
theorem F188_in {xs : List X} (h : F188.pre xs) : ∃ (p : Pkt) (f : Int), xs = [.agg (rX p), I f] ∧ (0 ≤ f ∧ f ≤ 3) := ⟨_, _, h.1, h.2⟩
theorem F188_res (p : Pkt) (f : Int) : F188.res [.agg (rX p), I f] = (I (fldI p f), []) := by simp [F188]
theorem c188 : GenCA K Tryz.prog 188 F188 := by
  refine contractA Tryz.mix K [] [] (by simp) (by simp) Tryz.func188 rfl (by decide) ?_
  intro xs hxs
  obtain ⟨p, f, rfl, hp⟩ := F188_in hxs
  rw [F188_res]
  refine ⟨by rw [Tryz.ntmps188]; simp, ?_⟩
  obtain ⟨h0, h1⟩ := hp
  have hf : f = 0 ∨ f = 1 ∨ f = 2 ∨ f = 3 := by omega
  rcases hf with rfl | rfl | rfl | rfl
  · simp -implicitDefEqProofs [Tryz.f188, List.lookup_cons, eS, eBuildSlice, srcRows, srcOk, chunk]
    refine fin_pure (by simp) ?_
    simp -implicitDefEqProofs [fS, rn0, pickObs, deI, fldI]
  · simp -implicitDefEqProofs [Tryz.f188, List.lookup_cons, eS, eBuildSlice, srcRows, srcOk, chunk]
    refine fin_pure (by simp) ?_
    simp -implicitDefEqProofs [fS, rn0, pickObs, deI, fldI]
  · simp -implicitDefEqProofs [Tryz.f188, List.lookup_cons, eS, eBuildSlice, srcRows, srcOk, chunk]
    refine fin_pure (by simp) ?_
    simp -implicitDefEqProofs [fS, rn0, pickObs, deI, fldI]
  · simp -implicitDefEqProofs [Tryz.f188, List.lookup_cons, eS, eBuildSlice, srcRows, srcOk, chunk]
    refine fin_pure (by simp) ?_
    simp -implicitDefEqProofs [fS, rn0, pickObs, deI, fldI]
def F158 : Fun := ⟨fun xs => xs = [.agg (rX (deA (xs.getD 0 .top) : Fil)), .agg (rX (deA (xs.getD 1 .top) : Pkt))] ∧ (fun (y : Fil) (p : Pkt) => (0 ≤ y.field ∧ y.field ≤ 3)) (deA (xs.getD 0 .top) : Fil) (deA (xs.getD 1 .top) : Pkt), fun xs => (fun (y : Fil) (p : Pkt) => ((B (tkP y p), []) : X × List Ob)) (deA (xs.getD 0 .top) : Fil) (deA (xs.getD 1 .top) : Pkt)⟩
theorem F158_in {xs : List X} (h : F158.pre xs) : ∃ (y : Fil) (p : Pkt), xs = [.agg (rX y), .agg (rX p)] ∧ (0 ≤ y.field ∧ y.field ≤ 3) := ⟨_, _, h.1, h.2⟩
theorem F158_res (y : Fil) (p : Pkt) : F158.res [.agg (rX y), .agg (rX p)] = (B (tkP y p), []) := by simp [F158]
theorem c158 : GenCA K Tryz.prog 158 F158 := by
  refine contractA Tryz.mix K [(124, F124)] [] (by simp [c124]) (by simp) Tryz.func158 rfl (by decide) ?_
  intro xs hxs
  obtain ⟨y, p, rfl, hp⟩ := F158_in hxs
  rw [F158_res]
  refine ⟨by rw [Tryz.ntmps158]; simp, ?_⟩
  obtain ⟨h0, h1⟩ := hp
  have em : ∀ v : Int, IntKind.i64.wrap (BitVec.ofInt IntKind.i64.bits v &&& BitVec.ofInt IntKind.i64.bits y.mask).toNat = mskd v y.mask := fun v => rfl
  have hf : y.field = 0 ∨ y.field = 1 ∨ y.field = 2 ∨ y.field = 3 := by omega
  simp -implicitDefEqProofs [Tryz.f158, F124, List.lookup_cons, eS, -BitVec.toNat_and]
  refine drawP_all _ (by decide) ?_
  rcases hf with hf | hf | hf | hf
  · simp -implicitDefEqProofs [List.lookup_cons, eS, F124, hf, em, -BitVec.toNat_and]
    refine fin_pure (by simp) ?_
    simp -implicitDefEqProofs [fS, rn0, pickObs, deI, tkP, fldI, hf]
  · simp -implicitDefEqProofs [List.lookup_cons, eS, F124, hf, em, -BitVec.toNat_and]
    refine fin_pure (by simp) ?_
    simp -implicitDefEqProofs [fS, rn0, pickObs, deI, tkP, fldI, hf]
  · simp -implicitDefEqProofs [List.lookup_cons, eS, F124, hf, em, -BitVec.toNat_and]
    refine fin_pure (by simp) ?_
    simp -implicitDefEqProofs [fS, rn0, pickObs, deI, tkP, fldI, hf]
  · simp -implicitDefEqProofs [List.lookup_cons, eS, F124, hf, em, -BitVec.toNat_and]
    refine fin_pure (by simp) ?_
    simp -implicitDefEqProofs [fS, rn0, pickObs, deI, tkP, fldI, hf]
theorem c157 : GenCA K Tryz.prog 157 F158 := by
  refine contractA Tryz.mix K [(188, F188)] [] (by simp [c188]) (by simp) Tryz.func157 rfl (by decide) ?_
  intro xs hxs
  obtain ⟨y, p, rfl, hp⟩ := F158_in hxs
  rw [F158_res]
  refine ⟨by rw [Tryz.ntmps157]; simp, ?_⟩
  obtain ⟨h0, h1⟩ := hp
  have em : ∀ v : Int, IntKind.i64.wrap (BitVec.ofInt IntKind.i64.bits v &&& BitVec.ofInt IntKind.i64.bits y.mask).toNat = mskd v y.mask := fun v => rfl
  simp -implicitDefEqProofs [Tryz.f157, F188, List.lookup_cons, eS, -BitVec.toNat_and]
  refine drawP_all _ (by decide) ?_
  simp -implicitDefEqProofs [List.lookup_cons, eS, F188, h0, h1, em, -BitVec.toNat_and]
  refine fin_pure (by simp) ?_
  simp -implicitDefEqProofs [fS, rn0, pickObs, deI, tkP]
def F125 : Fun := ⟨fun xs => xs = [.sl (tR (deT (xs.getD 0 .top) : List Fil)), .agg (rX (deA (xs.getD 1 .top) : Pkt))] ∧ (fun (l : List Fil) (p : Pkt) => (l.length ≤ 1048576 ∧ ∀ y ∈ l, 0 ≤ y.field ∧ y.field ≤ 3)) (deT (xs.getD 0 .top) : List Fil) (deA (xs.getD 1 .top) : Pkt), fun xs => (fun (l : List Fil) (p : Pkt) => ((I (idxB (fun y => tkP y p) l), []) : X × List Ob)) (deT (xs.getD 0 .top) : List Fil) (deA (xs.getD 1 .top) : Pkt)⟩
theorem F125_in {xs : List X} (h : F125.pre xs) : ∃ (l : List Fil) (p : Pkt), xs = [.sl (tR l), .agg (rX p)] ∧ (l.length ≤ 1048576 ∧ ∀ y ∈ l, 0 ≤ y.field ∧ y.field ≤ 3) := ⟨_, _, h.1, h.2⟩
theorem F125_res (l : List Fil) (p : Pkt) : F125.res [.sl (tR l), .agg (rX p)] = (I (idxB (fun y => tkP y p) l), []) := by simp [F125]
theorem F125_mk (l : List Fil) (p : Pkt) (h : l.length ≤ 1048576 ∧ ∀ y ∈ l, 0 ≤ y.field ∧ y.field ≤ 3) : F125.pre [.sl (tR l), .agg (rX p)] := by simpa [F125] using h
theorem c125 : GenCA K Tryz.prog 125 F125 := by
  refine contractA Tryz.mix K [(158, F158)] [] (by simp [c158]) (by simp) Tryz.func125 rfl (by decide) ?_
  intro xs hxs
  obtain ⟨l, p, rfl, hp⟩ := F125_in hxs
  rw [F125_res]
  refine ⟨by rw [Tryz.ntmps125]; simp, ?_⟩
  obtain ⟨hl, hf⟩ := hp
  simp -implicitDefEqProofs [Tryz.f125, F158, List.lookup_cons, eS]
  refine loopP_inv (fun k : Nat => ⟨19, tl [(3, .optr 0 0 0 0), (7, .sl (tR l)), (8, I l.length), (9, I k)], [⟨59, 6, 0, [[I p.id, I p.src, I p.dst, I p.port, I p.mark, I p.size]], true, true, none⟩]⟩) (fun k => k ≤ l.length ∧ (l.take k).all (fun y => !tkP y p) = true) (fun k => l.length - k) 0 ⟨Nat.zero_le _, rfl⟩ (Wk.tl (by simp [hold, upd, tl_cons])) ?_
  rintro k ⟨hk, ha⟩
  by_cases h : k < l.length
  · have hw := w64n (show k < 4611686018427387904 by omega)
    obtain ⟨f0, f1⟩ := hf _ (List.getElem_mem h)
    have hfound := idxB_found (fun y => tkP y p) l k h ha
    have hstep := all_stepG l (fun y => !tkP y p) k h ha
    obtain ⟨y, hy0⟩ : ∃ y, l[k] = y := ⟨_, rfl⟩
    have hy : ∀ h', l[k]'(h') = y := fun _ => hy0
    rw [hy0] at f0 f1 hfound hstep
    cases ht : tkP y p with
    | true =>
      rw [hfound ht]
      simp -implicitDefEqProofs [List.lookup_cons, eS, h, hy, F158, f0, f1, ht]
      refine fin_pure (by simp) ?_
      simp -implicitDefEqProofs [fS, rn0, pickObs, deI]
    | false =>
      simp -implicitDefEqProofs [List.lookup_cons, eS, h, hy, F158, f0, f1, ht]
      refine ⟨k + 1, by omega, by simpa using hstep (by simp [ht]), by omega, ?_⟩
      refine Wk.tlP [0] (by simp [pickOk, ok0]) ?_ ?_
      · simp [pickObs]
      · simp [hold, upd, tl_cons, rn1, rn0, hw]
        try exact ⟨rfl, rfl⟩
  · have e : k = l.length := by omega
    subst e
    rw [List.take_length] at ha
    rw [idxB_none _ l ha]
    simp -implicitDefEqProofs [List.lookup_cons, eS]
    refine fin_pure (by simp) ?_
    simp -implicitDefEqProofs [fS, rn0, pickObs, deI]
theorem c123 : GenCA K Tryz.prog 123 F125 := by
  refine contractA Tryz.mix K [(157, F158)] [] (by simp [c157]) (by simp) Tryz.func123 rfl (by decide) ?_
  intro xs hxs
  obtain ⟨l, p, rfl, hp⟩ := F125_in hxs
  rw [F125_res]
  refine ⟨by rw [Tryz.ntmps123]; simp, ?_⟩
  obtain ⟨hl, hf⟩ := hp
  simp -implicitDefEqProofs [Tryz.f123, F158, List.lookup_cons, eS]
  refine loopP_inv (fun k : Nat => ⟨19, tl [(3, .optr 0 0 0 0), (7, .sl (tR l)), (8, I l.length), (9, I k)], [⟨59, 6, 0, [[I p.id, I p.src, I p.dst, I p.port, I p.mark, I p.size]], true, true, none⟩]⟩) (fun k => k ≤ l.length ∧ (l.take k).all (fun y => !tkP y p) = true) (fun k => l.length - k) 0 ⟨Nat.zero_le _, rfl⟩ (Wk.tl (by simp [hold, upd, tl_cons])) ?_
  rintro k ⟨hk, ha⟩
  by_cases h : k < l.length
  · have hw := w64n (show k < 4611686018427387904 by omega)
    obtain ⟨f0, f1⟩ := hf _ (List.getElem_mem h)
    have hfound := idxB_found (fun y => tkP y p) l k h ha
    have hstep := all_stepG l (fun y => !tkP y p) k h ha
    obtain ⟨y, hy0⟩ : ∃ y, l[k] = y := ⟨_, rfl⟩
    have hy : ∀ h', l[k]'(h') = y := fun _ => hy0
    rw [hy0] at f0 f1 hfound hstep
    cases ht : tkP y p with
    | true =>
      rw [hfound ht]
      simp -implicitDefEqProofs [List.lookup_cons, eS, h, hy, F158, f0, f1, ht]
      refine fin_pure (by simp) ?_
      simp -implicitDefEqProofs [fS, rn0, pickObs, deI]
    | false =>
      simp -implicitDefEqProofs [List.lookup_cons, eS, h, hy, F158, f0, f1, ht]
      refine ⟨k + 1, by omega, by simpa using hstep (by simp [ht]), by omega, ?_⟩
      refine Wk.tlP [0] (by simp [pickOk, ok0]) ?_ ?_
      · simp [pickObs]
      · simp [hold, upd, tl_cons, rn1, rn0, hw]
        try exact ⟨rfl, rfl⟩
  · have e : k = l.length := by omega
    subst e
    rw [List.take_length] at ha
    rw [idxB_none _ l ha]
    simp -implicitDefEqProofs [List.lookup_cons, eS]
    refine fin_pure (by simp) ?_
    simp -implicitDefEqProofs [fS, rn0, pickObs, deI]
def lfI (x : Ldd) (p : Pkt) : Int := if 0 ≤ idxB (fun y => tkP y p) x.fil then x.tgt.getD (idxB (fun y => tkP y p) x.fil).toNat 0 else x.dflt
theorem idxB_rng {α : Type} (p : α → Bool) (l : List α) : idxB p l = -1 ∨ ∃ k : Nat, idxB p l = (k : Int) ∧ k < l.length := by
  unfold idxB
  cases h : l.findIdx? p with
  | none => exact .inl rfl
  | some i => exact .inr ⟨i, rfl, (List.findIdx?_eq_some_iff_getElem.1 h).1⟩
theorem ldG_fld {x : Ldd} (G : LdG x) : x.fil.length ≤ 1048576 ∧ ∀ y ∈ x.fil, 0 ≤ y.field ∧ y.field ≤ 3 := by
  refine ⟨by have := G.f; omega, fun y hy => ?_⟩
  have := G.fil y hy
  simp only [Fil.ok, rng, Bool.and_eq_true, decide_eq_true_eq] at this
  omega
def F94 : Fun := ⟨fun xs => xs = [.agg (lX (deL (xs.getD 0 .top) : Ldd)), .agg (rX (deA (xs.getD 1 .top) : Pkt))] ∧ (fun (x : Ldd) (p : Pkt) => (LdG x)) (deL (xs.getD 0 .top) : Ldd) (deA (xs.getD 1 .top) : Pkt), fun xs => (fun (x : Ldd) (p : Pkt) => ((I (lfI x p), []) : X × List Ob)) (deL (xs.getD 0 .top) : Ldd) (deA (xs.getD 1 .top) : Pkt)⟩
theorem F94_in {xs : List X} (h : F94.pre xs) : ∃ (x : Ldd) (p : Pkt), xs = [.agg (lX x), .agg (rX p)] ∧ (LdG x) := ⟨_, _, h.1, h.2⟩
theorem F94_res (x : Ldd) (p : Pkt) : F94.res [.agg (lX x), .agg (rX p)] = (I (lfI x p), []) := by simp [F94]
theorem c94 : GenCA K Tryz.prog 94 F94 := by
  refine contractA Tryz.mix K [(125, F125)] [] (by simp [c125]) (by simp) Tryz.func94 rfl (by decide) ?_
  intro xs hxs
  obtain ⟨x, p, rfl, hp⟩ := F94_in hxs
  rw [F94_res]
  refine ⟨by rw [Tryz.ntmps94]; simp, ?_⟩
  have G := hp
  have hpre : F125.pre [.sl (tR x.fil), .agg [I p.id, I p.src, I p.dst, I p.port, I p.mark, I p.size]] := F125_mk x.fil p (ldG_fld G)
  have hres : F125.res [.sl (tR x.fil), .agg [I p.id, I p.src, I p.dst, I p.port, I p.mark, I p.size]] = (I (idxB (fun y => tkP y p) x.fil), []) := F125_res x.fil p
  unfold lfI
  rcases idxB_rng (fun y => tkP y p) x.fil with e | ⟨k, e, hk⟩
  · rw [e] at hres ⊢
    simp -implicitDefEqProofs [Tryz.f94, List.lookup_cons, eS, hpre, hres]
    refine fin_pure (by simp) ?_
    simp -implicitDefEqProofs [fS, rn0, pickObs, deI]
  · have hkt : k < x.tgt.length := by rw [G.lt]; exact hk
    rw [e] at hres ⊢
    rw [if_pos (by omega), Int.toNat_natCast, show x.tgt.getD k 0 = x.tgt[k] by simp [hkt]]
    simp -implicitDefEqProofs [Tryz.f94, List.lookup_cons, eS, hpre, hres, hkt]
    refine fin_pure (by simp) ?_
    simp -implicitDefEqProofs [fS, rn0, pickObs, deI]
theorem c92 : GenCA K Tryz.prog 92 F94 := by
  refine contractA Tryz.mix K [(123, F125)] [] (by simp [c123]) (by simp) Tryz.func92 rfl (by decide) ?_
  intro xs hxs
  obtain ⟨x, p, rfl, hp⟩ := F94_in hxs
  rw [F94_res]
  refine ⟨by rw [Tryz.ntmps92]; simp, ?_⟩
  have G := hp
  have hpre : F125.pre [.sl (tR x.fil), .agg [I p.id, I p.src, I p.dst, I p.port, I p.mark, I p.size]] := F125_mk x.fil p (ldG_fld G)
  have hres : F125.res [.sl (tR x.fil), .agg [I p.id, I p.src, I p.dst, I p.port, I p.mark, I p.size]] = (I (idxB (fun y => tkP y p) x.fil), []) := F125_res x.fil p
  unfold lfI
  rcases idxB_rng (fun y => tkP y p) x.fil with e | ⟨k, e, hk⟩
  · rw [e] at hres ⊢
    simp -implicitDefEqProofs [Tryz.f92, List.lookup_cons, eS, hpre, hres]
    refine fin_pure (by simp) ?_
    simp -implicitDefEqProofs [fS, rn0, pickObs, deI]
  · have hkt : k < x.tgt.length := by rw [G.lt]; exact hk
    rw [e] at hres ⊢
    rw [if_pos (by omega), Int.toNat_natCast, show x.tgt.getD k 0 = x.tgt[k] by simp [hkt]]
    simp -implicitDefEqProofs [Tryz.f92, List.lookup_cons, eS, hpre, hres, hkt]
    refine fin_pure (by simp) ?_
    simp -implicitDefEqProofs [fS, rn0, pickObs, deI]
def F44 : Fun := ⟨fun xs => xs = [.agg (lX (deL (xs.getD 0 .top) : Ldd)), .agg (rX (deA (xs.getD 1 .top) : Pkt))] ∧ (fun (x : Ldd) (p : Pkt) => (okM x)) (deL (xs.getD 0 .top) : Ldd) (deA (xs.getD 1 .top) : Pkt), fun xs => (fun (x : Ldd) (p : Pkt) => ((ibX (isLd x && (pkOk p && decide (0 ≤ lfI x p))) (lfI x p), []) : X × List Ob)) (deL (xs.getD 0 .top) : Ldd) (deA (xs.getD 1 .top) : Pkt)⟩
theorem F44_in {xs : List X} (h : F44.pre xs) : ∃ (x : Ldd) (p : Pkt), xs = [.agg (lX x), .agg (rX p)] ∧ (okM x) := ⟨_, _, h.1, h.2⟩
theorem F44_res (x : Ldd) (p : Pkt) : F44.res [.agg (lX x), .agg (rX p)] = (ibX (isLd x && (pkOk p && decide (0 ≤ lfI x p))) (lfI x p), []) := by simp [F44]
theorem F44_mk (x : Ldd) (p : Pkt) (h : okM x) : F44.pre [.agg (lX x), .agg (rX p)] := by simpa [F44] using h
theorem c44 : GenCA K Tryz.prog 44 F44 := by
  refine contractA Tryz.mix K [(33, F33), (93, F93), (94, F94)] [] (by simp [c33, c93, c94]) (by simp) Tryz.func44 rfl (by decide) ?_
  intro xs hxs
  obtain ⟨x, p, rfl, hp⟩ := F44_in hxs
  rw [F44_res]
  refine ⟨by rw [Tryz.ntmps44]; simp, ?_⟩
  cases g1 : isLd x with
  | false =>
    rw [Bool.false_and, ibX_f]
    simp -implicitDefEqProofs [Tryz.f44, F33, F93, F94, List.lookup_cons, eS, hp, g1]
    refine fin_pure (by simp) ?_
    simp -implicitDefEqProofs [fS, rn0, pickObs, deI]
  | true =>
  cases g2 : pkOk p with
  | false =>
    rw [Bool.false_and, Bool.and_false, ibX_f]
    simp -implicitDefEqProofs [Tryz.f44, F33, F93, F94, List.lookup_cons, eS, hp, g1, g2]
    refine fin_pure (by simp) ?_
    simp -implicitDefEqProofs [fS, rn0, pickObs, deI]
  | true =>
    have G := isLd_G g1
    rw [Bool.true_and, Bool.true_and]
    obtain ⟨v, hv⟩ : ∃ v, lfI x p = v := ⟨_, rfl⟩
    rw [hv]
    by_cases hz : 0 ≤ v
    · have hz' : ¬ v < 0 := by omega
      rw [decide_eq_true hz, ibX_t]
      simp -implicitDefEqProofs [Tryz.f44, F33, F93, F94, List.lookup_cons, eS, hp, g1, g2, G, hv, hz, hz']
      refine fin_pure (by simp) ?_
      simp -implicitDefEqProofs [fS, rn0, pickObs, deI]
    · have hz' : v < 0 := by omega
      rw [decide_eq_false hz, ibX_f]
      simp -implicitDefEqProofs [Tryz.f44, F33, F93, F94, List.lookup_cons, eS, hp, g1, g2, G, hv, hz, hz']
      refine fin_pure (by simp) ?_
      simp -implicitDefEqProofs [fS, rn0, pickObs, deI]
theorem c42 : GenCA K Tryz.prog 42 F44 := by
  refine contractA Tryz.mix K [(61, F33), (91, F93), (92, F94)] [] (by simp [c61, c91, c92]) (by simp) Tryz.func42 rfl (by decide) ?_
  intro xs hxs
  obtain ⟨x, p, rfl, hp⟩ := F44_in hxs
  rw [F44_res]
  refine ⟨by rw [Tryz.ntmps42]; simp, ?_⟩
  cases g1 : isLd x with
  | false =>
    rw [Bool.false_and, ibX_f]
    simp -implicitDefEqProofs [Tryz.f42, F33, F93, F94, List.lookup_cons, eS, hp, g1]
    refine fin_pure (by simp) ?_
    simp -implicitDefEqProofs [fS, rn0, pickObs, deI]
  | true =>
  cases g2 : pkOk p with
  | false =>
    rw [Bool.false_and, Bool.and_false, ibX_f]
    simp -implicitDefEqProofs [Tryz.f42, F33, F93, F94, List.lookup_cons, eS, hp, g1, g2]
    refine fin_pure (by simp) ?_
    simp -implicitDefEqProofs [fS, rn0, pickObs, deI]
  | true =>
    have G := isLd_G g1
    rw [Bool.true_and, Bool.true_and]
    obtain ⟨v, hv⟩ : ∃ v, lfI x p = v := ⟨_, rfl⟩
    rw [hv]
    by_cases hz : 0 ≤ v
    · have hz' : ¬ v < 0 := by omega
      rw [decide_eq_true hz, ibX_t]
      simp -implicitDefEqProofs [Tryz.f42, F33, F93, F94, List.lookup_cons, eS, hp, g1, g2, G, hv, hz, hz']
      refine fin_pure (by simp) ?_
      simp -implicitDefEqProofs [fS, rn0, pickObs, deI]
    · have hz' : v < 0 := by omega
      rw [decide_eq_false hz, ibX_f]
      simp -implicitDefEqProofs [Tryz.f42, F33, F93, F94, List.lookup_cons, eS, hp, g1, g2, G, hv, hz, hz']
      refine fin_pure (by simp) ?_
      simp -implicitDefEqProofs [fS, rn0, pickObs, deI]
end Go.Proofs
