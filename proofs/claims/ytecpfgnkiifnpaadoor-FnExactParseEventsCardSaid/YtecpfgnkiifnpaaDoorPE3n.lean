/-
  What is proved here: the contract of the program's reading of one event. Condition: none.
-/
import Derived.Test.YtecpfgnkiifnpaaDoorPE2n
namespace Go.Proofs
open Go.Abs Go.Flat
set_option linter.unusedSimpArgs false
set_option linter.unnecessarySimpa false
set_option linter.unusedVariables false
set_option maxHeartbeats 16000000
set_option maxRecDepth 20000
theorem w1 : IntKind.i64.wrap 1 = 1 := by decide
theorem w2 : IntKind.i64.wrap 2 = 2 := by decide
theorem w3 : IntKind.i64.wrap 3 = 3 := by decide
theorem w4 : IntKind.i64.wrap 4 = 4 := by decide
theorem w5 : IntKind.i64.wrap 5 = 5 := by decide
theorem lit_ne {a w : ByteArray} {l : List UInt8} (ha : a.data.toList = l) (h : ¬ a = w) : (l == w.toList) = false ∧ ¬ w.toList = l ∧ ¬ l = w.toList := by
  have e := tl_eq a w
  rw [Lib.toList_data, ha, decide_eq_false h] at e
  have h2 : l ≠ w.toList := beq_eq_false_iff_ne.1 e
  exact ⟨e, fun x => h2 x.symm, h2⟩
theorem lit_eq {a w : ByteArray} {l : List UInt8} (ha : a.data.toList = l) (h : a = w) : (l == w.toList) = true ∧ w.toList = l := by
  subst h
  rw [Lib.toList_data, ha]
  exact ⟨by simp, rfl⟩
theorem cst_ni : cst .nilIface = .v .nilIface := rfl
theorem ifErr : Tryd.prog.methodsAt 99 = (match Tryd.prog.underlying 99 with | some (.interface m) => m | _ => #[]) := rfl
def peX : Option Evt → X
  | some e => .tup [.agg (rX e), B true]
  | none => .tup [.agg (rX Evt.z), B false]
def F40 : Fun := ⟨fun xs => ∃ s : ByteArray, xs = [Sx s] ∧ s.size ≤ 1048576, fun xs => (peX (pEvI (splitB 32 (deS (xs.getD 0 .top)))), [])⟩
/-- the kind found among the first names -/
def kUp (w : ByteArray) : Nat → Int
  | 0 => 0
  | k + 1 => if ens.getD k emB = w then (k : Int) else kUp w k
theorem kUp5 (w : ByteArray) : kUp w 5 = kindW w := by
  unfold kindW
  simp only [kUp, ens, List.getD, List.getElem?_cons_succ, List.getElem?_cons_zero, Option.getD_some, eq_comm (b := w)]
  simp
/-- the box of five numbers -/
def bxO (l : List Int) : Ob := ⟨96, 5, 0, [l.map fun a => I a], true, true, none⟩
def evO : Ob := ⟨62, 5, 0, [[I 0, I 0, I 0, I 0, I 0]], true, true, none⟩
def arrP (a k c p z : Int) : Nat → List Int
  | 0 => [0, 0, 0, 0, 0]
  | 1 => [a, 0, 0, 0, 0]
  | 2 => [a, k, 0, 0, 0]
  | 3 => [a, k, c, 0, 0]
  | 4 => [a, k, c, p, 0]
  | _ => [a, k, c, p, z]
theorem split_sz (c : UInt8) (s : ByteArray) (h : s.size ≤ 1048576) : (splitB c s).length ≤ 1048577 ∧ ∀ w ∈ splitB c s, w.size ≤ 1048576 := by
  have := split_le c s
  exact ⟨by omega, fun w hw => by have := this.2 w hw; omega⟩
theorem atX_none {w : ByteArray} (h : atI w = none) : atX w = .tup [.top, .ni] := by unfold atX; rw [h]
theorem atX_some {w : ByteArray} {v : Int} (h : atI w = some v) : atX w = .tup [I v, .v .nilIface] := by unfold atX; rw [h]
theorem pEvI_len {l : List ByteArray} (h : l.length ≠ 5) : pEvI l = none := by
  match l with
  | [] => rfl
  | [_] => rfl
  | [_, _] => rfl
  | [_, _, _] => rfl
  | [_, _, _, _] => rfl
  | [_, _, _, _, _] => simp at h
  | _ :: _ :: _ :: _ :: _ :: _ :: _ => rfl
theorem c40 : GenCA K3 Tryd.prog 40 F40 := by
  refine contractA Tryd.mix K3 [(39, F39), (60, F60)] [] (by simp [c39, c60]) (by simp) Tryd.func40 rfl (by decide) ?_
  rintro xs ⟨s, rfl, hs⟩
  have hres : F40.res [Sx s] = (peX (pEvI (splitB 32 s)), []) := rfl
  rw [hres]
  refine ⟨by rw [Tryd.ntmps40]; simp, ?_⟩
  have p1 : F39.pre [.v (.string s), .v (.string ⟨#[32]⟩)] := ⟨s, 32, rfl, hs⟩
  have q1 : F39.res [.v (.string s), .v (.string ⟨#[32]⟩)] = (.osl 0 0, [wdO (splitB 32 s)]) := rfl
  obtain ⟨hl, hw⟩ := split_sz 32 s hs
  generalize splitB 32 s = ws at q1 hl hw ⊢
  by_cases h5 : ws.length = 5
  · obtain ⟨wa, wk, wc, wp, wz, rfl⟩ : ∃ a b c d e, ws = [a, b, c, d, e] := by
      match ws, h5 with
      | [a, b, c, d, e], _ => exact ⟨a, b, c, d, e, rfl⟩
    have wsz : ∀ w, (w = wa ∨ w = wk ∨ w = wc ∨ w = wp ∨ w = wz) → F60.pre [.v (.string w)] := fun w h => ⟨w, rfl, hw w (by simpa using h)⟩
    have wre : ∀ w, F60.res [.v (.string w)] = (atX w, []) := fun w => rfl
    have pa := wsz wa (by simp)
    have pc := wsz wc (by simp)
    have pp := wsz wp (by simp)
    have pz := wsz wz (by simp)
    simp -implicitDefEqProofs [Tryd.f40, List.lookup_cons, eS, Sx, p1, q1, wdO, sR]
    refine loopP_inv (fun k : Nat => ⟨63, tl [(2, .optr 0 0 0 0), (3, B false), (5, .optr 2 0 0 0), (19, .osl 1 0), (20, I 5), (21, I k)], [evO, wdO [wa, wk, wc, wp, wz], bxO (arrP ((atI wa).getD 0) (kindW wk) ((atI wc).getD 0) ((atI wp).getD 0) ((atI wz).getD 0) k)]⟩) (fun k => k ≤ 5 ∧ (1 ≤ k → atI wa ≠ none) ∧ (3 ≤ k → atI wc ≠ none) ∧ (4 ≤ k → atI wp ≠ none) ∧ (5 ≤ k → atI wz ≠ none)) (fun k => 5 - k) 0 ⟨by omega, by omega, by omega, by omega, by omega⟩ (by
      rw [show [evO, wdO [wa, wk, wc, wp, wz], bxO (arrP ((atI wa).getD 0) (kindW wk) ((atI wc).getD 0) ((atI wp).getD 0) ((atI wz).getD 0) 0)] = _ from rfl]
      exact Wk.tl (by simp [hold, upd, tl_cons])) ?_
    rintro k ⟨hk, ka, kc, kp, kz⟩
    match k, hk with
    | 0, _ =>
      cases ha : atI wa with
      | none =>
        simp -implicitDefEqProofs [List.lookup_cons, eS, evO, wdO, bxO, arrP, sR, pa, wre, atX_none ha, ifErr, cst_ni]
        refine fin_pure (by simp) ?_
        simp -implicitDefEqProofs [fS, rn0, pickObs, deI, peX, pEvI, ha, Evt.z]
      | some va =>
        simp -implicitDefEqProofs [List.lookup_cons, eS, evO, wdO, bxO, arrP, sR, pa, wre, atX_some ha, ifErr, cst_ni]
        exact ⟨1, by omega, by omega, by omega, by omega, by omega, Wk.tl (by simp [hold, upd, tl_cons, arrP, w1, w2, w3, w4, w5])⟩
    | 1, _ =>
      obtain ⟨va, ha⟩ := Option.ne_none_iff_exists'.1 (ka (by omega))
      simp -implicitDefEqProofs [List.lookup_cons, eS, evO, wdO, bxO, arrP, sR, ha, K3, enX, ens]
      refine loopP_inv (fun j : Nat => ⟨63, tl [(2, .optr 0 0 0 0), (3, B false), (5, .optr 2 0 0 0), (6, I 1), (7, .v (.string wk)), (19, .osl 1 0), (20, I 5), (21, I 1), (28, .agg enX), (29, I j)], [evO, wdO [wa, wk, wc, wp, wz], bxO [va, kUp wk j, 0, 0, 0]]⟩) (fun j => j ≤ 5) (fun j => 5 - j) 0 (by omega) (Wk.tl (by simp [hold, upd, tl_cons, enX, ens])) ?_
      intro j hj
      match j, hj with
      | 0, _ =>
        have hu : kUp wk 1 = if (⟨#[]⟩ : ByteArray) = wk then 0 else kUp wk 0 := rfl
        by_cases hq : (⟨#[]⟩ : ByteArray) = wk
        · rw [if_pos hq] at hu
          obtain ⟨n1, n2⟩ := lit_eq (a := ⟨#[]⟩) (l := []) rfl hq
          simp -implicitDefEqProofs [List.lookup_cons, eS, evO, wdO, bxO, sR, enX, ens, n1, n2]
          refine ⟨1, by omega, by omega, ?_⟩
          rw [hu]
          exact Wk.tl (by simp [hold, upd, tl_cons, enX, ens, w1, w2, w3, w4, w5])
        · rw [if_neg hq] at hu
          obtain ⟨n1, n2, n3⟩ := lit_ne (a := ⟨#[]⟩) (l := []) rfl hq
          simp -implicitDefEqProofs [List.lookup_cons, eS, evO, wdO, bxO, sR, enX, ens, n1, n2, n3]
          refine ⟨1, by omega, by omega, ?_⟩
          rw [hu]
          exact Wk.tl (by simp [hold, upd, tl_cons, enX, ens, w1, w2, w3, w4, w5])
      | 1, _ =>
        have hu : kUp wk 2 = if (⟨#[105, 110]⟩ : ByteArray) = wk then 1 else kUp wk 1 := rfl
        by_cases hq : (⟨#[105, 110]⟩ : ByteArray) = wk
        · rw [if_pos hq] at hu
          obtain ⟨n1, n2⟩ := lit_eq (a := ⟨#[105, 110]⟩) (l := [105, 110]) rfl hq
          simp -implicitDefEqProofs [List.lookup_cons, eS, evO, wdO, bxO, sR, enX, ens, n1, n2]
          refine ⟨2, by omega, by omega, ?_⟩
          rw [hu]
          exact Wk.tl (by simp [hold, upd, tl_cons, enX, ens, w1, w2, w3, w4, w5])
        · rw [if_neg hq] at hu
          obtain ⟨n1, n2, n3⟩ := lit_ne (a := ⟨#[105, 110]⟩) (l := [105, 110]) rfl hq
          simp -implicitDefEqProofs [List.lookup_cons, eS, evO, wdO, bxO, sR, enX, ens, n1, n2, n3]
          refine ⟨2, by omega, by omega, ?_⟩
          rw [hu]
          exact Wk.tl (by simp [hold, upd, tl_cons, enX, ens, w1, w2, w3, w4, w5])
      | 2, _ =>
        have hu : kUp wk 3 = if (⟨#[102, 117, 108, 108]⟩ : ByteArray) = wk then 2 else kUp wk 2 := rfl
        by_cases hq : (⟨#[102, 117, 108, 108]⟩ : ByteArray) = wk
        · rw [if_pos hq] at hu
          obtain ⟨n1, n2⟩ := lit_eq (a := ⟨#[102, 117, 108, 108]⟩) (l := [102, 117, 108, 108]) rfl hq
          simp -implicitDefEqProofs [List.lookup_cons, eS, evO, wdO, bxO, sR, enX, ens, n1, n2]
          refine ⟨3, by omega, by omega, ?_⟩
          rw [hu]
          exact Wk.tl (by simp [hold, upd, tl_cons, enX, ens, w1, w2, w3, w4, w5])
        · rw [if_neg hq] at hu
          obtain ⟨n1, n2, n3⟩ := lit_ne (a := ⟨#[102, 117, 108, 108]⟩) (l := [102, 117, 108, 108]) rfl hq
          simp -implicitDefEqProofs [List.lookup_cons, eS, evO, wdO, bxO, sR, enX, ens, n1, n2, n3]
          refine ⟨3, by omega, by omega, ?_⟩
          rw [hu]
          exact Wk.tl (by simp [hold, upd, tl_cons, enX, ens, w1, w2, w3, w4, w5])
      | 3, _ =>
        have hu : kUp wk 4 = if (⟨#[108, 111, 115, 116]⟩ : ByteArray) = wk then 3 else kUp wk 3 := rfl
        by_cases hq : (⟨#[108, 111, 115, 116]⟩ : ByteArray) = wk
        · rw [if_pos hq] at hu
          obtain ⟨n1, n2⟩ := lit_eq (a := ⟨#[108, 111, 115, 116]⟩) (l := [108, 111, 115, 116]) rfl hq
          simp -implicitDefEqProofs [List.lookup_cons, eS, evO, wdO, bxO, sR, enX, ens, n1, n2]
          refine ⟨4, by omega, by omega, ?_⟩
          rw [hu]
          exact Wk.tl (by simp [hold, upd, tl_cons, enX, ens, w1, w2, w3, w4, w5])
        · rw [if_neg hq] at hu
          obtain ⟨n1, n2, n3⟩ := lit_ne (a := ⟨#[108, 111, 115, 116]⟩) (l := [108, 111, 115, 116]) rfl hq
          simp -implicitDefEqProofs [List.lookup_cons, eS, evO, wdO, bxO, sR, enX, ens, n1, n2, n3]
          refine ⟨4, by omega, by omega, ?_⟩
          rw [hu]
          exact Wk.tl (by simp [hold, upd, tl_cons, enX, ens, w1, w2, w3, w4, w5])
      | 4, _ =>
        have hu : kUp wk 5 = if (⟨#[111, 117, 116]⟩ : ByteArray) = wk then 4 else kUp wk 4 := rfl
        by_cases hq : (⟨#[111, 117, 116]⟩ : ByteArray) = wk
        · rw [if_pos hq] at hu
          obtain ⟨n1, n2⟩ := lit_eq (a := ⟨#[111, 117, 116]⟩) (l := [111, 117, 116]) rfl hq
          simp -implicitDefEqProofs [List.lookup_cons, eS, evO, wdO, bxO, sR, enX, ens, n1, n2]
          refine ⟨5, by omega, by omega, ?_⟩
          rw [hu]
          exact Wk.tl (by simp [hold, upd, tl_cons, enX, ens, w1, w2, w3, w4, w5])
        · rw [if_neg hq] at hu
          obtain ⟨n1, n2, n3⟩ := lit_ne (a := ⟨#[111, 117, 116]⟩) (l := [111, 117, 116]) rfl hq
          simp -implicitDefEqProofs [List.lookup_cons, eS, evO, wdO, bxO, sR, enX, ens, n1, n2, n3]
          refine ⟨5, by omega, by omega, ?_⟩
          rw [hu]
          exact Wk.tl (by simp [hold, upd, tl_cons, enX, ens, w1, w2, w3, w4, w5])
      | 5, _ =>
        rw [kUp5]
        simp -implicitDefEqProofs [List.lookup_cons, eS, evO, wdO, bxO, sR, enX, ens, ha]
        exact ⟨2, by omega, by omega, by omega, by omega, by omega, Wk.tl (by simp [hold, upd, tl_cons, arrP, w1, w2, w3, w4, w5, ha])⟩
    | 2, _ =>
      obtain ⟨va, ha⟩ := Option.ne_none_iff_exists'.1 (ka (by omega))
      cases hc : atI wc with
      | none =>
        simp -implicitDefEqProofs [List.lookup_cons, eS, evO, wdO, bxO, arrP, sR, pc, wre, atX_none hc, ifErr, cst_ni, ha]
        refine fin_pure (by simp) ?_
        simp -implicitDefEqProofs [fS, rn0, pickObs, deI, peX, pEvI, hc, Evt.z, ha]
      | some vc =>
        simp -implicitDefEqProofs [List.lookup_cons, eS, evO, wdO, bxO, arrP, sR, pc, wre, atX_some hc, ifErr, cst_ni, ha]
        exact ⟨3, by omega, by omega, by omega, by omega, Wk.tl (by simp [hold, upd, tl_cons, arrP, w1, w2, w3, w4, w5, ha])⟩
    | 3, _ =>
      obtain ⟨va, ha⟩ := Option.ne_none_iff_exists'.1 (ka (by omega))
      obtain ⟨vc, hc⟩ := Option.ne_none_iff_exists'.1 (kc (by omega))
      cases hp : atI wp with
      | none =>
        simp -implicitDefEqProofs [List.lookup_cons, eS, evO, wdO, bxO, arrP, sR, pp, wre, atX_none hp, ifErr, cst_ni, ha, hc]
        refine fin_pure (by simp) ?_
        simp -implicitDefEqProofs [fS, rn0, pickObs, deI, peX, pEvI, hp, Evt.z, ha, hc]
      | some vp =>
        simp -implicitDefEqProofs [List.lookup_cons, eS, evO, wdO, bxO, arrP, sR, pp, wre, atX_some hp, ifErr, cst_ni, ha, hc]
        exact ⟨4, by omega, by omega, by omega, Wk.tl (by simp [hold, upd, tl_cons, arrP, w1, w2, w3, w4, w5, ha, hc])⟩
    | 4, _ =>
      obtain ⟨va, ha⟩ := Option.ne_none_iff_exists'.1 (ka (by omega))
      obtain ⟨vc, hc⟩ := Option.ne_none_iff_exists'.1 (kc (by omega))
      obtain ⟨vp, hp⟩ := Option.ne_none_iff_exists'.1 (kp (by omega))
      cases hz : atI wz with
      | none =>
        simp -implicitDefEqProofs [List.lookup_cons, eS, evO, wdO, bxO, arrP, sR, pz, wre, atX_none hz, ifErr, cst_ni, ha, hc, hp]
        refine fin_pure (by simp) ?_
        simp -implicitDefEqProofs [fS, rn0, pickObs, deI, peX, pEvI, hz, Evt.z, ha, hc, hp]
      | some vz =>
        simp -implicitDefEqProofs [List.lookup_cons, eS, evO, wdO, bxO, arrP, sR, pz, wre, atX_some hz, ifErr, cst_ni, ha, hc, hp]
        exact ⟨5, by omega, by omega, Wk.tl (by simp [hold, upd, tl_cons, arrP, w1, w2, w3, w4, w5, ha, hc, hp])⟩
    | 5, _ =>
      obtain ⟨va, ha⟩ := Option.ne_none_iff_exists'.1 (ka (by omega))
      obtain ⟨vc, hc⟩ := Option.ne_none_iff_exists'.1 (kc (by omega))
      obtain ⟨vp, hp⟩ := Option.ne_none_iff_exists'.1 (kp (by omega))
      obtain ⟨vz, hz⟩ := Option.ne_none_iff_exists'.1 (kz (by omega))
      simp -implicitDefEqProofs [List.lookup_cons, eS, evO, wdO, bxO, arrP, sR, ha, hc, hp, hz]
      refine fin_pure (by simp) ?_
      simp -implicitDefEqProofs [fS, rn0, pickObs, deI, peX, pEvI, ha, hc, hp, hz]
  · rw [pEvI_len h5]
    have h5' : ¬ ((ws.length : Int) = 5) := by omega
    simp -implicitDefEqProofs [Tryd.f40, List.lookup_cons, eS, Sx, p1, q1, wdO, h5, h5']
    refine fin_pure (by simp) ?_
    simp -implicitDefEqProofs [fS, rn0, pickObs, deI, peX, Evt.z]
end Go.Proofs
