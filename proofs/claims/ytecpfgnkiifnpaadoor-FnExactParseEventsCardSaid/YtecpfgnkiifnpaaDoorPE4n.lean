/-
  What is proved here: the contract of the program's ParseEvents. Condition: none.
-/
import Derived.Test.YtecpfgnkiifnpaaDoorPE3n
namespace Go.Proofs
open Go.Abs Go.Flat
set_option linter.unusedSimpArgs false
set_option linter.unnecessarySimpa false
set_option linter.unusedVariables false
set_option maxHeartbeats 16000000
set_option maxRecDepth 20000
theorem mapO_snoc (f : List ByteArray → Option Evt) : ∀ (l : List ByteArray) (w : ByteArray), mapO f (l ++ [w]) = (mapO f l).bind fun r => (f (splitB 32 w)).map fun e => r ++ [e]
  | [], w => by
    simp only [List.nil_append, mapO]
    cases f (splitB 32 w) <;> rfl
  | x :: l, w => by
    simp only [List.cons_append, mapO, mapO_snoc f l w]
    cases f (splitB 32 x) with
    | none => rfl
    | some e => cases mapO f l with
      | none => rfl
      | some r => cases f (splitB 32 w) <;> rfl
theorem mapO_app (f : List ByteArray → Option Evt) : ∀ (l m : List ByteArray), mapO f l = none → mapO f (l ++ m) = none
  | [], m, h => by cases h
  | x :: l, m, h => by
    simp only [List.cons_append, mapO] at h ⊢
    cases hx : f (splitB 32 x) with
    | none => rfl
    | some e =>
      rw [hx] at h
      simp only [Option.map_eq_none_iff] at h ⊢
      exact mapO_app f l m h
theorem mapO_next {f : List ByteArray → Option Evt} {l : List ByteArray} {r : List Evt} {e : Evt} (k : Nat) (hk : k < l.length) (h : mapO f (l.take k) = some r) (he : f (splitB 32 l[k]) = some e) : mapO f (l.take (k + 1)) = some (r ++ [e]) := by
  rw [takeS l k hk, mapO_snoc, h, Option.bind_some, he]
  rfl
theorem mapO_stop {f : List ByteArray → Option Evt} {l : List ByteArray} {r : List Evt} (k m : Nat) (hk : k < l.length) (hm : k < m) (h : mapO f (l.take k) = some r) (he : f (splitB 32 l[k]) = none) : mapO f (l.take m) = none := by
  have h1 : mapO f (l.take (k + 1)) = none := by
    rw [takeS l k hk, mapO_snoc, h, Option.bind_some, he]
    rfl
  have e : l.take m = l.take (k + 1) ++ (l.drop (k + 1)).take (m - (k + 1)) := by
    rw [← List.take_add]
    congr 1
    omega
  rw [e]
  exact mapO_app f _ _ h1
theorem mapO_len {f : List ByteArray → Option Evt} : ∀ {l : List ByteArray} {r : List Evt}, mapO f l = some r → r.length = l.length
  | [], r, h => by cases h; rfl
  | x :: l, r, h => by
    simp only [mapO] at h
    cases hx : f (splitB 32 x) with
    | none => rw [hx] at h; cases h
    | some e =>
      rw [hx] at h
      simp only [Option.map_eq_some_iff] at h
      obtain ⟨q, hq, rfl⟩ := h
      simp [mapO_len hq]
def evsO (l : List Evt) : Ob := ⟨62, 5, 0, tR l, false, true, none⟩
def peRI : Option (List Evt) → X × List Ob
  | some l => (.tup [.osl 0 0, B true], [evsO l])
  | none => (.tup [.sl [], B false], [])
def F21 : Fun := ⟨fun xs => ∃ s : ByteArray, xs = [Sx s] ∧ s.size ≤ 1048576, fun xs => peRI (peF pEvI (deS (xs.getD 0 .top)))⟩
theorem peX_none : peX none = .tup [.agg [I 0, I 0, I 0, I 0, I 0], B false] := rfl
theorem peX_some (e : Evt) : peX (some e) = .tup [.agg (rX e), B true] := rfl
theorem c21 : GenCA K3 Tryd.prog 21 F21 := by
  refine contractA Tryd.mix K3 [(39, F39), (40, F40), (41, F41)] [] (by simp [c39, c40, genMore c41 hK23]) (by simp) Tryd.func21 rfl (by decide) ?_
  rintro xs ⟨s, rfl, hs⟩
  have hres : F21.res [Sx s] = peRI (peF pEvI s) := rfl
  rw [hres]
  refine ⟨by rw [Tryd.ntmps21]; simp, ?_⟩
  have p1 : F39.pre [.v (.string s), .v (.string ⟨#[10]⟩)] := ⟨s, 10, rfl, hs⟩
  have q1 : F39.res [.v (.string s), .v (.string ⟨#[10]⟩)] = (.osl 0 0, [wdO (splitB 10 s)]) := rfl
  obtain ⟨hl, hw⟩ := split_sz 10 s hs
  have hne := splitB_ne 10 s
  unfold peF
  generalize splitB 10 s = ls at q1 hl hw hne ⊢
  have hpos : 0 < ls.length := List.length_pos_iff.2 hne
  by_cases h81 : 81 < ls.length
  · have h81' : (81 : Int) < ls.length := by omega
    rw [if_pos h81]
    simp -implicitDefEqProofs [Tryd.f21, List.lookup_cons, eS, Sx, p1, q1, wdO, h81, h81']
    refine fin_pure (by simp) ?_
    simp -implicitDefEqProofs [fS, rn0, pickObs, deI, peRI]
  have h81' : ¬ (81 : Int) < ls.length := by omega
  rw [if_neg h81]
  have hwn : IntKind.i64.wrap ((ls.length : Int) - 1) = ((ls.length - 1 : Nat) : Int) := by rw [w64 (by omega) (by omega)]; omega
  simp -implicitDefEqProofs [Tryd.f21, List.lookup_cons, eS, Sx, p1, q1, wdO, h81, h81', hwn, eBuildSlice, srcRows, srcOk, chunk, eSlice, bnd]
  refine loopP_inv (fun p : Nat × List Evt => ⟨53, tl [(0, .v (.string s)), (5, .osl 1 p.1), (22, .osub 0 0 0 (ls.length - 1)), (23, I ((ls.length - 1 : Nat) : Int)), (24, I p.1)], [wdO ls, { evsO p.2 with ver := p.1 }]⟩) (fun p => p.1 ≤ ls.length - 1 ∧ mapO pEvI (ls.take p.1) = some p.2) (fun p => ls.length - 1 - p.1) (0, []) ⟨Nat.zero_le _, rfl⟩ (Wk.tl (by simp [hold, upd, tl_cons])) ?_
  rintro ⟨k, r⟩ ⟨hk, hr⟩
  dsimp only at hk hr ⊢
  by_cases h : k < ls.length - 1
  · have hkl : k < ls.length := by omega
    have hw1 := w64n (show k < 4611686018427387904 by omega)
    have p2 : F40.pre [.v (.string ls[k])] := ⟨ls[k], rfl, hw _ (List.getElem_mem hkl)⟩
    have q2 : F40.res [.v (.string ls[k])] = (peX (pEvI (splitB 32 ls[k])), []) := rfl
    cases he : pEvI (splitB 32 ls[k]) with
    | none =>
      rw [he, peX_none] at q2
      rw [mapO_stop k _ hkl h hr he]
      simp -implicitDefEqProofs [List.lookup_cons, eS, wdO, evsO, h, hkl, p2, q2]
      refine fin_pure (by simp) ?_
      simp -implicitDefEqProofs [fS, rn0, pickObs, deI, peRI]
    | some e =>
      rw [he, peX_some] at q2
      simp -implicitDefEqProofs [List.lookup_cons, eS, wdO, evsO, h, hkl, p2, q2, eAppend, eBuildSlice, srcRows, srcOk, chunk]
      have hlen := mapO_len hr
      rw [List.length_take] at hlen
      refine ⟨by omega, by omega, k + 1, by omega, r ++ [e], mapO_next k hkl hr he, by omega, ?_⟩
      rw [show tR r ++ [[I e.tick, I e.kind, I e.cls, I e.pkt, I e.size]] = tR (r ++ [e]) by simp [tR]]
      exact Wk.tlD (m := 2) rfl (by simp [hold, upd, tl_cons, hw1]) (by simp [okL_cons, okL_nil, ok1, ok0]) (okH_sR _ _ _ _ _ _ _ _ _ (okH_tR _ _ _ _ _ _ _ _ _ (by simp [okH_nil])))
  · have ek : k = ls.length - 1 := by omega
    subst ek
    rw [hr]
    have hlen := mapO_len hr
    rw [List.length_take] at hlen
    have p3 : F41.pre [.sl (tR r)] := F41_mk r (by omega)
    have q3 : F41.res [.sl (tR r)] = (evR r, []) := F41_res r
    unfold evR at q3
    dsimp only
    cases ho : evsOk r with
    | false =>
      rw [ho] at q3
      simp at q3
      simp -implicitDefEqProofs [List.lookup_cons, eS, wdO, evsO, p3, q3]
      refine fin_pure (by simp) ?_
      simp -implicitDefEqProofs [fS, rn0, pickObs, deI, peRI, ho]
    | true =>
      rw [ho] at q3
      simp at q3
      by_cases hb : evsB r = s
      · simp -implicitDefEqProofs [List.lookup_cons, eS, wdO, evsO, p3, q3, hb]
        refine fin_own [1] (by simp [pickOk, -List.all_eq_true, tR_ok, ok0]) ?_
        simp -implicitDefEqProofs [fS, rn0, pickObs, deI, peRI, ho, hb, evsO]
      · have hb1 : ((evsB r).toList == s.toList) = false := by rw [tl_eq]; simpa using hb
        simp -implicitDefEqProofs [List.lookup_cons, eS, wdO, evsO, p3, q3, hb, hb1]
        refine fin_pure (by simp) ?_
        simp -implicitDefEqProofs [fS, rn0, pickObs, deI, peRI, ho, hb]
end Go.Proofs
