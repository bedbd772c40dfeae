/-
  What is proved here: the contract of the reference's ParseEvents. Condition: none.
-/
import Derived.Test.YtecpfgnkiifnpaaDoorPE4n
import Derived.Test.YtecpfgnkiifnpaaDoorFRe
namespace Go.Proofs
open Go.Abs Go.Flat
set_option linter.unusedSimpArgs false
set_option linter.unnecessarySimpa false
set_option linter.unusedVariables false
set_option maxHeartbeats 16000000
set_option maxRecDepth 20000
theorem pEvS_len {l : List ByteArray} (h : l.length ≠ 5) : pEvS l = none := by
  match l with
  | [] => rfl
  | [_] => rfl
  | [_, _] => rfl
  | [_, _, _] => rfl
  | [_, _, _, _] => rfl
  | [_, _, _, _, _] => simp at h
  | _ :: _ :: _ :: _ :: _ :: _ :: _ => rfl
def peRS : Option (List Evt) → X × List Ob
  | some l => (.tup [.sl (tR l), B true], [])
  | none => (.tup [.sl [], B false], [])
/-- the event that a line is read into -/
def bxE (l : List Int) : Ob := ⟨62, 5, 0, [l.map fun a => I a], true, true, none⟩
def F20 : Fun := ⟨fun xs => ∃ s : ByteArray, xs = [Sx s] ∧ s.size ≤ 1048576, fun xs => peRS (peF pEvS (deS (xs.getD 0 .top)))⟩
theorem c20 : GenCA K Tryd.prog 20 F20 := by
  refine contractA Tryd.mix K [(26, F26), (35, F35), (36, F36.pu), (37, F37), (38, F38)] [] (by simp [c26, c35, c36.pu, c37, c38]) (by simp) Tryd.func20 rfl (by decide) ?_
  rintro xs ⟨s, rfl, hs⟩
  have hres : F20.res [Sx s] = peRS (peF pEvS s) := rfl
  rw [hres]
  refine ⟨by rw [Tryd.ntmps20]; simp, ?_⟩
  have p1 : F26.pre [.v (.string s), .v (.int .u8 10)] := ⟨s, 10, rfl, hs⟩
  have q1 : F26.res [.v (.string s), .v (.int .u8 10)] = (.sl (sR (splitB 10 s)), []) := sp_res s 10
  obtain ⟨hl, hw⟩ := split_sz 10 s hs
  have hne := splitB_ne 10 s
  unfold peF
  generalize splitB 10 s = ls at q1 hl hw hne ⊢
  have hpos : 0 < ls.length := List.length_pos_iff.2 hne
  by_cases h81 : 81 < ls.length
  · have h81' : (81 : Int) < ls.length := by omega
    rw [if_pos h81]
    simp -implicitDefEqProofs [Tryd.f20, List.lookup_cons, eS, Sx, p1, q1, wdO, h81, h81', sR_length]
    refine fin_pure (by simp) ?_
    simp -implicitDefEqProofs [fS, rn0, pickObs, deI, peRS]
  have h81' : ¬ (81 : Int) < ls.length := by omega
  rw [if_neg h81]
  have hwn : IntKind.i64.wrap ((ls.length : Int) - 1) = ((ls.length - 1 : Nat) : Int) := by rw [w64 (by omega) (by omega)]; omega
  simp -implicitDefEqProofs [Tryd.f20, List.lookup_cons, eS, Sx, p1, q1, wdO, h81, h81', hwn, eBuildSlice, srcRows, srcOk, chunk, eSlice, bnd, sR_length]
  refine ⟨fun r hr => sR_one' hr, ?_⟩
  refine loopP_inv (fun p : Nat × List Evt => ⟨79, tl [(0, .v (.string s)), (5, .osl 0 p.1), (21, .sl (List.take (ls.length - 1) (sR ls))), (22, I ((ls.length - 1 : Nat) : Int)), (23, I p.1)], [{ evsO p.2 with ver := p.1 }]⟩) (fun p => p.1 ≤ ls.length - 1 ∧ mapO pEvS (ls.take p.1) = some p.2) (fun p => ls.length - 1 - p.1) (0, []) ⟨Nat.zero_le _, rfl⟩ (by
      have e : [{ evsO ([] : List Evt) with ver := 0 }] = [] ++ [(⟨62, 5, 0, [], false, true, none⟩ : Ob)] := rfl
      dsimp only
      rw [e]
      exact Wk.tlN 62 5 5 (by simp [upd]) (by simp [hold, upd, tl_cons])) ?_
  rintro ⟨k, r⟩ ⟨hk, hr⟩
  dsimp only at hk hr ⊢
  by_cases h : k < ls.length - 1
  · have hkl : k < ls.length := by omega
    have hw1 := w64n (show k < 4611686018427387904 by omega)
    have hwk := hw _ (List.getElem_mem hkl)
    have p2 : F26.pre [.v (.string ls[k]), .v (.int .u8 32)] := ⟨ls[k], 32, rfl, hwk⟩
    have q2 : F26.res [.v (.string ls[k]), .v (.int .u8 32)] = (.sl (sR (splitB 32 ls[k])), []) := sp_res ls[k] 32
    obtain ⟨_, hw2⟩ := split_sz 32 ls[k] hwk
    cases hws : splitB 32 ls[k] with
    | nil => exact absurd hws (splitB_ne _ _)
    | cons w0 wt =>
    rw [hws] at q2 hw2
    generalize hg : w0 :: wt = ws at q2 hw2 hws
    by_cases h5 : ws.length = 5
    · obtain ⟨wa, wk, wc, wp, wz, rfl⟩ : ∃ a b c d e, ws = [a, b, c, d, e] := by
        match ws, h5 with
        | [a, b, c, d, e], _ => exact ⟨a, b, c, d, e, rfl⟩
      have nre : ∀ w, F35.res [.v (.string w)] = (I (rdNum (bL w)), []) := fun w => rfl
      have npr : ∀ w, (w = wa ∨ w = wk ∨ w = wc ∨ w = wp ∨ w = wz) → F35.pre [.v (.string w)] := fun w h => ⟨w, rfl, hw2 w (by simpa using h)⟩
      have pa := npr wa (by simp)
      have pc := npr wc (by simp)
      have pp := npr wp (by simp)
      have pz := npr wz (by simp)
      have pw : F36.pu.pre [] := F36_mk trivial
      have qw : pur2 (F36.res []).2 (F36.res []).1 = .sl (sR ens) := by simp [F36, strOb, sR]
      simp -implicitDefEqProofs [List.lookup_cons, eS, evsO, h, hkl, p2, q2, sR_length, sR_get]
      refine drawP_x _ [(17, 0), (0, 0), (1, 0), (2, 0), (3, 0), (4, 0), (5, 0), (6, 0), (7, 0), (8, 0), (9, 0), (10, 0), (11, 0), (12, 0), (13, 0), (14, 0), (15, 0), (16, 0), (18, 1)] [17, 18] (by decide) ?_
      simp -implicitDefEqProofs [List.lookup_cons, eS, evsO, sR, pa, pc, pp, pz, nre, pw, qw, OpOk]
      refine loopP_inv (fun j : Nat => ⟨79, tl [(0, .v (.string s)), (5, .osl 0 k), (8, .sl (sR [wa, wk, wc, wp, wz])), (9, .optr 1 0 0 0), (21, .sl (List.take (ls.length - 1) (sR ls))), (22, I ((ls.length - 1 : Nat) : Int)), (23, I k), (49, .sl (sR ens)), (50, I 5), (51, I j)], [{ evsO r with ver := k }, bxE [rdNum (bL wa), kUp wk j, rdNum (bL wc), rdNum (bL wp), rdNum (bL wz)]]⟩) (fun j => j ≤ 5) (fun j => 5 - j) 0 (by omega) (by exact Wk.tl (by simp [hold, upd, tl_cons, sR, ens])) ?_
      intro j hj
      match j, hj with
      | 0, _ =>
        have hu : kUp wk 1 = if (⟨#[]⟩ : ByteArray) = wk then 0 else kUp wk 0 := rfl
        by_cases hq : (⟨#[]⟩ : ByteArray) = wk
        · rw [if_pos hq] at hu
          obtain ⟨n1, n2⟩ := lit_eq (a := ⟨#[]⟩) (l := []) rfl hq
          simp -implicitDefEqProofs [List.lookup_cons, eS, evsO, bxE, sR, ens, n1, n2]
          refine ⟨1, by omega, by omega, ?_⟩
          rw [hu]
          exact Wk.tl (by simp [hold, upd, tl_cons, sR, ens, w1, w2, w3, w4, w5])
        · rw [if_neg hq] at hu
          obtain ⟨n1, n2, n3⟩ := lit_ne (a := ⟨#[]⟩) (l := []) rfl hq
          simp -implicitDefEqProofs [List.lookup_cons, eS, evsO, bxE, sR, ens, n1, n2, n3]
          refine ⟨1, by omega, by omega, ?_⟩
          rw [hu]
          exact Wk.tl (by simp [hold, upd, tl_cons, sR, ens, w1, w2, w3, w4, w5])
      | 1, _ =>
        have hu : kUp wk 2 = if (⟨#[105, 110]⟩ : ByteArray) = wk then 1 else kUp wk 1 := rfl
        by_cases hq : (⟨#[105, 110]⟩ : ByteArray) = wk
        · rw [if_pos hq] at hu
          obtain ⟨n1, n2⟩ := lit_eq (a := ⟨#[105, 110]⟩) (l := [105, 110]) rfl hq
          simp -implicitDefEqProofs [List.lookup_cons, eS, evsO, bxE, sR, ens, n1, n2]
          refine ⟨2, by omega, by omega, ?_⟩
          rw [hu]
          exact Wk.tl (by simp [hold, upd, tl_cons, sR, ens, w1, w2, w3, w4, w5])
        · rw [if_neg hq] at hu
          obtain ⟨n1, n2, n3⟩ := lit_ne (a := ⟨#[105, 110]⟩) (l := [105, 110]) rfl hq
          simp -implicitDefEqProofs [List.lookup_cons, eS, evsO, bxE, sR, ens, n1, n2, n3]
          refine ⟨2, by omega, by omega, ?_⟩
          rw [hu]
          exact Wk.tl (by simp [hold, upd, tl_cons, sR, ens, w1, w2, w3, w4, w5])
      | 2, _ =>
        have hu : kUp wk 3 = if (⟨#[102, 117, 108, 108]⟩ : ByteArray) = wk then 2 else kUp wk 2 := rfl
        by_cases hq : (⟨#[102, 117, 108, 108]⟩ : ByteArray) = wk
        · rw [if_pos hq] at hu
          obtain ⟨n1, n2⟩ := lit_eq (a := ⟨#[102, 117, 108, 108]⟩) (l := [102, 117, 108, 108]) rfl hq
          simp -implicitDefEqProofs [List.lookup_cons, eS, evsO, bxE, sR, ens, n1, n2]
          refine ⟨3, by omega, by omega, ?_⟩
          rw [hu]
          exact Wk.tl (by simp [hold, upd, tl_cons, sR, ens, w1, w2, w3, w4, w5])
        · rw [if_neg hq] at hu
          obtain ⟨n1, n2, n3⟩ := lit_ne (a := ⟨#[102, 117, 108, 108]⟩) (l := [102, 117, 108, 108]) rfl hq
          simp -implicitDefEqProofs [List.lookup_cons, eS, evsO, bxE, sR, ens, n1, n2, n3]
          refine ⟨3, by omega, by omega, ?_⟩
          rw [hu]
          exact Wk.tl (by simp [hold, upd, tl_cons, sR, ens, w1, w2, w3, w4, w5])
      | 3, _ =>
        have hu : kUp wk 4 = if (⟨#[108, 111, 115, 116]⟩ : ByteArray) = wk then 3 else kUp wk 3 := rfl
        by_cases hq : (⟨#[108, 111, 115, 116]⟩ : ByteArray) = wk
        · rw [if_pos hq] at hu
          obtain ⟨n1, n2⟩ := lit_eq (a := ⟨#[108, 111, 115, 116]⟩) (l := [108, 111, 115, 116]) rfl hq
          simp -implicitDefEqProofs [List.lookup_cons, eS, evsO, bxE, sR, ens, n1, n2]
          refine ⟨4, by omega, by omega, ?_⟩
          rw [hu]
          exact Wk.tl (by simp [hold, upd, tl_cons, sR, ens, w1, w2, w3, w4, w5])
        · rw [if_neg hq] at hu
          obtain ⟨n1, n2, n3⟩ := lit_ne (a := ⟨#[108, 111, 115, 116]⟩) (l := [108, 111, 115, 116]) rfl hq
          simp -implicitDefEqProofs [List.lookup_cons, eS, evsO, bxE, sR, ens, n1, n2, n3]
          refine ⟨4, by omega, by omega, ?_⟩
          rw [hu]
          exact Wk.tl (by simp [hold, upd, tl_cons, sR, ens, w1, w2, w3, w4, w5])
      | 4, _ =>
        have hu : kUp wk 5 = if (⟨#[111, 117, 116]⟩ : ByteArray) = wk then 4 else kUp wk 4 := rfl
        by_cases hq : (⟨#[111, 117, 116]⟩ : ByteArray) = wk
        · rw [if_pos hq] at hu
          obtain ⟨n1, n2⟩ := lit_eq (a := ⟨#[111, 117, 116]⟩) (l := [111, 117, 116]) rfl hq
          simp -implicitDefEqProofs [List.lookup_cons, eS, evsO, bxE, sR, ens, n1, n2]
          refine ⟨5, by omega, by omega, ?_⟩
          rw [hu]
          exact Wk.tl (by simp [hold, upd, tl_cons, sR, ens, w1, w2, w3, w4, w5])
        · rw [if_neg hq] at hu
          obtain ⟨n1, n2, n3⟩ := lit_ne (a := ⟨#[111, 117, 116]⟩) (l := [111, 117, 116]) rfl hq
          simp -implicitDefEqProofs [List.lookup_cons, eS, evsO, bxE, sR, ens, n1, n2, n3]
          refine ⟨5, by omega, by omega, ?_⟩
          rw [hu]
          exact Wk.tl (by simp [hold, upd, tl_cons, sR, ens, w1, w2, w3, w4, w5])
      | 5, _ =>
        have he : pEvS (splitB 32 ls[k]) = some ⟨rdNum (bL wa), kindW wk, rdNum (bL wc), rdNum (bL wp), rdNum (bL wz)⟩ := by rw [hws]; rfl
        have hlen := mapO_len hr
        rw [List.length_take] at hlen
        rw [kUp5]
        simp -implicitDefEqProofs [List.lookup_cons, eS, evsO, bxE, sR, ens, eAppend, eBuildSlice, srcRows, srcOk, chunk]
        refine ⟨by omega, by omega, k + 1, by omega, r ++ [_], mapO_next k hkl hr he, by omega, ?_⟩
        rw [show tR r ++ [[I (rdNum (bL wa)), I (kindW wk), I (rdNum (bL wc)), I (rdNum (bL wp)), I (rdNum (bL wz))]] = tR (r ++ [(⟨rdNum (bL wa), kindW wk, rdNum (bL wc), rdNum (bL wp), rdNum (bL wz)⟩ : Evt)]) by simp [tR]]
        exact Wk.tlD (m := 1) rfl (by simp [hold, upd, tl_cons, hw1]) (by simp [okL_cons, okL_nil, ok1, ok0]) (okH_tR _ _ _ _ _ _ _ _ _ (by simp [okH_nil]))
    · have he : pEvS (splitB 32 ls[k]) = none := by rw [hws]; exact pEvS_len h5
      rw [mapO_stop k _ hkl h hr he]
      have h5' : ¬ ((ws.length : Int) = 5) := by omega
      simp -implicitDefEqProofs [List.lookup_cons, eS, evsO, h, hkl, p2, q2, sR_length, sR_get, h5, h5']
      refine fin_pure (by simp) ?_
      simp -implicitDefEqProofs [fS, rn0, pickObs, deI, peRS]
  · have ek : k = ls.length - 1 := by omega
    subst ek
    rw [hr]
    have hlen := mapO_len hr
    rw [List.length_take] at hlen
    have hl9 : r.length ≤ 1048576 := by omega
    dsimp only
    cases ho : evsOk r with
    | false =>
      simp -implicitDefEqProofs [List.lookup_cons, eS, evsO, F37, F38, hl9, ho]
      refine fin_pure (by simp) ?_
      simp -implicitDefEqProofs [fS, rn0, pickObs, deI, peRS, ho]
    | true =>
      by_cases hb : evsB r = s
      · simp -implicitDefEqProofs [List.lookup_cons, eS, evsO, F37, F38, hl9, ho, hb]
        refine fin_pure (by simp) ?_
        simp -implicitDefEqProofs [fS, rn0, pickObs, deI, peRS, ho, hb, evsO]
      · have hb2 : ¬ (evsB r).toList = s.toList := fun e => hb (by have e2 := tl_eq (evsB r) s; rw [e] at e2; simpa using e2)
        have hb1 : ((evsB r).toList == s.toList) = false := by rw [tl_eq]; simpa using hb
        simp -implicitDefEqProofs [List.lookup_cons, eS, evsO, F37, F38, hl9, ho, hb, hb1, hb2]
        refine fin_pure (by simp) ?_
        simp -implicitDefEqProofs [fS, rn0, pickObs, deI, peRS, ho, hb]
end Go.Proofs
