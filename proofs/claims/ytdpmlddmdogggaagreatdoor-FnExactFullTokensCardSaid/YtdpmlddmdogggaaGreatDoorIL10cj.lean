/-
  What is proved here: contracts of the tokens with which all is full. Condition: none.
-/
import Derived.Test.YtdpmlddmdogggaaGreatDoorIL9aj
namespace Go.Proofs
open Go.Abs
set_option linter.unusedSimpArgs false
set_option linter.unnecessarySimpa false
set_option linter.unusedVariables false
set_option maxHeartbeats 16000000
set_option maxRecDepth 20000
def buK (x : Ldd) (k : Nat) : List Int := (x.cls.take k).map Cls.burst
def cbK (x : Ldd) (k : Nat) : List Int := (x.cls.take k).map Cls.cburst
theorem buK_succ (x : Ldd) (k : Nat) (h : k < x.cls.length) : buK x (k + 1) = buK x k ++ [x.cls[k].burst] := by
  unfold buK
  rw [List.take_succ_eq_append_getElem h, List.map_append]
  rfl
theorem cbK_succ (x : Ldd) (k : Nat) (h : k < x.cls.length) : cbK x (k + 1) = cbK x k ++ [x.cls[k].cburst] := by
  unfold cbK
  rw [List.take_succ_eq_append_getElem h, List.map_append]
  rfl
theorem bK_len (x : Ldd) (k : Nat) (h : k ≤ x.cls.length) : (buK x k).length = k ∧ (cbK x k).length = k := by
  unfold buK cbK
  simp
  omega
def fullT (x : Ldd) : Tok := ⟨x.cls.map Cls.burst, x.cls.map Cls.cburst⟩
theorem bK_end (x : Ldd) : buK x x.cls.length = (fullT x).r ∧ cbK x x.cls.length = (fullT x).c := by simp [buK, cbK, fullT]
def tB0 : Ob := ⟨29, 2, 0, [[.v (.slice none 0 0), .v (.slice none 0 0)]], true, true, none⟩
def tB1 : Ob := ⟨29, 2, 0, [[.osl 3 0, .v (.slice none 0 0)]], true, true, none⟩
def tB2 : Ob := ⟨29, 2, 0, [[.osl 3 0, .osl 4 0]], true, true, none⟩
def F66 : Fun := ⟨fun xs => xs = [.agg (lX (deL (xs.getD 0 .top) : Ldd))] ∧ (fun (x : Ldd) => (LdG x)) (deL (xs.getD 0 .top) : Ldd), fun xs => (fun (x : Ldd) => ((kO, kOb (fullT x)) : X × List Ob)) (deL (xs.getD 0 .top) : Ldd)⟩
theorem F66_in {xs : List X} (h : F66.pre xs) : ∃ (x : Ldd), xs = [.agg (lX x)] ∧ (LdG x) := ⟨_, h.1, h.2⟩
theorem F66_res (x : Ldd) : F66.res [.agg (lX x)] = (kO, kOb (fullT x)) := by simp [F66]
theorem c66 : GenCA K Tryz.prog 66 F66 := by
  refine contractA Tryz.mix K [] [] (by simp) (by simp) Tryz.func66 rfl (by decide) ?_
  intro xs hxs
  obtain ⟨x, rfl, hp⟩ := F66_in hxs
  rw [F66_res]
  refine ⟨by rw [Tryz.ntmps66]; simp, ?_⟩
  have G := hp
  have hn := G.n
  simp -implicitDefEqProofs [Tryz.f66, List.lookup_cons, eS]
  refine loopP_inv (fun k : Nat => ⟨30, tl [(1, .optr 0 0 0 0), (2, .optr 1 0 0 0), (3, .optr 2 0 0 0), (8, .sl (tR x.cls)), (9, I x.cls.length), (10, I k)], [⟨35, 9, 0, [[.v (.string x.name), .sl (tR x.cls), .sl (iR x.par), .sl (iR x.fst), .sl (iR x.nx), .sl (iR x.en), .sl (tR x.fil), .sl (iR x.tgt), I x.dflt]], true, true, none⟩, tB0, tB2, iOb (buK x k), iOb (cbK x k)]⟩) (fun k => k ≤ x.cls.length) (fun k => x.cls.length - k) 0 (Nat.zero_le _) ?_ ?_
  · refine Wk.trans (b := ⟨30, tl [(1, .optr 0 0 0 0), (2, .optr 1 0 0 0), (3, .optr 2 0 0 0), (8, .sl (tR x.cls)), (9, I x.cls.length), (10, I 0)], [⟨35, 9, 0, [[.v (.string x.name), .sl (tR x.cls), .sl (iR x.par), .sl (iR x.fst), .sl (iR x.nx), .sl (iR x.en), .sl (tR x.fil), .sl (iR x.tgt), I x.dflt]], true, true, none⟩, tB0, tB0]⟩) ?_ (Wk.trans (b := ⟨30, tl [(1, .optr 0 0 0 0), (2, .optr 1 0 0 0), (3, .optr 2 0 0 0), (8, .sl (tR x.cls)), (9, I x.cls.length), (10, I 0)], [⟨35, 9, 0, [[.v (.string x.name), .sl (tR x.cls), .sl (iR x.par), .sl (iR x.fst), .sl (iR x.nx), .sl (iR x.en), .sl (tR x.fil), .sl (iR x.tgt), I x.dflt]], true, true, none⟩, tB0, tB1, iOb []]⟩) (Wk.nilF 3 1 2 0 0 tB0 rfl (by simp [tB0, at2]) (by simp [tB0, tB1, iOb, iR])) (Wk.nilF 3 1 2 0 1 tB1 rfl (by simp [tB1, at2]) (by simp [tB1, tB2, iOb, iR, buK, cbK])))
    simp only [tB0]
    exact Wk.tl (by simp [hold, upd, tl_cons])
  intro k hk
  by_cases h : k < x.cls.length
  · have hw := w64n (show k < 4611686018427387904 by omega)
    have hS1 := buK_succ x k h
    have hS2 := cbK_succ x k h
    obtain ⟨hL1, hL2⟩ := bK_len x k hk
    obtain ⟨b, hb⟩ : ∃ b, buK x k = b := ⟨_, rfl⟩
    obtain ⟨c, hc⟩ : ∃ c, cbK x k = c := ⟨_, rfl⟩
    rw [hb] at hS1 hL1 ⊢
    rw [hc] at hS2 hL2 ⊢
    obtain ⟨y, hy0⟩ : ∃ y, x.cls[k] = y := ⟨_, rfl⟩
    have hy : ∀ h', x.cls[k]'(h') = y := fun _ => hy0
    rw [hy0] at hS1 hS2
    simp -implicitDefEqProofs [List.lookup_cons, eS, h, hy, tB0, tB2, iOb, eAppend, eBuildSlice, srcRows, srcOk, chunk]
    refine ⟨by omega, by omega, by omega, by omega, k + 1, by omega, by omega, ?_⟩
    rw [hS1, hS2, ← snocI, ← snocI]
    refine Wk.tlPN [0, 1, 2, 3, 4] (by simp [pickOkN]) (by simp) ?_
    simp [hold, upd, tl_cons, hw]
  · have e : k = x.cls.length := by omega
    subst e
    obtain ⟨e1, e2⟩ := bK_end x
    rw [e1, e2]
    simp -implicitDefEqProofs [List.lookup_cons, eS, tB0, tB2, iOb]
    refine fin_ownN [3, 4] (by simp [pickOkN]) ?_
    simp [kO, kOb, iOb]
theorem c62 : GenCA K Tryz.prog 62 F66 := by
  refine contractA Tryz.mix K [] [] (by simp) (by simp) Tryz.func62 rfl (by decide) ?_
  intro xs hxs
  obtain ⟨x, rfl, hp⟩ := F66_in hxs
  rw [F66_res]
  refine ⟨by rw [Tryz.ntmps62]; simp, ?_⟩
  have G := hp
  have hn := G.n
  simp -implicitDefEqProofs [Tryz.f62, List.lookup_cons, eS]
  refine loopP_inv (fun k : Nat => ⟨30, tl [(1, .optr 0 0 0 0), (2, .optr 1 0 0 0), (3, .optr 2 0 0 0), (8, .sl (tR x.cls)), (9, I x.cls.length), (10, I k)], [⟨35, 9, 0, [[.v (.string x.name), .sl (tR x.cls), .sl (iR x.par), .sl (iR x.fst), .sl (iR x.nx), .sl (iR x.en), .sl (tR x.fil), .sl (iR x.tgt), I x.dflt]], true, true, none⟩, tB0, tB2, iOb (buK x k), iOb (cbK x k)]⟩) (fun k => k ≤ x.cls.length) (fun k => x.cls.length - k) 0 (Nat.zero_le _) ?_ ?_
  · refine Wk.trans (b := ⟨30, tl [(1, .optr 0 0 0 0), (2, .optr 1 0 0 0), (3, .optr 2 0 0 0), (8, .sl (tR x.cls)), (9, I x.cls.length), (10, I 0)], [⟨35, 9, 0, [[.v (.string x.name), .sl (tR x.cls), .sl (iR x.par), .sl (iR x.fst), .sl (iR x.nx), .sl (iR x.en), .sl (tR x.fil), .sl (iR x.tgt), I x.dflt]], true, true, none⟩, tB0, tB0]⟩) ?_ (Wk.trans (b := ⟨30, tl [(1, .optr 0 0 0 0), (2, .optr 1 0 0 0), (3, .optr 2 0 0 0), (8, .sl (tR x.cls)), (9, I x.cls.length), (10, I 0)], [⟨35, 9, 0, [[.v (.string x.name), .sl (tR x.cls), .sl (iR x.par), .sl (iR x.fst), .sl (iR x.nx), .sl (iR x.en), .sl (tR x.fil), .sl (iR x.tgt), I x.dflt]], true, true, none⟩, tB0, tB1, iOb []]⟩) (Wk.nilF 3 1 2 0 0 tB0 rfl (by simp [tB0, at2]) (by simp [tB0, tB1, iOb, iR])) (Wk.nilF 3 1 2 0 1 tB1 rfl (by simp [tB1, at2]) (by simp [tB1, tB2, iOb, iR, buK, cbK])))
    simp only [tB0]
    exact Wk.tl (by simp [hold, upd, tl_cons])
  intro k hk
  by_cases h : k < x.cls.length
  · have hw := w64n (show k < 4611686018427387904 by omega)
    have hS1 := buK_succ x k h
    have hS2 := cbK_succ x k h
    obtain ⟨hL1, hL2⟩ := bK_len x k hk
    obtain ⟨b, hb⟩ : ∃ b, buK x k = b := ⟨_, rfl⟩
    obtain ⟨c, hc⟩ : ∃ c, cbK x k = c := ⟨_, rfl⟩
    rw [hb] at hS1 hL1 ⊢
    rw [hc] at hS2 hL2 ⊢
    obtain ⟨y, hy0⟩ : ∃ y, x.cls[k] = y := ⟨_, rfl⟩
    have hy : ∀ h', x.cls[k]'(h') = y := fun _ => hy0
    rw [hy0] at hS1 hS2
    simp -implicitDefEqProofs [List.lookup_cons, eS, h, hy, tB0, tB2, iOb, eAppend, eBuildSlice, srcRows, srcOk, chunk]
    refine ⟨by omega, by omega, by omega, by omega, k + 1, by omega, by omega, ?_⟩
    rw [hS1, hS2, ← snocI, ← snocI]
    refine Wk.tlPN [0, 1, 2, 3, 4] (by simp [pickOkN]) (by simp) ?_
    simp [hold, upd, tl_cons, hw]
  · have e : k = x.cls.length := by omega
    subst e
    obtain ⟨e1, e2⟩ := bK_end x
    rw [e1, e2]
    simp -implicitDefEqProofs [List.lookup_cons, eS, tB0, tB2, iOb]
    refine fin_ownN [3, 4] (by simp [pickOkN]) ?_
    simp [kO, kOb, iOb]
def fuX (x : Ldd) : X × List Ob := if isLd x = true then (.tup [kO, B true], kOb (fullT x)) else (.tup [.agg (tkX nilTk), B false], [])
theorem pnilT (h : List Ob) : purN h 2 (.v (.slice none 0 0)) = .sl [] := rfl
def F20 : Fun := ⟨fun xs => xs = [.agg (lX (deL (xs.getD 0 .top) : Ldd))] ∧ (fun (x : Ldd) => (okM x)) (deL (xs.getD 0 .top) : Ldd), fun xs => (fun (x : Ldd) => ((fuX x) : X × List Ob)) (deL (xs.getD 0 .top) : Ldd)⟩
theorem F20_in {xs : List X} (h : F20.pre xs) : ∃ (x : Ldd), xs = [.agg (lX x)] ∧ (okM x) := ⟨_, h.1, h.2⟩
theorem F20_res (x : Ldd) : F20.res [.agg (lX x)] = (fuX x) := by simp [F20]
theorem F20_mk (x : Ldd) (h : okM x) : F20.pre [.agg (lX x)] := by simpa [F20] using h
theorem c20 : GenCA K Tryz.prog 20 F20 := by
  refine contractA Tryz.mix K [(33, F33), (66, F66)] [] (by simp [c33, c66]) (by simp) Tryz.func20 rfl (by decide) ?_
  intro xs hxs
  obtain ⟨x, rfl, hp⟩ := F20_in hxs
  rw [F20_res]
  refine ⟨by rw [Tryz.ntmps20]; simp, ?_⟩
  cases g : isLd x with
  | false =>
    have e : fuX x = (.tup [.agg (tkX nilTk), B false], []) := by simp [fuX, g]
    rw [e]
    simp -implicitDefEqProofs [Tryz.f20, F33, F66, List.lookup_cons, eS, hp, g]
    refine fin_pure (by simp) ?_
    simp -implicitDefEqProofs [fS, rn0, pickObs, deI, pnilT, nilTk, iR]
  | true =>
    have e : fuX x = (.tup [kO, B true], kOb (fullT x)) := by simp [fuX, g]
    rw [e]
    have G := isLd_G g
    obtain ⟨T, hT⟩ : ∃ T, fullT x = T := ⟨_, rfl⟩
    rw [hT]
    simp -implicitDefEqProofs [Tryz.f20, F33, F66, List.lookup_cons, eS, hp, g, G, hT, kO, kOb, iOb]
    refine fin_ownN [2, 3] (by simp [pickOkN]) ?_
    simp
theorem c18 : GenCA K Tryz.prog 18 F20 := by
  refine contractA Tryz.mix K [(61, F33), (62, F66)] [] (by simp [c61, c62]) (by simp) Tryz.func18 rfl (by decide) ?_
  intro xs hxs
  obtain ⟨x, rfl, hp⟩ := F20_in hxs
  rw [F20_res]
  refine ⟨by rw [Tryz.ntmps18]; simp, ?_⟩
  cases g : isLd x with
  | false =>
    have e : fuX x = (.tup [.agg (tkX nilTk), B false], []) := by simp [fuX, g]
    rw [e]
    simp -implicitDefEqProofs [Tryz.f18, F33, F66, List.lookup_cons, eS, hp, g]
    refine fin_pure (by simp) ?_
    simp -implicitDefEqProofs [fS, rn0, pickObs, deI, pnilT, nilTk, iR]
  | true =>
    have e : fuX x = (.tup [kO, B true], kOb (fullT x)) := by simp [fuX, g]
    rw [e]
    have G := isLd_G g
    obtain ⟨T, hT⟩ : ∃ T, fullT x = T := ⟨_, rfl⟩
    rw [hT]
    simp -implicitDefEqProofs [Tryz.f18, F33, F66, List.lookup_cons, eS, hp, g, G, hT, kO, kOb, iOb]
    refine fin_ownN [2, 3] (by simp [pickOkN]) ?_
    simp
end Go.Proofs
