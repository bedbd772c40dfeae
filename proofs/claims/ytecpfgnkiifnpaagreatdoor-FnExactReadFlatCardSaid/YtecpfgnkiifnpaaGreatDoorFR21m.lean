/-
  What is proved here: the contract of the reference's parse of a flat text. Condition: none.
-/
import Derived.Test.YtecpfgnkiifnpaaGreatDoorFR20m
namespace Go.Proofs
open Go.Abs Go.Flat
set_option linter.unusedSimpArgs false
set_option linter.unnecessarySimpa false
set_option linter.unusedVariables false
set_option maxHeartbeats 16000000
set_option maxRecDepth 20000
def zCf : X := .agg [.v (.string ⟨#[]⟩), .sl [], .sl [], I 0]
def ppX : Rs Ps → X × List Ob
  | .ok st => (.tup [.agg (cX st.c), .sl (iR (cntL st)), .agg [I 0, I 0]], [])
  | .er k a => (.tup [zCf, .sl [], .agg [I k, I a]], [])
theorem linesS_cons (tot : Int) (l : ByteArray) (ls : List ByteArray) (a : Int) (st : Ps) : linesS tot (l :: ls) a st = if ls = [] then (if l.size = 0 then .ok st else .er 6 tot) else
    match lineS st (splitB 32 l) a with
    | .ok st' => linesS tot ls (a + l.size + 1) st'
    | .er k b => .er k b := rfl
theorem purO2 (h : List Ob) (k ver : Nat) : purN h 2 (.osl k ver) = (match h[k]? with
    | some ob => if ob.ver = ver ∧ ob.bx = false then .sl (ob.rows.map fun r => r.map (purN h 1)) else .top
    | none => .top) := rfl
theorem purN2 (h : List Ob) : purN h 2 (.v (.slice none 0 0)) = .sl [] := rfl
def F12 : Fun := ⟨fun xs => ∃ s, xs = [Sx s] ∧ s.size ≤ 2097152, fun xs => ppX (parseS (deS (xs.getD 0 .top)))⟩
theorem c12 : GenCA K Tryz.prog 12 F12 := by
  refine contractAN Tryz.mix K [(25, F25), (26, F26)] [] [(27, M27)] (by simp [c25, c26]) (by simp) (by simp [n27]) Tryz.func12 rfl (by decide) ?_
  rintro xs ⟨s, rfl, hs⟩
  have hres : F12.res [Sx s] = ppX (parseS s) := rfl
  rw [hres]
  refine ⟨by rw [Tryz.ntmps12]; simp, ?_⟩
  have pv : ∀ k b : Int, F25.pre [I k, I b] := fun k b => ⟨k, b, rfl⟩
  have qv : ∀ k b : Int, F25.res [I k, I b] = (.agg [I k, I b], []) := fun k b => rfl
  unfold parseS
  by_cases h6 : 6000 < s.size
  · have h6i : (6000 : Int) < s.size := by omega
    rw [if_pos h6]
    simp -implicitDefEqProofs [Tryz.f12, List.lookup_cons, eS, rbR_iR, rbR_nil, rbOb_mk, iR_mf, pickOk, -List.all_eq_true, iR_ok, ok0, iR_eq_nil, deIs_nil, Sx, h6, h6i, pv, qv]
    refine fin_pure (by simp) ?_
    simp -implicitDefEqProofs [fS, rn0, pickObs, deI, ppX, zCf, purN2]
  have h6i : ¬ (6000 : Int) < s.size := by omega
  rw [if_neg h6]
  have hz : s.toList = [] ↔ s.size = 0 := by rw [toL, ← bL_len, List.length_eq_zero_iff]
  by_cases h0 : s.size = 0
  · have hz1 := hz.2 h0
    rw [if_pos h0]
    simp -implicitDefEqProofs [Tryz.f12, List.lookup_cons, eS, rbR_iR, rbR_nil, rbOb_mk, iR_mf, pickOk, -List.all_eq_true, iR_ok, ok0, iR_eq_nil, deIs_nil, Sx, h6, h6i, hz1, pv, qv]
    refine fin_pure (by simp) ?_
    simp -implicitDefEqProofs [fS, rn0, pickObs, deI, ppX, zCf, purN2]
  have hzn : ¬ s.toList = [] := fun e => h0 (hz.1 e)
  rw [if_neg h0]
  have p1 : F26.pre [.v (.string s), .v (.int .u8 10)] := ⟨s, 10, rfl, by omega⟩
  have q1 : F26.res [.v (.string s), .v (.int .u8 10)] = (.sl (sR (splitB 10 s)), []) := sp_res s 10
  have hsp := split_le 10 s
  have hjl := splitB_len 10 s
  have hLne := splitB_ne 10 s
  generalize hT : linesS s.size (splitB 10 s) 0 ps0 = T
  generalize splitB 10 s = L at q1 hsp hjl hLne hT
  have hL0 : 0 < L.length := List.length_pos_iff.2 hLne
  have iml : M27.mu = [true, false, false] := rfl
  simp -implicitDefEqProofs [Tryz.f12, List.lookup_cons, eS, rbR_iR, rbR_nil, rbOb_mk, iR_mf, pickOk, -List.all_eq_true, iR_ok, ok0, iR_eq_nil, deIs_nil, Sx, h6, h6i, hzn, p1, q1, eMake, sR_length]
  refine loopP_inv (fun p : Nat × Nat × Ps => ⟨78, tl [(0, .v (.string s)), (2, .optr 0 0 0 0), (4, .optr 1 0 0 0), (5, .optr 3 0 0 0), (6, I p.2.1), (7, .sl (sR L)), (27, .sl (sR L)), (28, I L.length), (29, I p.1)], [⟨25, 4, 0, [[.v (.string ⟨#[]⟩), .v (.slice none 0 0), .v (.slice none 0 0), I 0]], true, true, none⟩, ⟨35, 2, 0, [[I 0, I 0]], true, true, none⟩, ⟨3, 1, 0, [[I p.2.2.nc], [I p.2.2.nd], [I p.2.2.c.cls.length], [I p.2.2.c.fil.length]], false, true, none⟩, ⟨51, 5, 0, [[.v (.string p.2.2.c.name), .osl 4 0, .osl 5 0, I p.2.2.c.dflt, .osl 2 0]], true, true, none⟩, ⟨63, 8, 0, tR p.2.2.c.cls, false, true, none⟩, ⟨66, 5, 0, tR p.2.2.c.fil, false, true, none⟩]⟩)
    (fun p => p.1 ≤ L.length ∧ okQ p.2.2 ∧ (p.1 < L.length → p.2.1 + joinLen (L.drop p.1) = s.size) ∧ linesS s.size (L.drop p.1) p.2.1 p.2.2 = T) (fun p => L.length - p.1) (0, 0, ps0) ⟨Nat.zero_le _, okQ0, fun _ => by simpa using hjl, hT⟩ ?_ ?_
  · refine Wk.trans (b := ⟨78, tl [(0, .v (.string s)), (2, .optr 0 0 0 0), (4, .optr 1 0 0 0), (5, .optr 3 0 0 0), (6, I 0), (7, .sl (sR L)), (27, .sl (sR L)), (28, I L.length), (29, I 0)], [⟨25, 4, 0, [[.v (.string ⟨#[]⟩), .v (.slice none 0 0), .v (.slice none 0 0), I 0]], true, true, none⟩, ⟨35, 2, 0, [[I 0, I 0]], true, true, none⟩, ⟨3, 1, 0, [[I 0], [I 0], [I 0], [I 0]], false, true, none⟩, ⟨51, 5, 0, [[.v (.string ⟨#[]⟩), .v (.slice none 0 0), .v (.slice none 0 0), I 0, .osl 2 0]], true, true, none⟩]⟩) (Wk.tl (by simp [hold, upd, tl_cons])) (Wk.trans (b := ⟨78, tl [(0, .v (.string s)), (2, .optr 0 0 0 0), (4, .optr 1 0 0 0), (5, .optr 3 0 0 0), (6, I 0), (7, .sl (sR L)), (27, .sl (sR L)), (28, I L.length), (29, I 0)], [⟨25, 4, 0, [[.v (.string ⟨#[]⟩), .v (.slice none 0 0), .v (.slice none 0 0), I 0]], true, true, none⟩, ⟨35, 2, 0, [[I 0, I 0]], true, true, none⟩, ⟨3, 1, 0, [[I 0], [I 0], [I 0], [I 0]], false, true, none⟩, ⟨51, 5, 0, [[.v (.string ⟨#[]⟩), .osl 4 0, .v (.slice none 0 0), I 0, .osl 2 0]], true, true, none⟩, ⟨63, 8, 0, [], false, true, none⟩]⟩) (Wk.nilF 63 8 3 0 1 _ rfl rfl rfl) (Wk.nilF 66 5 3 0 2 _ rfl rfl rfl))
  rintro ⟨k, a, st⟩ ⟨h1, hq, hj, h5⟩
  dsimp only at h1 hq hj h5 ⊢
  have hwl : IntKind.i64.wrap ((L.length : Int) - 1) = (L.length : Int) - 1 := w64 (by omega) (by omega)
  by_cases h : k < L.length
  · have hj := hj h
    have hw1 := w64n (show k < 4611686018427387904 by omega)
    have hdr : L.drop k = L[k] :: L.drop (k + 1) := List.drop_eq_getElem_cons h
    have hlk := hsp.2 _ (List.getElem_mem h)
    have hLk : L[k]? = some L[k] := List.getElem?_eq_getElem h
    rw [hdr, linesS_cons] at h5
    rw [hdr] at hj
    generalize hl : L[k] = l at *
    have hlz : l.toList = [] ↔ l.size = 0 := by rw [toL, ← bL_len, List.length_eq_zero_iff]
    by_cases he : L.drop (k + 1) = []
    · have hlast : L.length ≤ k + 1 := List.drop_eq_nil_iff.1 he
      have hki : (k : Int) = (L.length : Int) - 1 := by omega
      rw [if_pos he] at h5
      by_cases hl0 : l.size = 0
      · rw [if_pos hl0] at h5
        have hl1 := hlz.2 hl0
        simp -implicitDefEqProofs [List.lookup_cons, eS, rbR_iR, rbR_nil, rbOb_mk, iR_mf, pickOk, -List.all_eq_true, iR_ok, ok0, iR_eq_nil, deIs_nil, h, sR_get, sR_getE, sR_length, hl, hLk, hwl, hl1, eq_true hki]
        refine ⟨k + 1, by omega, a, st, hq, fun hc => absurd hc (by omega), ?_, by omega, ?_⟩
        · rw [he]; exact h5
        · exact Wk.tl (by simp [hold, upd, tl_cons, hw1])
      · rw [if_neg hl0] at h5
        have hl1 : ¬ l.toList = [] := fun e => hl0 (hlz.1 e)
        rw [← h5]
        simp -implicitDefEqProofs [List.lookup_cons, eS, rbR_iR, rbR_nil, rbOb_mk, iR_mf, pickOk, -List.all_eq_true, iR_ok, ok0, iR_eq_nil, deIs_nil, h, sR_get, sR_getE, sR_length, hl, hLk, hwl, hl1, eq_true hki, pv, qv]
        refine fin_pure (by simp) ?_
        simp -implicitDefEqProofs [fS, rn0, pickObs, deI, ppX, zCf, purN2]
    · have hmore : k + 1 < L.length := by
        refine Classical.byContradiction fun hc => he (List.drop_eq_nil_iff.2 (by omega))
      have hki : ¬ (k : Int) = (L.length : Int) - 1 := by omega
      rw [if_neg he] at h5
      rw [joinLen_cons _ he] at hj
      have hw2 : IntKind.i64.wrap ((l.size : Int) + 1) = (l.size : Int) + 1 := w64 (by omega) (by omega)
      have hw3 : IntKind.i64.wrap ((a : Int) + ((l.size : Int) + 1)) = ((a + l.size + 1 : Nat) : Int) := by rw [w64 (by omega) (by omega)]; omega
      have pl : M27.pre [.optr 0 0 0 0, Sx l, I a] (rdO 0 0 st) := ⟨st, l, a, rfl, rfl, by omega, by omega, hq⟩
      have ql := lineS_res st l a
      have hsp2 : ∀ g ∈ splitB 32 l, g.size ≤ 1048576 := fun g hg => by
        have := (split_le 32 l).2 g hg
        omega
      revert h5
      cases hls : lineS st (splitB 32 l) a with
      | ok st' =>
        intro h5
        rw [hls] at ql
        simp only [lnX, rdO, Sx] at pl ql
        have hq2 := lineS_ok hls hq hsp2
        dsimp only at h5
        simp -implicitDefEqProofs [List.lookup_cons, eS, rbR_iR, rbR_nil, rbOb_mk, iR_mf, pickOk, -List.all_eq_true, iR_ok, ok0, iR_eq_nil, deIs_nil, h, sR_get, sR_getE, sR_length, hl, hLk, hwl, hki, pl, ql, iml, tR_rw, tR_rv, pickOkN, hw1, hw2, hw3]
        refine ⟨k + 1, by omega, a + l.size + 1, st', hq2, fun _ => by omega, ?_, by omega, ?_⟩
        · rw [← h5]; congr 1
        · refine Wk.tlPN [0, 1, 2, 3, 4, 5] (by simp [pickOkN]) (by simp) ?_
          simp [hold, upd, tl_cons, hw1, hw3]
      | er kk b =>
        intro h5
        rw [hls] at ql
        simp only [lnX, rdO, Sx] at pl ql
        have hk0 := lineS_pos hls
        rw [← h5]
        simp -implicitDefEqProofs [List.lookup_cons, eS, rbR_iR, rbR_nil, rbOb_mk, iR_mf, pickOk, -List.all_eq_true, iR_ok, ok0, iR_eq_nil, deIs_nil, h, sR_get, sR_getE, sR_length, hl, hLk, hwl, hki, pl, ql, iml, tR_rw, tR_rv, pickOkN, hw1, hw2, hw3, hk0]
        refine drawP_x _ [(0, 0), (2, 0), (1, 0), (3, 1), (4, 1)] [2, 4] (by decide) ?_
        simp -implicitDefEqProofs [List.lookup_cons, eS, rbR_iR, rbR_nil, rbOb_mk, iR_mf, pickOk, -List.all_eq_true, iR_ok, ok0, iR_eq_nil, deIs_nil, OpOk]
        refine fin_pure (by simp) ?_
        simp -implicitDefEqProofs [fS, rn0, pickObs, deI, ppX, zCf, purN2]
  · have ek : k = L.length := by omega
    subst ek
    rw [List.drop_length] at h5
    rw [← h5]
    simp -implicitDefEqProofs [List.lookup_cons, eS, rbR_iR, rbR_nil, rbOb_mk, iR_mf, pickOk, -List.all_eq_true, iR_ok, ok0, iR_eq_nil, deIs_nil]
    refine drawP_x _ [(0, 0), (1, 0), (2, 0), (3, 0), (9, 0), (4, 0), (5, 0), (6, 0), (7, 0), (8, 0), (10, 1), (11, 1)] [9, 11] (by decide) ?_
    simp -implicitDefEqProofs [List.lookup_cons, eS, rbR_iR, rbR_nil, rbOb_mk, iR_mf, pickOk, -List.all_eq_true, iR_ok, ok0, iR_eq_nil, deIs_nil, OpOk]
    refine fin_pure (by simp) ?_
    simp -implicitDefEqProofs [fS, rn0, pickObs, deI, ppX, cntL, iR, linesS, purO2, tR_pur]
end Go.Proofs
