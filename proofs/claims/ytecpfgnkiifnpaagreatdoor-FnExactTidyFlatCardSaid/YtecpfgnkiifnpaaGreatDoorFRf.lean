/-
  What is proved here: the contract of the reference's line. Condition: none.
  What is proved here: the contract of the reference's parse of a flat text. Condition: none.
-/
import Derived.Test.YtecpfgnkiifnpaaGreatDoorFR19o
set_option linter.unusedVariables false
set_option linter.unusedSimpArgs false
set_option linter.unnecessarySimpa false
set_option maxHeartbeats 16000000
set_option maxRecDepth 20000
namespace Go.Proofs
open Go.Abs Go.Flat
theorem lgR_ok {nm : ByteArray → Bool} : ∀ {W gs : List ByteArray} {p : Int} {out l : List Int}, lgR nm W gs p out = .ok l → gs.length = W.length ∧ l.length = out.length + W.countP (fun w => decide (w = wN))
  | [], [], _, out, l, h => by
    simp only [lgR] at h
    injection h with h
    subst h
    exact ⟨rfl, rfl⟩
  | [], _ :: _, _, _, l, h => by simp [lgR] at h
  | _ :: _, [], _, _, l, h => by simp [lgR] at h
  | w :: W, g :: gs, p, out, l, h => by
    rw [lgR_cons] at h
    split at h
    · cases h
    · split at h
      · cases h
      · split at h
        · rename_i hN
          obtain ⟨h1, h2⟩ := lgR_ok h
          exact ⟨by simp [h1], by rw [h2, List.countP_cons, if_pos (by simpa using hN)]; simp; omega⟩
        · rename_i hN
          split at h
          · cases h
          · obtain ⟨h1, h2⟩ := lgR_ok h
            exact ⟨by simp [h1], by rw [h2, List.countP_cons, if_neg (by simpa using hN)]; simp⟩
def lnX (st : Ps) : Rs Ps → X × List Ob
  | .ok st' => (.agg [I 0, I 0], rdO 1 1 st')
  | .er k b => (.agg [I k, I b], rdO 1 1 st)
def M27 : MFun := ⟨[true, false, false], fun xs obs => ∃ (st : Ps) (ln : ByteArray) (a : Nat), xs = [.optr 0 0 0 0, Sx ln, I a] ∧ obs = rdO 0 0 st ∧ ln.size ≤ 1048575 ∧ a ≤ 1048576 ∧ okQ st,
  fun xs obs => lnX (unRd obs) (lineS (unRd obs) (splitB 32 (deS (xs.getD 1 .top))) (deI (xs.getD 2 .top)))⟩
theorem lineS_res (st : Ps) (ln : ByteArray) (a : Nat) : M27.res [.optr 0 0 0 0, Sx ln, I a] (rdO 0 0 st) = lnX st (lineS st (splitB 32 ln) a) := by
  simp [M27, unRd_eq, deS, deI, Sx]
theorem lnX_ob (st : Ps) (x : Rs Ps) : ∃ st', (lnX st x).2 = rdO 1 1 st' := by
  cases x with
  | ok st' => exact ⟨st', rfl⟩
  | er k b => exact ⟨st, rfl⟩
theorem n27 : GenNA K Tryz.prog 27 M27 := by
  refine contractNA Tryz.mix K [(26, F26), (48, F48), (49, F92), (50, F93)] [] [(47, M47)] (by simp [c26, c48, c49, c50]) (by simp) (by simp [n47]) Tryz.func27 rfl (by decide) ?_
  rintro xs obs us ⟨st, ln, a, rfl, rfl, hln, ha, hq⟩ hu
  obtain ⟨u0, u1, u2, u3, rfl⟩ : ∃ u0 u1 u2 u3, us = [u0, u1, u2, u3] := by
    match us, hu with
    | [a, b, c, d], _ => exact ⟨a, b, c, d, rfl⟩
  rw [lineS_res]
  refine ⟨⟨by rw [Tryz.ntmps27]; simp, by simp, fun k ob hob => ?_⟩, ?_⟩
  · obtain ⟨st', e⟩ := lnX_ob st (lineS st (splitB 32 ln) a)
    rw [e]
    match k, hob with
    | 0, hob => simp [rdO] at hob; subst hob; exact ⟨_, rfl, rfl, rfl, rfl, rfl⟩
    | 1, hob => simp [rdO] at hob; subst hob; exact ⟨_, rfl, rfl, rfl, rfl, rfl⟩
    | 2, hob => simp [rdO] at hob; subst hob; exact ⟨_, rfl, rfl, rfl, rfl, rfl⟩
    | 3, hob => simp [rdO] at hob; subst hob; exact ⟨_, rfl, rfl, rfl, rfl, rfl⟩
    | k + 4, hob => simp [rdO] at hob
  obtain ⟨o1, o2, o3, o4, o5⟩ := hq
  have imc : M47.mu = [true, false, false] := rfl
  have p1 : F26.pre [.v (.string ln), .v (.int .u8 32)] := ⟨ln, 32, rfl, by omega⟩
  have q1 : F26.res [.v (.string ln), .v (.int .u8 32)] = (.sl (sR (splitB 32 ln)), []) := sp_res ln 32
  have hsp := split_le 32 ln
  cases hsl : splitB 32 ln with
  | nil => exact absurd hsl (splitB_ne _ _)
  | cons w gs =>
  rw [hsl] at q1 hsp
  have pc : M47.pre [.optr 0 0 0 0, Sx w, I a] (rdO 0 0 st) := ⟨st, w, a, rfl, rfl⟩
  have qc := cmdS_res st w a
  have hws : w.size ≤ 1048576 := by have := hsp.2 w (by simp); omega
  have hgs : ∀ g ∈ gs, g.size ≤ 1048576 := fun g hg => by have := hsp.2 g (by simp [hg]); omega
  have hgl : gs.length ≤ 1048576 := by have := hsp.1; simp only [List.length_cons] at this; omega
  have p2 : F48.pre [.sl (sR (w :: gs)), I a] := ⟨w, gs, a, rfl, trivial, ha, hws, hgl, hgs⟩
  have q2 : F48.res [.sl (sR (w :: gs)), I a] = rsX (lgR nmOk (wordsW w) gs ((a : Int) + w.size) []) := lgRead_res w gs a
  have hg0 : (sR (w :: gs))[0]? = some [.v (.string w)] := rfl
  have hln0 : (sR (w :: gs)).length = gs.length + 1 := by simp [sR]
  have hgz : ∀ h : 0 < (sR (w :: gs)).length, (sR (w :: gs))[0] = [.v (.string w)] := fun _ => rfl
  have hg1 : (sR (w :: gs))[1]? = (gs[0]?).map fun g => [.v (.string g)] := by cases gs <;> rfl
  unfold lineS
  dsimp only
  by_cases hf : fineW st w = false
  · rw [if_pos hf]
    have hc : cmdS st w a = (2, (a : Int)) := by unfold cmdS; rw [if_pos hf]
    rw [hc] at qc
    simp only [rdO, Sx] at pc qc
    simp -implicitDefEqProofs [Tryz.f27, List.lookup_cons, eS, rbR_iR, rbR_nil, rbOb_mk, iR_mf, pickOk, -List.all_eq_true, iR_ok, ok0, iR_eq_nil, deIs_nil, Sx, rdO, p1, q1, hg0, hgz, hln0, pc, qc, imc, tR_rw, tR_rv, pickOkN]
    refine finN [0, 1, 2, 3] [0, 1, 1, 0] (by simp [pickOkN]) (by simp [upd, tl_cons]) ?_
    simp [one, lnX, rdO]
  rw [if_neg hf]
  by_cases hu2 : fullW st w = true
  · rw [if_pos hu2]
    have hc : cmdS st w a = (5, (a : Int)) := by unfold cmdS; rw [if_neg hf, if_pos hu2]
    rw [hc] at qc
    simp only [rdO, Sx] at pc qc
    simp -implicitDefEqProofs [Tryz.f27, List.lookup_cons, eS, rbR_iR, rbR_nil, rbOb_mk, iR_mf, pickOk, -List.all_eq_true, iR_ok, ok0, iR_eq_nil, deIs_nil, Sx, rdO, p1, q1, hg0, hgz, hln0, pc, qc, imc, tR_rw, tR_rv, pickOkN]
    refine finN [0, 1, 2, 3] [0, 1, 1, 0] (by simp [pickOkN]) (by simp [upd, tl_cons]) ?_
    simp [one, lnX, rdO]
  rw [if_neg hu2]
  have hc : cmdS st w a = (0, 0) := by unfold cmdS; rw [if_neg hf, if_neg hu2]
  rw [hc] at qc
  simp only [rdO, Sx] at pc qc
  cases hr : lgR nmOk (wordsW w) gs ((a : Int) + w.size) [] with
  | er k b =>
    have hk := lgRpos hr
    rw [hr] at q2
    simp only [rsX] at q2
    simp -implicitDefEqProofs [Tryz.f27, List.lookup_cons, eS, rbR_iR, rbR_nil, rbOb_mk, iR_mf, pickOk, -List.all_eq_true, iR_ok, ok0, iR_eq_nil, deIs_nil, Sx, rdO, p1, q1, hg0, hgz, hln0, pc, qc, imc, tR_rw, tR_rv, pickOkN, p2, q2, hk]
    refine finN [0, 1, 2, 3] [0, 1, 1, 0] (by simp [pickOkN]) (by simp [upd, tl_cons]) ?_
    simp [one, lnX, rdO]
  | ok l =>
    rw [hr] at q2
    simp only [rsX] at q2
    obtain ⟨hgW, hlW⟩ := lgR_ok hr
    have hnc : IntKind.i64.wrap ((st.nc : Int) + 1) = (st.nc : Int) + 1 := w64 (by omega) (by omega)
    have hnd : IntKind.i64.wrap ((st.nd : Int) + 1) = (st.nd : Int) + 1 := w64 (by omega) (by omega)
    have hcl : IntKind.i64.wrap ((st.c.cls.length : Int) + 1) = (st.c.cls.length : Int) + 1 := w64 (by omega) (by omega)
    have hfl : IntKind.i64.wrap ((st.c.fil.length : Int) + 1) = (st.c.fil.length : Int) + 1 := w64 (by omega) (by omega)
    unfold stepS
    rcases fine_kw (by simpa using hf) with rfl | rfl | rfl | rfl
    · simp only [if_true]
      have e : wordsW kwConfig = [wA] := by simp only [wordsW, if_true]
      rw [e] at hgW hlW
      obtain ⟨g, rfl⟩ : ∃ g, gs = [g] := by
        match gs, hgW with
        | [g], _ => exact ⟨g, rfl⟩
      obtain rfl : l = [] := List.length_eq_zero_iff.1 (hlW.trans rfl)
      simp only [show ([g] : List ByteArray).getD 0 noW = g from rfl]
      have hgo : ∀ h : 1 < (sR [kwConfig, g]).length, (sR [kwConfig, g])[1] = [.v (.string g)] := fun _ => rfl
      simp only [List.getElem?_cons_zero, Option.map_some] at hg1
      generalize hRR : sR [kwConfig, g] = R at q1 p2 q2 hg0 hln0 hgz hg1 hgo
      have hRp : ∀ (h : List Ob) (n : Nat), R.map (fun r => r.map (purN h n)) = R := fun h n => by rw [← hRR]; exact sR_pur h n _
      simp only [kwConfig] at pc qc hg0 hgz
      simp -implicitDefEqProofs [Tryz.f27, List.lookup_cons, eS, rbR_iR, rbR_nil, rbOb_mk, iR_mf, pickOk, -List.all_eq_true, iR_ok, ok0, iR_eq_nil, deIs_nil, Sx, rdO, p1, q1, hg0, hgz, hln0, pc, qc, imc, tR_rw, tR_rv, pickOkN, p2, q2, hg1, hgo, kwConfig, hRp, hnc]
      refine finN [0, 1, 2, 3] [0, 1, 1, 0] (by simp [pickOkN]) (by simp [upd, tl_cons]) ?_
      simp [one, lnX, rdO]
    · simp only [if_neg k_dc, if_true]
      have e : wordsW kwDefault = [wN] := by simp only [wordsW, if_neg k_dc, if_true]
      rw [e] at hgW hlW
      obtain ⟨x, rfl⟩ : ∃ x, l = [x] := by
        have h1 : l.length = 1 := hlW.trans rfl
        match l, h1 with
        | [x], _ => exact ⟨x, rfl⟩
      generalize hRR : sR (kwDefault :: gs) = R at q1 p2 q2 hg0 hln0 hgz
      have hRp : ∀ (h : List Ob) (n : Nat), R.map (fun r => r.map (purN h n)) = R := fun h n => by rw [← hRR]; exact sR_pur h n _
      simp only [kwDefault] at pc qc hg0 hgz
      simp -implicitDefEqProofs [Tryz.f27, List.lookup_cons, eS, rbR_iR, rbR_nil, rbOb_mk, iR_mf, pickOk, -List.all_eq_true, iR_ok, ok0, iR_eq_nil, deIs_nil, Sx, rdO, p1, q1, hg0, hgz, hln0, pc, qc, imc, tR_rw, tR_rv, pickOkN, p2, q2, kwDefault, hRp, hnd, iR, cD]
      refine finN [0, 1, 2, 3] [0, 1, 1, 0] (by simp [pickOkN]) (by simp [upd, tl_cons]) ?_
      simp [one, lnX, rdO]
    · simp only [if_neg k_cc, if_neg k_cd, if_true]
      rw [wordsW_class] at hgW hlW
      obtain ⟨a0, a1, a2, a3, a4, a5, a6, a7, rfl⟩ : ∃ a0 a1 a2 a3 a4 a5 a6 a7, l = [a0, a1, a2, a3, a4, a5, a6, a7] := by
        have h1 : l.length = 8 := hlW.trans rfl
        match l, h1 with
        | [a0, a1, a2, a3, a4, a5, a6, a7], _ => exact ⟨a0, a1, a2, a3, a4, a5, a6, a7, rfl⟩
      have pz : F92.pre [.sl (iR [a0, a1, a2, a3, a4, a5, a6, a7])] := ⟨a0, a1, a2, a3, a4, a5, a6, a7, rfl⟩
      have qz := wi_8 a0 a1 a2 a3 a4 a5 a6 a7
      have hap : tR st.c.cls ++ [[I a0, I a1, I a2, I a3, I a4, I a5, I a6, I a7]] = tR (st.c.cls ++ [(⟨a0, a1, a2, a3, a4, a5, a6, a7⟩ : Cls)]) := tR_append st.c.cls [(⟨a0, a1, a2, a3, a4, a5, a6, a7⟩ : Cls)]
      rw [show toC [a0, a1, a2, a3, a4, a5, a6, a7] = ⟨a0, a1, a2, a3, a4, a5, a6, a7⟩ from rfl]
      generalize hRR : sR (kwClass :: gs) = R at q1 p2 q2 hg0 hln0 hgz
      have hRp : ∀ (h : List Ob) (n : Nat), R.map (fun r => r.map (purN h n)) = R := fun h n => by rw [← hRR]; exact sR_pur h n _
      generalize hR : iR [a0, a1, a2, a3, a4, a5, a6, a7] = R2 at q2 pz qz
      have hRq : ∀ (h : List Ob) (n : Nat), R2.map (fun r => r.map (purN h n)) = R2 := fun h n => by rw [← hR]; exact iR_pur h n _
      simp only [kwClass] at pc qc hg0 hgz
      simp -implicitDefEqProofs [Tryz.f27, List.lookup_cons, eS, rbR_iR, rbR_nil, rbOb_mk, iR_mf, pickOk, -List.all_eq_true, iR_ok, ok0, iR_eq_nil, deIs_nil, Sx, rdO, p1, q1, hg0, hgz, hln0, pc, qc, imc, tR_rw, tR_rv, pickOkN, p2, q2, kwClass, hRp, hRq]
      refine drawP_x _ [(6, 0), (7, 0), (8, 0), (1, 0), (2, 0), (3, 0), (4, 0), (5, 0), (9, 1), (0, 0), (10, 2), (11, 2), (12, 2), (13, 2)] [8, 9, 13] (by decide) ?_
      simp -implicitDefEqProofs [List.lookup_cons, eS, rbR_iR, rbR_nil, rbOb_mk, iR_mf, pickOk, -List.all_eq_true, iR_ok, ok0, iR_eq_nil, deIs_nil, Sx, rdO, p1, q1, hg0, hgz, hln0, pc, qc, imc, tR_rw, tR_rv, pickOkN, p2, q2, OpOk, kwClass, hRp, hRq, pz, qz, eBuildSlice, eAppend, srcRows, srcOk, chunk, fillX, plain, cellsX, splice, hap, hcl, hfl]
      refine ⟨by omega, by omega, ?_⟩
      refine finN [0, 1, 2, 3] [0, 1, 1, 0] (by simp [pickOkN]) (by simp [upd, tl_cons]) ?_
      simp [one, lnX, rdO]
    · simp only [if_neg k_fc, if_neg k_fd, if_neg k_fl]
      rw [wordsW_filter] at hgW hlW
      obtain ⟨a0, a1, a2, a3, a4, rfl⟩ : ∃ a0 a1 a2 a3 a4, l = [a0, a1, a2, a3, a4] := by
        have h1 : l.length = 5 := hlW.trans rfl
        match l, h1 with
        | [a0, a1, a2, a3, a4], _ => exact ⟨a0, a1, a2, a3, a4, rfl⟩
      have pz : F93.pre [.sl (iR [a0, a1, a2, a3, a4])] := ⟨a0, a1, a2, a3, a4, rfl⟩
      have qz := wi_5 a0 a1 a2 a3 a4
      have hap : tR st.c.fil ++ [[I a0, I a1, I a2, I a3, I a4]] = tR (st.c.fil ++ [(⟨a0, a1, a2, a3, a4⟩ : Fil)]) := tR_append st.c.fil [(⟨a0, a1, a2, a3, a4⟩ : Fil)]
      rw [show toF [a0, a1, a2, a3, a4] = ⟨a0, a1, a2, a3, a4⟩ from rfl]
      generalize hRR : sR (kwFilter :: gs) = R at q1 p2 q2 hg0 hln0 hgz
      have hRp : ∀ (h : List Ob) (n : Nat), R.map (fun r => r.map (purN h n)) = R := fun h n => by rw [← hRR]; exact sR_pur h n _
      generalize hR : iR [a0, a1, a2, a3, a4] = R2 at q2 pz qz
      have hRq : ∀ (h : List Ob) (n : Nat), R2.map (fun r => r.map (purN h n)) = R2 := fun h n => by rw [← hR]; exact iR_pur h n _
      simp only [kwFilter] at pc qc hg0 hgz
      simp -implicitDefEqProofs [Tryz.f27, List.lookup_cons, eS, rbR_iR, rbR_nil, rbOb_mk, iR_mf, pickOk, -List.all_eq_true, iR_ok, ok0, iR_eq_nil, deIs_nil, Sx, rdO, p1, q1, hg0, hgz, hln0, pc, qc, imc, tR_rw, tR_rv, pickOkN, p2, q2, kwFilter, hRp, hRq]
      refine drawP_x _ [(6, 0), (7, 0), (8, 0), (1, 0), (2, 0), (3, 0), (4, 0), (5, 0), (9, 1), (0, 0), (10, 2), (11, 2), (12, 2), (13, 2)] [8, 9, 13] (by decide) ?_
      simp -implicitDefEqProofs [List.lookup_cons, eS, rbR_iR, rbR_nil, rbOb_mk, iR_mf, pickOk, -List.all_eq_true, iR_ok, ok0, iR_eq_nil, deIs_nil, Sx, rdO, p1, q1, hg0, hgz, hln0, pc, qc, imc, tR_rw, tR_rv, pickOkN, p2, q2, OpOk, kwFilter, hRp, hRq, pz, qz, eBuildSlice, eAppend, srcRows, srcOk, chunk, fillX, plain, cellsX, splice, hap, hcl, hfl]
      refine ⟨by omega, by omega, ?_⟩
      refine finN [0, 1, 2, 3] [0, 1, 1, 0] (by simp [pickOkN]) (by simp [upd, tl_cons]) ?_
      simp [one, lnX, rdO]
end Go.Proofs
namespace Go.Proofs
open Go.Abs Go.Flat
def zCf : X := .agg [.v (.string ⟨#[]⟩), .sl [], .sl [], I 0]
def ppX : Rs Ps → X × List Ob
  | .ok st => (.tup [.agg (cX st.c), .sl (iR (cntL st)), .agg [I 0, I 0]], [])
  | .er k a => (.tup [zCf, .sl [], .agg [I k, I a]], [])
theorem linesS_cons (tot : Int) (l : ByteArray) (ls : List ByteArray) (a : Int) (st : Ps) : linesS tot (l :: ls) a st = if ls = [] then (if l.size = 0 then .ok st else .er 6 tot) else
    match lineS st (splitB 32 l) a with
    | .ok st' => linesS tot ls (a + l.size + 1) st'
    | .er k b => .er k b := rfl
theorem purO2 (h : List Ob) (k ver : Nat) : purN h 2 (.osl k ver) = (match h[k]? with
    | some ob => if ob.ver = ver ∧ ob.bx = false then .sl (ob.rows.map fun r => r.map (purN h 1)) else .top
    | none => .top) := rfl
theorem purN2 (h : List Ob) : purN h 2 (.v (.slice none 0 0)) = .sl [] := rfl
def F12 : Fun := ⟨fun xs => ∃ s, xs = [Sx s] ∧ s.size ≤ 2097152, fun xs => ppX (parseS (deS (xs.getD 0 .top)))⟩
theorem c12 : GenCA K Tryz.prog 12 F12 := by
  refine contractAN Tryz.mix K [(25, F25), (26, F26)] [] [(27, M27)] (by simp [c25, c26]) (by simp) (by simp [n27]) Tryz.func12 rfl (by decide) ?_
  rintro xs ⟨s, rfl, hs⟩
  have hres : F12.res [Sx s] = ppX (parseS s) := rfl
  rw [hres]
  refine ⟨by rw [Tryz.ntmps12]; simp, ?_⟩
  have pv : ∀ k b : Int, F25.pre [I k, I b] := fun k b => ⟨k, b, rfl⟩
  have qv : ∀ k b : Int, F25.res [I k, I b] = (.agg [I k, I b], []) := fun k b => rfl
  unfold parseS
  by_cases h6 : 6000 < s.size
  · have h6i : (6000 : Int) < s.size := by omega
    rw [if_pos h6]
    simp -implicitDefEqProofs [Tryz.f12, List.lookup_cons, eS, rbR_iR, rbR_nil, rbOb_mk, iR_mf, pickOk, -List.all_eq_true, iR_ok, ok0, iR_eq_nil, deIs_nil, Sx, h6, h6i, pv, qv]
    refine fin_pure (by simp) ?_
    simp -implicitDefEqProofs [fS, rn0, pickObs, deI, ppX, zCf, purN2]
  have h6i : ¬ (6000 : Int) < s.size := by omega
  rw [if_neg h6]
  have hz : s.toList = [] ↔ s.size = 0 := by rw [toL, ← bL_len, List.length_eq_zero_iff]
  by_cases h0 : s.size = 0
  · have hz1 := hz.2 h0
    rw [if_pos h0]
    simp -implicitDefEqProofs [Tryz.f12, List.lookup_cons, eS, rbR_iR, rbR_nil, rbOb_mk, iR_mf, pickOk, -List.all_eq_true, iR_ok, ok0, iR_eq_nil, deIs_nil, Sx, h6, h6i, hz1, pv, qv]
    refine fin_pure (by simp) ?_
    simp -implicitDefEqProofs [fS, rn0, pickObs, deI, ppX, zCf, purN2]
  have hzn : ¬ s.toList = [] := fun e => h0 (hz.1 e)
  rw [if_neg h0]
  have p1 : F26.pre [.v (.string s), .v (.int .u8 10)] := ⟨s, 10, rfl, by omega⟩
  have q1 : F26.res [.v (.string s), .v (.int .u8 10)] = (.sl (sR (splitB 10 s)), []) := sp_res s 10
  have hsp := split_le 10 s
  have hjl := splitB_len 10 s
  have hLne := splitB_ne 10 s
  generalize hT : linesS s.size (splitB 10 s) 0 ps0 = T
  generalize splitB 10 s = L at q1 hsp hjl hLne hT
  have hL0 : 0 < L.length := List.length_pos_iff.2 hLne
  have iml : M27.mu = [true, false, false] := rfl
  simp -implicitDefEqProofs [Tryz.f12, List.lookup_cons, eS, rbR_iR, rbR_nil, rbOb_mk, iR_mf, pickOk, -List.all_eq_true, iR_ok, ok0, iR_eq_nil, deIs_nil, Sx, h6, h6i, hzn, p1, q1, eMake, sR_length]
  refine loopP_inv (fun p : Nat × Nat × Ps => ⟨78, tl [(0, .v (.string s)), (2, .optr 0 0 0 0), (4, .optr 1 0 0 0), (5, .optr 3 0 0 0), (6, I p.2.1), (7, .sl (sR L)), (27, .sl (sR L)), (28, I L.length), (29, I p.1)], [⟨25, 4, 0, [[.v (.string ⟨#[]⟩), .v (.slice none 0 0), .v (.slice none 0 0), I 0]], true, true, none⟩, ⟨35, 2, 0, [[I 0, I 0]], true, true, none⟩, ⟨3, 1, 0, [[I p.2.2.nc], [I p.2.2.nd], [I p.2.2.c.cls.length], [I p.2.2.c.fil.length]], false, true, none⟩, ⟨51, 5, 0, [[.v (.string p.2.2.c.name), .osl 4 0, .osl 5 0, I p.2.2.c.dflt, .osl 2 0]], true, true, none⟩, ⟨63, 8, 0, tR p.2.2.c.cls, false, true, none⟩, ⟨66, 5, 0, tR p.2.2.c.fil, false, true, none⟩]⟩)
    (fun p => p.1 ≤ L.length ∧ okQ p.2.2 ∧ (p.1 < L.length → p.2.1 + joinLen (L.drop p.1) = s.size) ∧ linesS s.size (L.drop p.1) p.2.1 p.2.2 = T) (fun p => L.length - p.1) (0, 0, ps0) ⟨Nat.zero_le _, okQ0, fun _ => by simpa using hjl, hT⟩ ?_ ?_
  · refine Wk.trans (b := ⟨78, tl [(0, .v (.string s)), (2, .optr 0 0 0 0), (4, .optr 1 0 0 0), (5, .optr 3 0 0 0), (6, I 0), (7, .sl (sR L)), (27, .sl (sR L)), (28, I L.length), (29, I 0)], [⟨25, 4, 0, [[.v (.string ⟨#[]⟩), .v (.slice none 0 0), .v (.slice none 0 0), I 0]], true, true, none⟩, ⟨35, 2, 0, [[I 0, I 0]], true, true, none⟩, ⟨3, 1, 0, [[I 0], [I 0], [I 0], [I 0]], false, true, none⟩, ⟨51, 5, 0, [[.v (.string ⟨#[]⟩), .v (.slice none 0 0), .v (.slice none 0 0), I 0, .osl 2 0]], true, true, none⟩]⟩) (Wk.tl (by simp [hold, upd, tl_cons])) (Wk.trans (b := ⟨78, tl [(0, .v (.string s)), (2, .optr 0 0 0 0), (4, .optr 1 0 0 0), (5, .optr 3 0 0 0), (6, I 0), (7, .sl (sR L)), (27, .sl (sR L)), (28, I L.length), (29, I 0)], [⟨25, 4, 0, [[.v (.string ⟨#[]⟩), .v (.slice none 0 0), .v (.slice none 0 0), I 0]], true, true, none⟩, ⟨35, 2, 0, [[I 0, I 0]], true, true, none⟩, ⟨3, 1, 0, [[I 0], [I 0], [I 0], [I 0]], false, true, none⟩, ⟨51, 5, 0, [[.v (.string ⟨#[]⟩), .osl 4 0, .v (.slice none 0 0), I 0, .osl 2 0]], true, true, none⟩, ⟨63, 8, 0, [], false, true, none⟩]⟩) (Wk.nilF 63 8 3 0 1 _ rfl rfl rfl) (Wk.nilF 66 5 3 0 2 _ rfl rfl rfl))
  rintro ⟨k, a, st⟩ ⟨h1, hq, hj, h5⟩
  dsimp only at h1 hq hj h5 ⊢
  have hwl : IntKind.i64.wrap ((L.length : Int) - 1) = (L.length : Int) - 1 := w64 (by omega) (by omega)
  by_cases h : k < L.length
  · have hj := hj h
    have hw1 := w64n (show k < 4611686018427387904 by omega)
    have hdr : L.drop k = L[k] :: L.drop (k + 1) := List.drop_eq_getElem_cons h
    have hlk := hsp.2 _ (List.getElem_mem h)
    have hLk : L[k]? = some L[k] := List.getElem?_eq_getElem h
    rw [hdr, linesS_cons] at h5
    rw [hdr] at hj
    generalize hl : L[k] = l at *
    have hlz : l.toList = [] ↔ l.size = 0 := by rw [toL, ← bL_len, List.length_eq_zero_iff]
    by_cases he : L.drop (k + 1) = []
    · have hlast : L.length ≤ k + 1 := List.drop_eq_nil_iff.1 he
      have hki : (k : Int) = (L.length : Int) - 1 := by omega
      rw [if_pos he] at h5
      by_cases hl0 : l.size = 0
      · rw [if_pos hl0] at h5
        have hl1 := hlz.2 hl0
        simp -implicitDefEqProofs [List.lookup_cons, eS, rbR_iR, rbR_nil, rbOb_mk, iR_mf, pickOk, -List.all_eq_true, iR_ok, ok0, iR_eq_nil, deIs_nil, h, sR_get, sR_getE, sR_length, hl, hLk, hwl, hl1, eq_true hki]
        refine ⟨k + 1, by omega, a, st, hq, fun hc => absurd hc (by omega), ?_, by omega, ?_⟩
        · rw [he]; exact h5
        · exact Wk.tl (by simp [hold, upd, tl_cons, hw1])
      · rw [if_neg hl0] at h5
        have hl1 : ¬ l.toList = [] := fun e => hl0 (hlz.1 e)
        rw [← h5]
        simp -implicitDefEqProofs [List.lookup_cons, eS, rbR_iR, rbR_nil, rbOb_mk, iR_mf, pickOk, -List.all_eq_true, iR_ok, ok0, iR_eq_nil, deIs_nil, h, sR_get, sR_getE, sR_length, hl, hLk, hwl, hl1, eq_true hki, pv, qv]
        refine fin_pure (by simp) ?_
        simp -implicitDefEqProofs [fS, rn0, pickObs, deI, ppX, zCf, purN2]
    · have hmore : k + 1 < L.length := by
        refine Classical.byContradiction fun hc => he (List.drop_eq_nil_iff.2 (by omega))
      have hki : ¬ (k : Int) = (L.length : Int) - 1 := by omega
      rw [if_neg he] at h5
      rw [joinLen_cons _ he] at hj
      have hw2 : IntKind.i64.wrap ((l.size : Int) + 1) = (l.size : Int) + 1 := w64 (by omega) (by omega)
      have hw3 : IntKind.i64.wrap ((a : Int) + ((l.size : Int) + 1)) = ((a + l.size + 1 : Nat) : Int) := by rw [w64 (by omega) (by omega)]; omega
      have pl : M27.pre [.optr 0 0 0 0, Sx l, I a] (rdO 0 0 st) := ⟨st, l, a, rfl, rfl, by omega, by omega, hq⟩
      have ql := lineS_res st l a
      have hsp2 : ∀ g ∈ splitB 32 l, g.size ≤ 1048576 := fun g hg => by
        have := (split_le 32 l).2 g hg
        omega
      revert h5
      cases hls : lineS st (splitB 32 l) a with
      | ok st' =>
        intro h5
        rw [hls] at ql
        simp only [lnX, rdO, Sx] at pl ql
        have hq2 := lineS_ok hls hq hsp2
        dsimp only at h5
        simp -implicitDefEqProofs [List.lookup_cons, eS, rbR_iR, rbR_nil, rbOb_mk, iR_mf, pickOk, -List.all_eq_true, iR_ok, ok0, iR_eq_nil, deIs_nil, h, sR_get, sR_getE, sR_length, hl, hLk, hwl, hki, pl, ql, iml, tR_rw, tR_rv, pickOkN, hw1, hw2, hw3]
        refine ⟨k + 1, by omega, a + l.size + 1, st', hq2, fun _ => by omega, ?_, by omega, ?_⟩
        · rw [← h5]; congr 1
        · refine Wk.tlPN [0, 1, 2, 3, 4, 5] (by simp [pickOkN]) (by simp) ?_
          simp [hold, upd, tl_cons, hw1, hw3]
      | er kk b =>
        intro h5
        rw [hls] at ql
        simp only [lnX, rdO, Sx] at pl ql
        have hk0 := lineS_pos hls
        rw [← h5]
        simp -implicitDefEqProofs [List.lookup_cons, eS, rbR_iR, rbR_nil, rbOb_mk, iR_mf, pickOk, -List.all_eq_true, iR_ok, ok0, iR_eq_nil, deIs_nil, h, sR_get, sR_getE, sR_length, hl, hLk, hwl, hki, pl, ql, iml, tR_rw, tR_rv, pickOkN, hw1, hw2, hw3, hk0]
        refine drawP_x _ [(0, 0), (2, 0), (1, 0), (3, 1), (4, 1)] [2, 4] (by decide) ?_
        simp -implicitDefEqProofs [List.lookup_cons, eS, rbR_iR, rbR_nil, rbOb_mk, iR_mf, pickOk, -List.all_eq_true, iR_ok, ok0, iR_eq_nil, deIs_nil, OpOk]
        refine fin_pure (by simp) ?_
        simp -implicitDefEqProofs [fS, rn0, pickObs, deI, ppX, zCf, purN2]
  · have ek : k = L.length := by omega
    subst ek
    rw [List.drop_length] at h5
    rw [← h5]
    simp -implicitDefEqProofs [List.lookup_cons, eS, rbR_iR, rbR_nil, rbOb_mk, iR_mf, pickOk, -List.all_eq_true, iR_ok, ok0, iR_eq_nil, deIs_nil]
    refine drawP_x _ [(0, 0), (1, 0), (2, 0), (3, 0), (9, 0), (4, 0), (5, 0), (6, 0), (7, 0), (8, 0), (10, 1), (11, 1)] [9, 11] (by decide) ?_
    simp -implicitDefEqProofs [List.lookup_cons, eS, rbR_iR, rbR_nil, rbOb_mk, iR_mf, pickOk, -List.all_eq_true, iR_ok, ok0, iR_eq_nil, deIs_nil, OpOk]
    refine fin_pure (by simp) ?_
    simp -implicitDefEqProofs [fS, rn0, pickObs, deI, ppX, cntL, iR, linesS, purO2, tR_pur]
end Go.Proofs
