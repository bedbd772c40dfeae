/-
  What is proved here: contracts of how long a leaf waits. Condition: none.
-/
import Derived.Test.YtdpmlddmdogggaaGreatDoorIL10vj
namespace Go.Proofs
open Go.Abs
set_option linter.unusedSimpArgs false
set_option linter.unnecessarySimpa false
set_option linter.unusedVariables false
set_option maxHeartbeats 16000000
set_option maxRecDepth 20000
structure Bkt where
  rate : Int
  cap : Int
  tok : Int
instance : Rw Bkt where
  n := 3
  enc e := [.int .i64 e.rate, .int .i64 e.cap, .int .i64 e.tok]
  dec l := ⟨deI (l.getD 0 .top), deI (l.getD 1 .top), deI (l.getD 2 .top)⟩
  len _ := rfl
  flat _ := rfl
  de _ := rfl
@[simp] theorem Bkt.rXe (e : Bkt) : rX e = [I e.rate, I e.cap, I e.tok] := rfl
@[simp] theorem Bkt.dece (x0 x1 x2 : X) : (Rw.dec [x0, x1, x2] : Bkt) = ⟨deI x0, deI x1, deI x2⟩ := rfl
@[simp] theorem Bkt.eta (e : Bkt) : (⟨e.rate, e.cap, e.tok⟩ : Bkt) = e := rfl
def Bkt.z : Bkt := ⟨0, 0, 0⟩
def Bkt.V (e : Bkt) : Value := .agg #[.int .i64 e.rate, .int .i64 e.cap, .int .i64 e.tok]
def tkF (tok rate need : Int) : Int := if need ≤ tok then 0 else IntKind.i64.wrap ((need - tok + rate - 1).tdiv rate)
def F113 : Fun := ⟨fun xs => xs = [I (deI (xs.getD 0 .top) : Int), I (deI (xs.getD 1 .top) : Int), I (deI (xs.getD 2 .top) : Int)] ∧ (fun (tok : Int) (rate : Int) (need : Int) => (0 ≤ tok ∧ tok ≤ 1000000 ∧ 1 ≤ rate ∧ rate ≤ 100000 ∧ 1 ≤ need ∧ need ≤ 1500)) (deI (xs.getD 0 .top) : Int) (deI (xs.getD 1 .top) : Int) (deI (xs.getD 2 .top) : Int), fun xs => (fun (tok : Int) (rate : Int) (need : Int) => ((I (tkF tok rate need), []) : X × List Ob)) (deI (xs.getD 0 .top) : Int) (deI (xs.getD 1 .top) : Int) (deI (xs.getD 2 .top) : Int)⟩
theorem F113_in {xs : List X} (h : F113.pre xs) : ∃ (tok : Int) (rate : Int) (need : Int), xs = [I tok, I rate, I need] ∧ (0 ≤ tok ∧ tok ≤ 1000000 ∧ 1 ≤ rate ∧ rate ≤ 100000 ∧ 1 ≤ need ∧ need ≤ 1500) := ⟨_, _, _, h.1, h.2⟩
theorem F113_res (tok : Int) (rate : Int) (need : Int) : F113.res [I tok, I rate, I need] = (I (tkF tok rate need), []) := by simp [F113]
theorem c113 : GenCA K Tryz.prog 113 F113 := by
  refine contractA Tryz.mix K [] [] (by simp) (by simp) Tryz.func113 rfl (by decide) ?_
  intro xs hxs
  obtain ⟨tok, rate, need, rfl, hp⟩ := F113_in hxs
  rw [F113_res]
  refine ⟨by rw [Tryz.ntmps113]; simp, ?_⟩
  obtain ⟨a1, a2, a3, a4, a5, a6⟩ := hp
  unfold tkF
  by_cases h : need ≤ tok
  · rw [if_pos h]
    simp -implicitDefEqProofs [Tryz.f113, List.lookup_cons, eS, h]
    refine fin_pure (by simp) ?_
    simp -implicitDefEqProofs [fS, rn0, pickObs, deI]
  · rw [if_neg h]
    have h' : tok < need := by omega
    have w1 : IntKind.i64.wrap (need - tok) = need - tok := w64 (by omega) (by omega)
    have w2 : IntKind.i64.wrap (need - tok + rate) = need - tok + rate := w64 (by omega) (by omega)
    have w3 : IntKind.i64.wrap (need - tok + rate - 1) = need - tok + rate - 1 := w64 (by omega) (by omega)
    have hz : ¬ rate = 0 := by omega
    simp -implicitDefEqProofs [Tryz.f113, List.lookup_cons, eS, h, h', w1, w2, w3, hz]
    refine fin_pure (by simp) ?_
    simp -implicitDefEqProofs [fS, rn0, pickObs, deI]
def F77 : Fun := ⟨fun xs => xs = [.agg (rX (deA (xs.getD 0 .top) : Bkt)), I (deI (xs.getD 1 .top) : Int)] ∧ (fun (b : Bkt) (n : Int) => (0 ≤ b.tok ∧ b.tok ≤ 1000000 ∧ 1 ≤ b.rate ∧ b.rate ≤ 100000 ∧ 1 ≤ n ∧ n ≤ 1500 ∧ n ≤ b.cap)) (deA (xs.getD 0 .top) : Bkt) (deI (xs.getD 1 .top) : Int), fun xs => (fun (b : Bkt) (n : Int) => ((I (tkF b.tok b.rate n), []) : X × List Ob)) (deA (xs.getD 0 .top) : Bkt) (deI (xs.getD 1 .top) : Int)⟩
theorem F77_in {xs : List X} (h : F77.pre xs) : ∃ (b : Bkt) (n : Int), xs = [.agg (rX b), I n] ∧ (0 ≤ b.tok ∧ b.tok ≤ 1000000 ∧ 1 ≤ b.rate ∧ b.rate ≤ 100000 ∧ 1 ≤ n ∧ n ≤ 1500 ∧ n ≤ b.cap) := ⟨_, _, h.1, h.2⟩
theorem F77_res (b : Bkt) (n : Int) : F77.res [.agg (rX b), I n] = (I (tkF b.tok b.rate n), []) := by simp [F77]
theorem c77 : GenCA K Tryz.prog 77 F77 := by
  refine contractA Tryz.mix K [] [] (by simp) (by simp) Tryz.func77 rfl (by decide) ?_
  intro xs hxs
  obtain ⟨b, n, rfl, hp⟩ := F77_in hxs
  rw [F77_res]
  refine ⟨by rw [Tryz.ntmps77]; simp, ?_⟩
  obtain ⟨a1, a2, a3, a4, a5, a6, a7⟩ := hp
  unfold tkF
  by_cases h : n ≤ b.tok
  · rw [if_pos h]
    simp -implicitDefEqProofs [Tryz.f77, List.lookup_cons, eS, h]
    refine fin_pure (by simp) ?_
    simp -implicitDefEqProofs [fS, rn0, pickObs, deI]
  · rw [if_neg h]
    have h' : b.tok < n := by omega
    have h2 : ¬ b.cap < n := by omega
    have w1 : IntKind.i64.wrap (n - b.tok) = n - b.tok := w64 (by omega) (by omega)
    have w2 : IntKind.i64.wrap (n - b.tok + b.rate) = n - b.tok + b.rate := w64 (by omega) (by omega)
    have w3 : IntKind.i64.wrap (n - b.tok + b.rate - 1) = n - b.tok + b.rate - 1 := w64 (by omega) (by omega)
    have hz : ¬ b.rate = 0 := by omega
    simp -implicitDefEqProofs [Tryz.f77, List.lookup_cons, eS, h, h', h2, a7, w1, w2, w3, hz]
    refine fin_pure (by simp) ?_
    simp -implicitDefEqProofs [fS, rn0, pickObs, deI]
def F76 : Fun := ⟨fun xs => xs = [I (deI (xs.getD 0 .top) : Int), I (deI (xs.getD 1 .top) : Int)] ∧ (fun (a : Int) (b : Int) => (True)) (deI (xs.getD 0 .top) : Int) (deI (xs.getD 1 .top) : Int), fun xs => (fun (a : Int) (b : Int) => ((I (if a < b then b else a), []) : X × List Ob)) (deI (xs.getD 0 .top) : Int) (deI (xs.getD 1 .top) : Int)⟩
theorem F76_in {xs : List X} (h : F76.pre xs) : ∃ (a : Int) (b : Int), xs = [I a, I b] ∧ (True) := ⟨_, _, h.1, h.2⟩
theorem F76_res (a : Int) (b : Int) : F76.res [I a, I b] = (I (if a < b then b else a), []) := by simp [F76]
theorem c76 : GenCA K Tryz.prog 76 F76 := by
  refine contractA Tryz.mix K [] [] (by simp) (by simp) Tryz.func76 rfl (by decide) ?_
  intro xs hxs
  obtain ⟨a, b, rfl, hp⟩ := F76_in hxs
  rw [F76_res]
  refine ⟨by rw [Tryz.ntmps76]; simp, ?_⟩
  by_cases h : b < a
  · have h' : ¬ a < b := by omega
    simp -implicitDefEqProofs [Tryz.f76, List.lookup_cons, eS, h]
    refine fin_pure (by simp) ?_
    simp -implicitDefEqProofs [fS, rn0, pickObs, deI, h']
  · have h' : (if a < b then b else a) = b := by split <;> omega
    rw [h']
    simp -implicitDefEqProofs [Tryz.f76, List.lookup_cons, eS, h]
    refine fin_pure (by simp) ?_
    simp -implicitDefEqProofs [fS, rn0, pickObs, deI]
def wtS (x : Ldd) (t : Tok) (size : Int) (p : Int × Int) (k : Int) : Int × Int :=
  (if p.1 < tkF (t.c.getD k.toNat 0) (atC x.cls k.toNat).ceil size then tkF (t.c.getD k.toNat 0) (atC x.cls k.toNat).ceil size else p.1,
   if p.2 < 0 ∨ tkF (t.r.getD k.toNat 0) (atC x.cls k.toNat).rate size < p.2 then tkF (t.r.getD k.toNat 0) (atC x.cls k.toNat).rate size else p.2)
def wtP (x : Ldd) (t : Tok) (size : Int) (l : List Int) : Int × Int := l.foldl (wtS x t size) (0, -1)
def wtI (x : Ldd) (t : Tok) (i size : Int) : Int := if (wtP x t size (hop x.par i)).1 < (wtP x t size (hop x.par i)).2 then (wtP x t size (hop x.par i)).2 else (wtP x t size (hop x.par i)).1
theorem wtP_succ (x : Ldd) (t : Tok) (size : Int) (w : List Int) (k : Nat) (h : k < w.length) {p : Int × Int} (hp : wtP x t size (w.take k) = p) : wtP x t size (w.take (k + 1)) = wtS x t size p w[k] := by
  unfold wtP at *
  rw [List.take_succ_eq_append_getElem h, List.foldl_append, hp]
  rfl
theorem atK_at {x : Ldd} {t : Tok} {n k : Nat} (h : atK x t n = true) (hk : k < n) : tkB1 (atC x.cls k) (t.r.getD k 0) (t.c.getD k 0) = true := by
  unfold atK at h
  exact all_range.1 h k hk
def F78 : Fun := ⟨fun xs => xs = [.agg (lX (deL (xs.getD 0 .top) : Ldd)), .agg (tkX (deTk (xs.getD 1 .top) : Tok)), I (deI (xs.getD 2 .top) : Int), I (deI (xs.getD 3 .top) : Int)] ∧ (fun (x : Ldd) (t : Tok) (i : Int) (size : Int) => (LdG x ∧ t.r.length = x.cls.length ∧ t.c.length = x.cls.length ∧ atK x t x.cls.length = true ∧ 1 ≤ size ∧ size ≤ 1500 ∧ 0 ≤ i ∧ i < x.cls.length)) (deL (xs.getD 0 .top) : Ldd) (deTk (xs.getD 1 .top) : Tok) (deI (xs.getD 2 .top) : Int) (deI (xs.getD 3 .top) : Int), fun xs => (fun (x : Ldd) (t : Tok) (i : Int) (size : Int) => ((I (wtI x t i size), []) : X × List Ob)) (deL (xs.getD 0 .top) : Ldd) (deTk (xs.getD 1 .top) : Tok) (deI (xs.getD 2 .top) : Int) (deI (xs.getD 3 .top) : Int)⟩
theorem F78_in {xs : List X} (h : F78.pre xs) : ∃ (x : Ldd) (t : Tok) (i : Int) (size : Int), xs = [.agg (lX x), .agg (tkX t), I i, I size] ∧ (LdG x ∧ t.r.length = x.cls.length ∧ t.c.length = x.cls.length ∧ atK x t x.cls.length = true ∧ 1 ≤ size ∧ size ≤ 1500 ∧ 0 ≤ i ∧ i < x.cls.length) := ⟨_, _, _, _, h.1, h.2⟩
theorem F78_res (x : Ldd) (t : Tok) (i : Int) (size : Int) : F78.res [.agg (lX x), .agg (tkX t), I i, I size] = (I (wtI x t i size), []) := by simp [F78]
theorem F78_mk (x : Ldd) (t : Tok) (i : Int) (size : Int) (h : LdG x ∧ t.r.length = x.cls.length ∧ t.c.length = x.cls.length ∧ atK x t x.cls.length = true ∧ 1 ≤ size ∧ size ≤ 1500 ∧ 0 ≤ i ∧ i < x.cls.length) : F78.pre [.agg (lX x), .agg (tkX t), I i, I size] := by simpa [F78] using h
theorem c78 : GenCA K Tryz.prog 78 F78 := by
  refine contractA Tryz.mix K [(95, F95), (113, F113)] [] (by simp [c95, c113]) (by simp) Tryz.func78 rfl (by decide) ?_
  intro xs hxs
  obtain ⟨x, t, i, size, rfl, hp⟩ := F78_in hxs
  rw [F78_res]
  refine ⟨by rw [Tryz.ntmps78]; simp, ?_⟩
  obtain ⟨G, hl, hlc, hat, s1, s2, h0, h1⟩ := hp
  obtain ⟨j, rfl⟩ := Int.eq_ofNat_of_zero_le h0
  have hj : j < x.cls.length := by omega
  have hwr := way_rng G hj
  have hwl := hop_len x.par (j : Int)
  unfold wtI
  obtain ⟨w, hww⟩ : ∃ w, hop x.par (j : Int) = w := ⟨_, rfl⟩
  rw [hww] at hwr hwl ⊢
  simp -implicitDefEqProofs [Tryz.f78, F95, F113, List.lookup_cons, eS, G, hj, hww, iOb]
  refine loopP_inv (fun s : Nat × Int × Int => ⟨62, tl [(3, I size), (4, .optr 0 0 0 0), (5, .optr 1 0 0 0), (9, I s.2.1), (10, I s.2.2), (16, .osl 2 0), (17, I w.length), (18, I s.1)], [⟨35, 9, 0, [[.v (.string x.name), .sl (tR x.cls), .sl (iR x.par), .sl (iR x.fst), .sl (iR x.nx), .sl (iR x.en), .sl (tR x.fil), .sl (iR x.tgt), I x.dflt]], true, true, none⟩, ⟨29, 2, 0, [[.sl (iR t.r), .sl (iR t.c)]], true, true, none⟩, ⟨3, 1, 0, iR w, false, true, none⟩]⟩) (fun s => s.1 ≤ w.length ∧ wtP x t size (w.take s.1) = s.2) (fun s => w.length - s.1) (0, 0, -1) ⟨Nat.zero_le _, rfl⟩ (Wk.tl (by simp [hold, upd, tl_cons])) ?_
  rintro ⟨k, p1, p2⟩ ⟨hk, hc⟩
  simp only at hk hc
  by_cases h : k < w.length
  · have hw := w64n (show k < 4611686018427387904 by omega)
    have hS := wtP_succ x t size w k h hc
    obtain ⟨m, hm0, hm⟩ := hwr w[k] (List.getElem_mem h)
    have hmg : ∀ h', w[k]'(h') = (m : Int) := fun _ => hm0
    have hmr : m < t.r.length := by omega
    have hmc : m < t.c.length := by omega
    have hok := G.cls _ (List.getElem_mem hm)
    have hb := atK_at hat hm
    rw [hm0] at hS
    simp only [wtS, Int.toNat_natCast, atC_eq hm, getR_at hmr, getR_at hmc] at hS
    rw [atC_eq hm, getR_at hmr, getR_at hmc] at hb
    obtain ⟨y, hy0⟩ : ∃ y, x.cls[m] = y := ⟨_, rfl⟩
    have hy : ∀ h', x.cls[m]'(h') = y := fun _ => hy0
    obtain ⟨r, hr0⟩ : ∃ r, t.r[m] = r := ⟨_, rfl⟩
    have hr : ∀ h', t.r[m]'(h') = r := fun _ => hr0
    obtain ⟨c, hc0⟩ : ∃ c, t.c[m] = c := ⟨_, rfl⟩
    have hcc : ∀ h', t.c[m]'(h') = c := fun _ => hc0
    rw [hy0, hr0, hc0] at hS
    rw [hy0, hr0, hc0] at hb
    rw [hy0] at hok
    simp only [Cls.ok, Cls.rateOk, Cls.burstOk, rng, Bool.and_eq_true, decide_eq_true_eq] at hok
    simp only [tkB1, Bool.and_eq_true, decide_eq_true_eq] at hb
    have b1 : 0 ≤ c := hb.2.2.1
    have b2 : c ≤ 1000000 := by omega
    have b3 : 1 ≤ y.ceil := by omega
    have b4 : y.ceil ≤ 100000 := by omega
    have b5 : 0 ≤ r := hb.1
    have b6 : r ≤ 1000000 := by omega
    have b7 : 1 ≤ y.rate := by omega
    have b8 : y.rate ≤ 100000 := by omega
    have b9 : size ≤ y.burst := by omega
    have b10 : size ≤ y.cburst := by omega
    obtain ⟨u, hu⟩ : ∃ u, tkF c y.ceil size = u := ⟨_, rfl⟩
    obtain ⟨v, hv⟩ : ∃ v, tkF r y.rate size = v := ⟨_, rfl⟩
    rw [hu, hv] at hS
    simp -implicitDefEqProofs [List.lookup_cons, eS, h, hmg, hm, hy]
    refine drawP_all _ (by decide) ?_
    simp -implicitDefEqProofs [List.lookup_cons, eS, h, hmg, hmr, hmc, hm, hy, hr, hcc, s1, s2, b1, b2, b3, b4, b5, b6, b7, b8, b9, b10, hu, hv]
    refine drawP_all _ (by decide) ?_
    simp -implicitDefEqProofs [List.lookup_cons, eS, h, hmg, hmr, hmc, hm, hy, hr, hcc, s1, s2, b1, b2, b3, b4, b5, b6, b7, b8, b9, b10, hu, hv]
    obtain ⟨q, hq⟩ : ∃ q, (if p1 < u then u else p1) = q := ⟨_, rfl⟩
    rw [hq] at hS
    by_cases z1 : p2 < 0
    · have hS' : wtP x t size (w.take (k + 1)) = (q, v) := by rw [hS]; simp [z1]
      have z1c : ¬ 0 ≤ p2 := by omega
      simp -implicitDefEqProofs [List.lookup_cons, eS, z1, z1c, hq]
      refine ⟨k + 1, by omega, by omega, ?_⟩
      rw [hS']
      exact Wk.tl (by simp [hold, upd, tl_cons, hw])
    have z1' : 0 ≤ p2 := by omega
    by_cases z2 : v < p2
    · have hS' : wtP x t size (w.take (k + 1)) = (q, v) := by rw [hS]; simp [z2]
      have z2c : ¬ p2 ≤ v := by omega
      simp -implicitDefEqProofs [List.lookup_cons, eS, z1, z1', z2, z2c, hq]
      refine ⟨k + 1, by omega, by omega, ?_⟩
      rw [hS']
      exact Wk.tl (by simp [hold, upd, tl_cons, hw])
    · have z2' : p2 ≤ v := by omega
      have hS' : wtP x t size (w.take (k + 1)) = (q, p2) := by rw [hS]; simp [z1, z2]
      simp -implicitDefEqProofs [List.lookup_cons, eS, z1, z1', z2, z2', hq]
      refine ⟨k + 1, by omega, by omega, ?_⟩
      rw [hS']
      exact Wk.tl (by simp [hold, upd, tl_cons, hw])
  · have e : k = w.length := by omega
    subst e
    rw [List.take_length] at hc
    rw [hc]
    simp -implicitDefEqProofs [List.lookup_cons, eS]
    refine fin_pure (by simp) ?_
    simp -implicitDefEqProofs [fS, rn0, pickObs, deI]
def F31 : Fun := ⟨fun xs => xs = [.agg (lX (deL (xs.getD 0 .top) : Ldd)), .agg (tkX (deTk (xs.getD 1 .top) : Tok)), I (deI (xs.getD 2 .top) : Int), I (deI (xs.getD 3 .top) : Int)] ∧ (fun (x : Ldd) (t : Tok) (i : Int) (size : Int) => (okM x)) (deL (xs.getD 0 .top) : Ldd) (deTk (xs.getD 1 .top) : Tok) (deI (xs.getD 2 .top) : Int) (deI (xs.getD 3 .top) : Int), fun xs => (fun (x : Ldd) (t : Tok) (i : Int) (size : Int) => ((ibX (caB x t i size) (wtI x t i size), []) : X × List Ob)) (deL (xs.getD 0 .top) : Ldd) (deTk (xs.getD 1 .top) : Tok) (deI (xs.getD 2 .top) : Int) (deI (xs.getD 3 .top) : Int)⟩
theorem F31_in {xs : List X} (h : F31.pre xs) : ∃ (x : Ldd) (t : Tok) (i : Int) (size : Int), xs = [.agg (lX x), .agg (tkX t), I i, I size] ∧ (okM x) := ⟨_, _, _, _, h.1, h.2⟩
theorem F31_res (x : Ldd) (t : Tok) (i : Int) (size : Int) : F31.res [.agg (lX x), .agg (tkX t), I i, I size] = (ibX (caB x t i size) (wtI x t i size), []) := by simp [F31]
theorem F31_mk (x : Ldd) (t : Tok) (i : Int) (size : Int) (h : okM x) : F31.pre [.agg (lX x), .agg (tkX t), I i, I size] := by simpa [F31] using h
theorem c31 : GenCA K Tryz.prog 31 F31 := by
  refine contractA Tryz.mix K [(73, F73), (78, F78)] [] (by simp [c73, c78]) (by simp) Tryz.func31 rfl (by decide) ?_
  intro xs hxs
  obtain ⟨x, t, i, size, rfl, hp⟩ := F31_in hxs
  rw [F31_res]
  refine ⟨by rw [Tryz.ntmps31]; simp, ?_⟩
  cases g : caB x t i size with
  | false =>
    rw [ibX_f]
    simp -implicitDefEqProofs [Tryz.f31, F73, F78, List.lookup_cons, eS, hp, g]
    refine fin_pure (by simp) ?_
    simp -implicitDefEqProofs [fS, rn0, pickObs, deI]
  | true =>
    obtain ⟨j, rfl, hj, G, l1, l2, l3, l4, l5⟩ := caB_at g
    rw [ibX_t]
    have hm : (F78.pre [.agg (lX x), .agg (tkX t), I j, I size]) := F78_mk x t j size ⟨G, l1, l2, l3, l4, l5, by omega, by omega⟩
    have hr : F78.res [.agg (lX x), .agg (tkX t), I j, I size] = (I (wtI x t j size), []) := F78_res x t j size
    simp only [lX, tkX] at hm hr
    simp -implicitDefEqProofs [Tryz.f31, F73, List.lookup_cons, eS, hp, g, hm, hr]
    refine fin_pure (by simp) ?_
    simp -implicitDefEqProofs [fS, rn0, pickObs, deI]
theorem c30 : GenCA K Tryz.prog 30 F31 := by
  refine contractA Tryz.mix K [(71, F73), (75, F95), (77, F77), (76, F76)] [] (by simp [c71, c75, c77, c76]) (by simp) Tryz.func30 rfl (by decide) ?_
  intro xs hxs
  obtain ⟨x, t, i, size, rfl, hp⟩ := F31_in hxs
  rw [F31_res]
  refine ⟨by rw [Tryz.ntmps30]; simp, ?_⟩
  cases g : caB x t i size with
  | false =>
    rw [ibX_f]
    simp -implicitDefEqProofs [Tryz.f30, F73, F95, F77, F76, List.lookup_cons, eS, hp, g]
    refine fin_pure (by simp) ?_
    simp -implicitDefEqProofs [fS, rn0, pickObs, deI]
  | true =>
  obtain ⟨j, rfl, hj, G, hl, hlc, hat, s1, s2⟩ := caB_at g
  rw [ibX_t]
  have hwr := way_rng G hj
  have hwl := hop_len x.par (j : Int)
  unfold wtI
  obtain ⟨w, hww⟩ : ∃ w, hop x.par (j : Int) = w := ⟨_, rfl⟩
  rw [hww] at hwr hwl ⊢
  simp -implicitDefEqProofs [Tryz.f30, F73, F95, F77, F76, List.lookup_cons, eS, hp, g, G, hj, hww, iOb]
  refine loopP_inv (fun s : Nat × Int × Int => ⟨73, tl [(3, I size), (4, .optr 0 0 0 0), (5, .optr 1 0 0 0), (10, I s.2.1), (11, I s.2.2), (24, .osl 2 0), (25, I w.length), (26, I s.1)], [⟨35, 9, 0, [[.v (.string x.name), .sl (tR x.cls), .sl (iR x.par), .sl (iR x.fst), .sl (iR x.nx), .sl (iR x.en), .sl (tR x.fil), .sl (iR x.tgt), I x.dflt]], true, true, none⟩, ⟨29, 2, 0, [[.sl (iR t.r), .sl (iR t.c)]], true, true, none⟩, ⟨3, 1, 0, iR w, false, true, none⟩]⟩) (fun s => s.1 ≤ w.length ∧ wtP x t size (w.take s.1) = s.2) (fun s => w.length - s.1) (0, 0, -1) ⟨Nat.zero_le _, rfl⟩ (Wk.tl (by simp [hold, upd, tl_cons])) ?_
  rintro ⟨k, p1, p2⟩ ⟨hk, hc⟩
  simp only at hk hc
  by_cases h : k < w.length
  · have hw := w64n (show k < 4611686018427387904 by omega)
    have hS := wtP_succ x t size w k h hc
    obtain ⟨m, hm0, hm⟩ := hwr w[k] (List.getElem_mem h)
    have hmg : ∀ h', w[k]'(h') = (m : Int) := fun _ => hm0
    have hmr : m < t.r.length := by omega
    have hmc : m < t.c.length := by omega
    have hok := G.cls _ (List.getElem_mem hm)
    have hb := atK_at hat hm
    rw [hm0] at hS
    simp only [wtS, Int.toNat_natCast, atC_eq hm, getR_at hmr, getR_at hmc] at hS
    rw [atC_eq hm, getR_at hmr, getR_at hmc] at hb
    obtain ⟨y, hy0⟩ : ∃ y, x.cls[m] = y := ⟨_, rfl⟩
    have hy : ∀ h', x.cls[m]'(h') = y := fun _ => hy0
    obtain ⟨r, hr0⟩ : ∃ r, t.r[m] = r := ⟨_, rfl⟩
    have hr : ∀ h', t.r[m]'(h') = r := fun _ => hr0
    obtain ⟨c, hc0⟩ : ∃ c, t.c[m] = c := ⟨_, rfl⟩
    have hcc : ∀ h', t.c[m]'(h') = c := fun _ => hc0
    rw [hy0, hr0, hc0] at hS
    rw [hy0, hr0, hc0] at hb
    rw [hy0] at hok
    simp only [Cls.ok, Cls.rateOk, Cls.burstOk, rng, Bool.and_eq_true, decide_eq_true_eq] at hok
    simp only [tkB1, Bool.and_eq_true, decide_eq_true_eq] at hb
    have b1 : 0 ≤ c := hb.2.2.1
    have b2 : c ≤ 1000000 := by omega
    have b3 : 1 ≤ y.ceil := by omega
    have b4 : y.ceil ≤ 100000 := by omega
    have b5 : 0 ≤ r := hb.1
    have b6 : r ≤ 1000000 := by omega
    have b7 : 1 ≤ y.rate := by omega
    have b8 : y.rate ≤ 100000 := by omega
    have b9 : size ≤ y.burst := by omega
    have b10 : size ≤ y.cburst := by omega
    obtain ⟨u, hu⟩ : ∃ u, tkF c y.ceil size = u := ⟨_, rfl⟩
    obtain ⟨v, hv⟩ : ∃ v, tkF r y.rate size = v := ⟨_, rfl⟩
    rw [hu, hv] at hS
    simp -implicitDefEqProofs [List.lookup_cons, eS, h, hmg, hm, hy]
    refine drawP_all _ (by decide) ?_
    simp -implicitDefEqProofs [List.lookup_cons, eS, h, hmg, hmr, hmc, hm, hy, hr, hcc, s1, s2, b1, b2, b3, b4, b5, b6, b7, b8, b9, b10, hu, hv, F76]
    refine drawP_all _ (by decide) ?_
    simp -implicitDefEqProofs [List.lookup_cons, eS, h, hmg, hmr, hmc, hm, hy, hr, hcc, s1, s2, b1, b2, b3, b4, b5, b6, b7, b8, b9, b10, hu, hv, F76]
    obtain ⟨q, hq⟩ : ∃ q, (if p1 < u then u else p1) = q := ⟨_, rfl⟩
    rw [hq] at hS
    by_cases z1 : p2 < 0
    · have hS' : wtP x t size (w.take (k + 1)) = (q, v) := by rw [hS]; simp [z1]
      have z1c : ¬ 0 ≤ p2 := by omega
      simp -implicitDefEqProofs [List.lookup_cons, eS, z1, z1c, hq]
      refine ⟨k + 1, by omega, by omega, ?_⟩
      rw [hS']
      refine Wk.tlP [0, 1, 2] (by simp [pickOk, -List.all_eq_true, iR_ok, ok0]) (by simp [pickObs]) ?_
      simp [hold, upd, tl_cons, rn1, rn0, hw]
      try exact ⟨rfl, rfl⟩
    have z1' : 0 ≤ p2 := by omega
    by_cases z2 : v < p2
    · have hS' : wtP x t size (w.take (k + 1)) = (q, v) := by rw [hS]; simp [z2]
      have z2c : ¬ p2 ≤ v := by omega
      simp -implicitDefEqProofs [List.lookup_cons, eS, z1, z1', z2, z2c, hq]
      refine ⟨k + 1, by omega, by omega, ?_⟩
      rw [hS']
      refine Wk.tlP [0, 1, 2] (by simp [pickOk, -List.all_eq_true, iR_ok, ok0]) (by simp [pickObs]) ?_
      simp [hold, upd, tl_cons, rn1, rn0, hw]
      try exact ⟨rfl, rfl⟩
    · have z2' : p2 ≤ v := by omega
      have hS' : wtP x t size (w.take (k + 1)) = (q, p2) := by rw [hS]; simp [z1, z2]
      simp -implicitDefEqProofs [List.lookup_cons, eS, z1, z1', z2, z2', hq]
      refine ⟨k + 1, by omega, by omega, ?_⟩
      rw [hS']
      refine Wk.tlP [0, 1, 2] (by simp [pickOk, -List.all_eq_true, iR_ok, ok0]) (by simp [pickObs]) ?_
      simp [hold, upd, tl_cons, rn1, rn0, hw]
      try exact ⟨rfl, rfl⟩
  · have e : k = w.length := by omega
    subst e
    rw [List.take_length] at hc
    rw [hc]
    simp -implicitDefEqProofs [List.lookup_cons, eS, F76]
    refine fin_pure (by simp) ?_
    simp -implicitDefEqProofs [fS, rn0, pickObs, deI]
end Go.Proofs
