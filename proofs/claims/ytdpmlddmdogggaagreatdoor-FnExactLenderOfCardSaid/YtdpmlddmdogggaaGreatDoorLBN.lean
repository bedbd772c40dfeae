/-
  What is proved here: contracts of the law's own functions on whole numbers. Condition: none.
  What is proved here: contracts of the small checks of numbers. Condition: none.
  What is proved here: contracts of the functions on names. Condition: none.
-/
import Derived.Test.YtdpmlddmdogggaaGreatDoorKXYtdpmlddmdogggaaGreatDoor
set_option linter.unusedVariables false
set_option linter.unusedSimpArgs false
set_option linter.unnecessarySimpa false
set_option maxHeartbeats 4000000
set_option maxRecDepth 20000
namespace Go.Proofs
open Go.Abs
def iOb (l : List Int) : Ob := ⟨3, 1, 0, iR l, false, true, none⟩
theorem take_succ' (l : List Int) (k : Nat) (h : k < l.length) : l.take (k + 1) = l.take k ++ [l[k]] := by rw [List.take_succ_eq_append_getElem h]
def F47 : Fun := ⟨fun xs => ∃ l m, xs = [ints l, ints m] ∧ l.length ≤ 1048576, fun xs => (B (decide (deIs (xs.getD 0 .top) = deIs (xs.getD 1 .top))), [])⟩
theorem c47 : GenCA K Tryz.prog 47 F47 := by
  refine contractA Tryz.mix K [] [] (by simp) (by simp) Tryz.func47 rfl (by decide) ?_
  rintro xs ⟨l, m, rfl, hl⟩
  refine ⟨by rw [Tryz.ntmps47]; simp, ?_⟩
  simp -implicitDefEqProofs [Tryz.f47, List.lookup_cons, eS, ints]
  refine ⟨fun h0 => ?_, fun h0 => ?_⟩
  · refine fin_pure (by simp) ?_
    have : ¬ l = m := fun e => h0 (by rw [e])
    simp -implicitDefEqProofs [fS, rn0, pickObs, deI, F47, this]
  have h0' : l.length = m.length := by omega
  refine loopP_inv (fun k : Nat => ⟨26, tl [(0, .sl (iR l)), (1, .sl (iR m)), (5, I k)], []⟩) (fun k => k ≤ l.length ∧ l.take k = m.take k) (fun k => l.length - k) 0 (by simp) (Wk.tl (by simp [hold, upd, tl_cons])) ?_
  rintro k ⟨hk, ha⟩
  by_cases h : k < l.length
  · have h' : k < m.length := by omega
    simp -implicitDefEqProofs [List.lookup_cons, eS, h, h']
    refine drawP_all _ (by decide) ?_
    simp -implicitDefEqProofs [List.lookup_cons, eS, h, h']
    refine ⟨fun h1 => ?_, fun h1 => ⟨k + 1, by omega, by rw [take_succ' l k h, take_succ' m k h', ha, h1], by omega, Wk.tl ?_⟩⟩
    · refine fin_pure (by simp) ?_
      have : ¬ l = m := fun e => h1 (by subst e; rfl)
      simp -implicitDefEqProofs [fS, rn0, pickObs, deI, F47, this]
    · simp [hold, upd, tl_cons, w64_nat (show k < 4611686018427387904 by omega)]
  · simp -implicitDefEqProofs [List.lookup_cons, eS, h]
    refine fin_pure (by simp) ?_
    rw [List.take_of_length_le (by omega), List.take_of_length_le (by omega)] at ha
    simp -implicitDefEqProofs [fS, rn0, pickObs, deI, F47, ha]
def upI (k : Int) (n : Nat) : List Int := (List.range n).map fun i : Nat => k + (i : Int)
theorem upI_len (k : Int) (n : Nat) : (upI k n).length = n := by simp [upI]
@[simp] theorem upI_zero (k : Int) : upI k 0 = [] := rfl
@[simp] theorem deIs_em : deIs (.sl []) = [] := rfl
attribute [simp] upI_len
theorem fill_set (l : List Int) (k : Nat) (h : k < l.length) : (l.take k ++ List.replicate (l.length - k) 0).set k l[k] = l.take (k + 1) ++ List.replicate (l.length - (k + 1)) 0 := fillT 0 l k h
def F64 : Fun := ⟨fun xs => ∃ l, xs = [ints l] ∧ l.length ≤ 1048576, fun xs => (.osl 0 0, [iOb (deIs (xs.getD 0 .top))])⟩
theorem c64 : GenCA K Tryz.prog 64 F64 := by
  refine contractA Tryz.mix K [] [] (by simp) (by simp) Tryz.func64 rfl (by decide) ?_
  rintro xs ⟨l, rfl, hl⟩
  refine ⟨by rw [Tryz.ntmps64]; simp, ?_⟩
  simp -implicitDefEqProofs [Tryz.f64, List.lookup_cons, eS, ints, eMake, plain]
  refine ⟨by omega, by omega, ?_⟩
  refine loopP_inv (fun k : Nat => ⟨22, tl [(0, .sl (iR l)), (3, .osl 0 0), (4, I k)], [iOb (l.take k ++ List.replicate (l.length - k) 0)]⟩) (fun k => k ≤ l.length) (fun k => l.length - k) 0 (Nat.zero_le _) ?_ ?_
  · simp only [iOb, List.take_zero, List.nil_append, Nat.sub_zero, ← iR_replicate]
    exact Wk.tl (by simp [hold, upd, tl_cons])
  intro k hk
  by_cases h : k < l.length
  · have hk' : k < min k l.length + (l.length - k) := by omega
    simp -implicitDefEqProofs [List.lookup_cons, eS, h, iOb, hk']
    refine ⟨k + 1, by omega, by omega, ?_⟩
    rw [fill_set l k h]
    exact Wk.tl (by simp [hold, upd, tl_cons, w64_nat (show k < 4611686018427387904 by omega)])
  · simp -implicitDefEqProofs [List.lookup_cons, eS, h, iOb]
    have : l.length - k = 0 := by omega
    rw [this, List.take_of_length_le (by omega), List.replicate_zero, List.append_nil]
    refine fin_own [0] (by simp [pickOk, -List.all_eq_true, iR_ok]) ?_
    simp -implicitDefEqProofs [fS, rn0, pickObs, deI, F64, iOb]
end Go.Proofs
namespace Go.Proofs
open Go.Abs
theorem not_true {b : Bool} (h : ¬ b = true) : b = false := by simpa using h
def F87 : Fun := ⟨fun xs => xs = [I (deI (xs.getD 0 .top) : Int), I (deI (xs.getD 1 .top) : Int), I (deI (xs.getD 2 .top) : Int)] ∧ (fun (x : Int) (lo : Int) (hi : Int) => (True)) (deI (xs.getD 0 .top) : Int) (deI (xs.getD 1 .top) : Int) (deI (xs.getD 2 .top) : Int), fun xs => (fun (x : Int) (lo : Int) (hi : Int) => ((B (rng lo hi x), []) : X × List Ob)) (deI (xs.getD 0 .top) : Int) (deI (xs.getD 1 .top) : Int) (deI (xs.getD 2 .top) : Int)⟩
theorem F87_in {xs : List X} (h : F87.pre xs) : ∃ (x : Int) (lo : Int) (hi : Int), xs = [I x, I lo, I hi] ∧ (True) := ⟨_, _, _, h.1, h.2⟩
theorem F87_res (x : Int) (lo : Int) (hi : Int) : F87.res [I x, I lo, I hi] = (B (rng lo hi x), []) := by simp [F87]
theorem c87 : GenCA K Tryz.prog 87 F87 := by
  refine contractA Tryz.mix K [] [] (by simp) (by simp) Tryz.func87 rfl (by decide) ?_
  intro xs hxs
  obtain ⟨x, lo, hi, rfl, hp⟩ := F87_in hxs
  rw [F87_res]
  refine ⟨by rw [Tryz.ntmps87]; simp, ?_⟩
  simp -implicitDefEqProofs [Tryz.f87, List.lookup_cons, eS]
  refine fin_pure (by simp) ?_
  simp -implicitDefEqProofs [fS, rn0, pickObs, deI, rng]
def F169 : Fun := ⟨fun xs => xs = [I (deI (xs.getD 0 .top) : Int)] ∧ (fun (x : Int) => (True)) (deI (xs.getD 0 .top) : Int), fun xs => (fun (x : Int) => ((B (rng 1 999 x), []) : X × List Ob)) (deI (xs.getD 0 .top) : Int)⟩
theorem F169_in {xs : List X} (h : F169.pre xs) : ∃ (x : Int), xs = [I x] ∧ (True) := ⟨_, h.1, h.2⟩
theorem F169_res (x : Int) : F169.res [I x] = (B (rng 1 999 x), []) := by simp [F169]
theorem c169 : GenCA K Tryz.prog 169 F169 := by
  refine contractA Tryz.mix K [] [] (by simp) (by simp) Tryz.func169 rfl (by decide) ?_
  intro xs hxs
  obtain ⟨x, rfl, hp⟩ := F169_in hxs
  rw [F169_res]
  refine ⟨by rw [Tryz.ntmps169]; simp, ?_⟩
  simp -implicitDefEqProofs [Tryz.f169, List.lookup_cons, eS]
  refine fin_pure (by simp) ?_
  simp -implicitDefEqProofs [fS, rn0, pickObs, deI, rng]
def F112 : Fun := ⟨fun xs => xs = [I (deI (xs.getD 0 .top) : Int)] ∧ (fun (x : Int) => (True)) (deI (xs.getD 0 .top) : Int), fun xs => (fun (x : Int) => ((B (rng 1 1500 x), []) : X × List Ob)) (deI (xs.getD 0 .top) : Int)⟩
theorem F112_in {xs : List X} (h : F112.pre xs) : ∃ (x : Int), xs = [I x] ∧ (True) := ⟨_, h.1, h.2⟩
theorem F112_res (x : Int) : F112.res [I x] = (B (rng 1 1500 x), []) := by simp [F112]
theorem c112 : GenCA K Tryz.prog 112 F112 := by
  refine contractA Tryz.mix K [] [] (by simp) (by simp) Tryz.func112 rfl (by decide) ?_
  intro xs hxs
  obtain ⟨x, rfl, hp⟩ := F112_in hxs
  rw [F112_res]
  refine ⟨by rw [Tryz.ntmps112]; simp, ?_⟩
  simp -implicitDefEqProofs [Tryz.f112, List.lookup_cons, eS]
  refine fin_pure (by simp) ?_
  simp -implicitDefEqProofs [fS, rn0, pickObs, deI, rng]
end Go.Proofs
namespace Go.Proofs
open Go.Abs
def small (n : Int) : Bool := decide (97 ≤ n) && decide (n ≤ 122)
def F167 : Fun := ⟨fun xs => ∃ x, xs = [.v (.int .u8 x)], fun xs => (B (small (deU (xs.getD 0 .top))), [])⟩
theorem c167 : GenCA K Tryz.prog 167 F167 := by
  refine contractA Tryz.mix K [] [] (by simp) (by simp) Tryz.func167 rfl (by decide) ?_
  rintro xs ⟨x, rfl⟩
  refine ⟨by rw [Tryz.ntmps167]; simp, ?_⟩
  simp -implicitDefEqProofs [Tryz.f167, List.lookup_cons, eS]
  refine fin_pure (by simp) ?_
  simp -implicitDefEqProofs [fS, rn0, pickObs, deI, F167, small, deU]
def isKy (s : ByteArray) : Bool := kws.any fun b => b.toList == s.toList
def F168 : Fun := ⟨fun xs => ∃ s, xs = [Sx s], fun xs => (B (isKy (deS (xs.getD 0 .top))), [])⟩
theorem any_take (l : List ByteArray) (p : ByteArray → Bool) (k : Nat) (h : k < l.length) (h1 : (l.take k).any p = false) (h2 : p l[k] = false) : (l.take (k + 1)).any p = false := by
  rw [List.take_succ_eq_append_getElem h, List.any_append, h1]; simp [h2]
theorem any_at (l : List ByteArray) (p : ByteArray → Bool) (k : Nat) (h : k < l.length) (h2 : p l[k] = true) : l.any p = true := by
  rw [List.any_eq_true]; exact ⟨_, List.getElem_mem h, h2⟩
theorem c168 : GenCA K Tryz.prog 168 F168 := by
  refine contractA Tryz.mix K [] [] (by simp) (by simp) Tryz.func168 rfl (by decide) ?_
  rintro xs ⟨s, rfl⟩
  refine ⟨by rw [Tryz.ntmps168]; simp, ?_⟩
  simp -implicitDefEqProofs [Tryz.f168, List.lookup_cons, eS, Sx, K, kwX_len]
  refine loopP_inv (fun k : Nat => ⟨13, tl [(0, .v (.string s)), (5, .agg kwX), (6, I k)], []⟩) (fun k => k ≤ 14 ∧ (kws.take k).any (fun b => b.toList == s.toList) = false) (fun k => 14 - k) 0 (by simp) (Wk.tl (by simp [hold, upd, tl_cons, kwX_take])) ?_
  rintro k ⟨hk, ha⟩
  by_cases h : k < 14
  · have h' : k < kws.length := h
    have hi : (k : Int) < 14 := by omega
    have hg := kwX_get k h
    simp -implicitDefEqProofs [List.lookup_cons, eS, h, hi, kwX_getE, kwX_len, show k + 1 ≤ 14 by omega]
    refine ⟨fun hx => ?_, fun hx => ⟨k + 1, by omega, ?_, by omega, Wk.tl ?_⟩⟩
    · refine fin_pure (by simp) ?_
      have := any_at kws (fun b => b.toList == s.toList) k h' (by rw [← kw_eq k h']; simpa using hx)
      have e : isKy s = true := this
      simp -implicitDefEqProofs [fS, rn0, pickObs, deI, F168, deS, e]
    · have := any_take kws (fun b => b.toList == s.toList) k h' ha (by rw [← kw_eq k h']; simpa using hx)
      simpa using this
    · simp [hold, upd, tl_cons, w64_nat (show k < 4611686018427387904 by omega)]
  · have hi : ¬ (k : Int) < 14 := by omega
    have e : k = 14 := by omega
    subst e
    simp -implicitDefEqProofs [List.lookup_cons, eS]
    refine fin_pure (by simp) ?_
    have e : isKy s = false := ha
    simp -implicitDefEqProofs [fS, rn0, pickObs, deI, F168, deS, e]
def F190 : Fun := ⟨fun xs => xs = [], fun _ => (.sl (sR kws), [])⟩
theorem c190 : GenCA K Tryz.prog 190 F190 := by
  refine contractA Tryz.mix K [] [] (by simp) (by simp) Tryz.func190 rfl (by decide) ?_
  rintro xs rfl
  refine ⟨by rw [Tryz.ntmps190]; simp, ?_⟩
  simp -implicitDefEqProofs [Tryz.f190, List.lookup_cons, eS, eBuildSlice, fillX, chunk, plain, cellsX, splice]
  refine fin_pure (by simp) ?_
  rfl
def F189 : Fun := ⟨fun xs => ∃ l s, xs = [.sl (sR l), Sx s] ∧ l.length ≤ 1048576, fun xs => (B ((deSs (xs.getD 0 .top)).any fun b => b.toList == (deS (xs.getD 1 .top)).toList), [])⟩
theorem c189 : GenCA K Tryz.prog 189 F189 := by
  refine contractA Tryz.mix K [] [] (by simp) (by simp) Tryz.func189 rfl (by decide) ?_
  rintro xs ⟨l, s, rfl, hl⟩
  refine ⟨by rw [Tryz.ntmps189]; simp, ?_⟩
  simp -implicitDefEqProofs [Tryz.f189, List.lookup_cons, eS, Sx, sR_length]
  refine loopP_inv (fun k : Nat => ⟨17, tl [(1, .v (.string s)), (7, .sl (sR l)), (8, I l.length), (9, I k)], []⟩) (fun k => k ≤ l.length ∧ (l.take k).any (fun b => b.toList == s.toList) = false) (fun k => l.length - k) 0 (by simp) (Wk.tl (by simp [hold, upd, tl_cons])) ?_
  rintro k ⟨hk, ha⟩
  by_cases h : k < l.length
  · simp -implicitDefEqProofs [List.lookup_cons, eS, h, sR_get, sR_getE, sR_length]
    refine ⟨fun hx => ?_, fun hx => ⟨k + 1, by omega, ?_, by omega, Wk.tl ?_⟩⟩
    · refine fin_pure (by simp) ?_
      have e := any_at l (fun b => b.toList == s.toList) k h (by simpa using hx)
      have e' : ((deSs (.sl (sR l))).any fun b => b.toList == s.toList) = true := by rw [deSs_sl]; exact e
      simp only [F189, List.getD_cons_zero, List.getD_cons_succ, deS]
      rw [e']
      rfl
    · have := any_take l (fun b => b.toList == s.toList) k h ha (by simpa using hx)
      simpa using this
    · simp [hold, upd, tl_cons, w64_nat (show k < 4611686018427387904 by omega)]
  · have e : k = l.length := by omega
    subst e
    rw [List.take_length] at ha
    simp -implicitDefEqProofs [List.lookup_cons, eS]
    refine fin_pure (by simp) ?_
    have e' : ((deSs (.sl (sR l))).any fun b => b.toList == s.toList) = false := by rw [deSs_sl]; exact ha
    simp only [F189, List.getD_cons_zero, List.getD_cons_succ, deS]
    rw [e']
    rfl
theorem c159 : GenCA K Tryz.prog 159 F168 := by
  refine contractA Tryz.mix K [(190, F190), (189, F189)] [] (by simp [c190, c189]) (by simp) Tryz.func159 rfl (by decide) ?_
  rintro xs ⟨s, rfl⟩
  refine ⟨by rw [Tryz.ntmps159]; simp, ?_⟩
  simp -implicitDefEqProofs [Tryz.f159, List.lookup_cons, eS, Sx, F190, F189, sR_inj, deSs_sl, deS, kws_len]
  refine fin_pure (by simp) ?_
  simp -implicitDefEqProofs [fS, rn0, pickObs, deI, F168, deS, isKy]
def lowTo (s : ByteArray) (n : Nat) : Bool := (List.range n).all fun k => small (byt s k)
theorem lowTo_succ (s : ByteArray) (n : Nat) : lowTo s (n + 1) = (lowTo s n && small (byt s n)) := by simp [lowTo, List.range_succ]
theorem lowTo_le (s : ByteArray) (k : Nat) : ∀ n, k < n → small (byt s k) = false → lowTo s n = false := by
  intro n hn h
  rw [Bool.eq_false_iff]
  intro h2
  simp only [lowTo, List.all_eq_true, List.mem_range] at h2
  rw [h2 k hn] at h
  cases h
def nmOk (s : ByteArray) : Bool := rng 1 8 s.size && lowTo s s.size && !isKy s
def F137 : Fun := ⟨fun xs => ∃ s, xs = [Sx s] ∧ s.size ≤ 1048576, fun xs => (B (nmOk (deS (xs.getD 0 .top))), [])⟩
theorem c137 : GenCA K Tryz.prog 137 F137 := by
  refine contractA Tryz.mix K [(167, F167), (168, F168)] [] (by simp [c167, c168]) (by simp) Tryz.func137 rfl (by decide) ?_
  rintro xs ⟨s, rfl, hs⟩
  refine ⟨by rw [Tryz.ntmps137]; simp, ?_⟩
  by_cases h1 : (s.size : Int) < 1
  · simp -implicitDefEqProofs [Tryz.f137, List.lookup_cons, eS, Sx, h1]
    refine fin_pure (by simp) ?_
    have e : nmOk s = false := by simp [nmOk, rng]; omega
    simp -implicitDefEqProofs [fS, rn0, pickObs, deI, F137, deS, e]
  by_cases h2 : 8 < (s.size : Int)
  · simp -implicitDefEqProofs [Tryz.f137, List.lookup_cons, eS, Sx, h1, h2]
    refine fin_pure (by simp) ?_
    have e : nmOk s = false := by simp [nmOk, rng]; omega
    simp -implicitDefEqProofs [fS, rn0, pickObs, deI, F137, deS, e]
  have h1' : ¬ s.size = 0 := by omega
  have h2' : ¬ 8 < s.size := by omega
  have hr : rng 1 8 s.size = true := by simp [rng]; omega
  simp -implicitDefEqProofs [Tryz.f137, List.lookup_cons, eS, Sx, h1, h2, h1', h2']
  refine loopP_inv (fun k : Nat => ⟨26, tl [(0, .v (.string s)), (3, I k)], []⟩) (fun k => k ≤ s.size ∧ lowTo s k = true) (fun k => s.size - k) 0 (by simp [lowTo]) (Wk.tl (by simp [hold, upd, tl_cons])) ?_
  rintro k ⟨hk, ha⟩
  by_cases h : k < s.size
  · cases hq : small (byt s k) with
    | true =>
      simp -implicitDefEqProofs [List.lookup_cons, eS, h, ei_str, F167, deU, hq]
      refine ⟨k + 1, by omega, by rw [lowTo_succ, ha, hq]; rfl, by omega, Wk.tl ?_⟩
      simp [hold, upd, tl_cons, w64_nat (show k < 4611686018427387904 by omega)]
    | false =>
      simp -implicitDefEqProofs [List.lookup_cons, eS, h, ei_str, F167, deU, hq]
      refine fin_pure (by simp) ?_
      have e : nmOk s = false := by simp [nmOk, lowTo_le s k s.size h hq]
      simp -implicitDefEqProofs [fS, rn0, pickObs, deI, F137, deS, e]
  · have e : k = s.size := by omega
    subst e
    simp -implicitDefEqProofs [List.lookup_cons, eS, F168, Sx, deS]
    refine fin_pure (by simp) ?_
    simp -implicitDefEqProofs [fS, rn0, pickObs, deI, F137, deS, nmOk, hr, ha]
theorem c127 : GenCA K Tryz.prog 127 F137 := by
  refine contractA Tryz.mix K [(87, F87), (159, F168)] [] (by simp [c87, c159]) (by simp) Tryz.func127 rfl (by decide) ?_
  rintro xs ⟨s, rfl, hs⟩
  refine ⟨by rw [Tryz.ntmps127]; simp, ?_⟩
  simp -implicitDefEqProofs [Tryz.f127, List.lookup_cons, eS, Sx]
  refine loopP_inv (fun k : Nat => ⟨28, tl [(0, .v (.string s)), (3, I k)], []⟩) (fun k => k ≤ s.size ∧ lowTo s k = true) (fun k => s.size - k) 0 (by simp [lowTo]) (Wk.tl (by simp [hold, upd, tl_cons])) ?_
  rintro k ⟨hk, ha⟩
  by_cases h : k < s.size
  · by_cases g1 : byt s k < 97
    · simp -implicitDefEqProofs [List.lookup_cons, eS, h, ei_str, g1]
      refine fin_pure (by simp) ?_
      have e : nmOk s = false := by simp [nmOk, lowTo_le s k s.size h (by simp [small]; omega)]
      simp -implicitDefEqProofs [fS, rn0, pickObs, deI, F137, deS, e]
    by_cases g2 : 122 < byt s k
    · simp -implicitDefEqProofs [List.lookup_cons, eS, h, ei_str, g1, g2]
      refine fin_pure (by simp) ?_
      have e : nmOk s = false := by simp [nmOk, lowTo_le s k s.size h (by simp [small]; omega)]
      simp -implicitDefEqProofs [fS, rn0, pickObs, deI, F137, deS, e]
    simp -implicitDefEqProofs [List.lookup_cons, eS, h, ei_str, g1, g2]
    refine ⟨k + 1, by omega, by rw [lowTo_succ, ha]; simp [small]; omega, by omega, Wk.tl ?_⟩
    simp [hold, upd, tl_cons, w64_nat (show k < 4611686018427387904 by omega)]
  · have e : k = s.size := by omega
    subst e
    cases hr : rng 1 8 s.size with
    | true =>
      simp -implicitDefEqProofs [List.lookup_cons, eS, F168, F87, Sx, deS, hr]
      refine fin_pure (by simp) ?_
      simp -implicitDefEqProofs [fS, rn0, pickObs, deI, F137, deS, nmOk, hr, ha]
    | false =>
      simp -implicitDefEqProofs [List.lookup_cons, eS, F168, F87, Sx, deS, hr]
      refine fin_pure (by simp) ?_
      simp -implicitDefEqProofs [fS, rn0, pickObs, deI, F137, deS, nmOk, hr]
end Go.Proofs
