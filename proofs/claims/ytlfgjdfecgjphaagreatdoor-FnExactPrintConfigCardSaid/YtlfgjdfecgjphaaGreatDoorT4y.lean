/-
  What is proved here: the reference's texts of numbers with a unit; strings.Join out of the shelf's contract. Condition: none.
-/
import Derived.Test.YtlfgjdfecgjphaaGreatDoorT3y
namespace Go.Proofs
open Go.Abs
set_option linter.unusedSimpArgs false
set_option linter.unnecessarySimpa false
set_option linter.unusedVariables false
set_option maxHeartbeats 4000000
set_option maxRecDepth 20000

@[simp] theorem deS_T (b : ByteArray) : deS (Sx b) = b := rfl
@[simp] theorem deS_T2 (b : ByteArray) : deS (.v (.string b)) = b := rfl
def strOb (l : List ByteArray) : Ob := ⟨9, 1, 0, sR l, false, true, none⟩
theorem sR_snoc (l : List ByteArray) (b : ByteArray) : sR l ++ [[.v (.string b)]] = sR (l ++ [b]) := by simp [sR]
theorem sR_cons' (a : ByteArray) (l : List ByteArray) : sR (a :: l) = [.v (.string a)] :: sR l := rfl
theorem sR_nil' : sR [] = [] := rfl
def f1 (n : Nat) : List ByteArray := if 0 < n ∧ n % 1000000 = 0 then [decB (n / 1000000) ++ ⟨#[109]⟩] else []
def f2 (n : Nat) : List ByteArray := f1 n ++ (if 0 < n ∧ n % 1000 = 0 then [decB (n / 1000) ++ ⟨#[107]⟩] else [])
def f3 (n : Nat) : List ByteArray := f2 n ++ [decB n]
def formsP (n k : Nat) : List ByteArray := if k = 0 then [] else if k = 1 then f1 n else if k = 2 then f2 n else f3 n
theorem f1_len (n : Nat) : (f1 n).length ≤ 1 := by unfold f1; split <;> simp
theorem f2_len (n : Nat) : (f2 n).length ≤ 2 := by
  unfold f2
  have := f1_len n
  split <;> simp <;> omega
theorem f3_head (n : Nat) : (f3 n)[0]? = some (numB n) := by
  unfold f3 f2 f1 numB
  by_cases h6 : 0 < n ∧ n % 1000000 = 0
  · simp [h6]
  · by_cases h3 : 0 < n ∧ n % 1000 = 0
    · rw [if_neg h6, if_neg h6, if_pos h3, if_pos h3]; rfl
    · rw [if_neg h6, if_neg h6, if_neg h3, if_neg h3]; rfl
def F145 : Fun := ⟨fun xs => xs = [I (deI (xs.getD 0 .top) : Int)] ∧ (fun (n : Int) => (0 ≤ n ∧ n ≤ 1000000000)) (deI (xs.getD 0 .top) : Int), fun xs => (fun (n : Int) => ((.osl 0 0, [strOb (f3 n.toNat)]) : X × List Ob)) (deI (xs.getD 0 .top) : Int)⟩
theorem F145_in {xs : List X} (h : F145.pre xs) : ∃ (n : Int), xs = [I n] ∧ (0 ≤ n ∧ n ≤ 1000000000) := ⟨_, h.1, h.2⟩
theorem F145_res (n : Int) : F145.res [I n] = (.osl 0 0, [strOb (f3 n.toNat)]) := by simp [F145]
theorem F145_mk (n : Int) (h : 0 ≤ n ∧ n ≤ 1000000000) : F145.pre [I n] := by simpa [F145] using h
theorem c145 : GenCA K Tryz.prog 145 F145 := by
  refine contractA Tryz.mix K [(152, F152), (153, F153), (47, F47)] [] (by simp [c152, c153, c47]) (by simp) Tryz.func145 rfl (by decide) ?_
  intro xs hxs
  obtain ⟨n, rfl, hp⟩ := F145_in hxs
  rw [F145_res]
  refine ⟨by rw [Tryz.ntmps145]; simp, ?_⟩
  obtain ⟨h0, h1⟩ := hp
  obtain ⟨n, rfl⟩ := Int.eq_ofNat_of_zero_le h0
  have e1 : (ByteArray.mk #[109]).size = 1 := rfl
  have e2 : (ByteArray.mk #[107]).size = 1 := rfl
  have e3 : (ByteArray.mk #[]).size = 0 := rfl
  have q1 : ((ByteArray.mk #[109]).toList == (ByteArray.mk #[]).toList) = false := by rw [ByteArray.toList_eq, ByteArray.toList_eq]; rfl
  have q2 : ((ByteArray.mk #[107]).toList == (ByteArray.mk #[]).toList) = false := by rw [ByteArray.toList_eq, ByteArray.toList_eq]; rfl
  have q3 : ((ByteArray.mk #[]).toList == (ByteArray.mk #[]).toList) = true := by rw [ByteArray.toList_eq]; rfl
  obtain ⟨m6, hm6⟩ : ∃ m, n % 1000000 = m := ⟨_, rfl⟩
  obtain ⟨m3, hm3⟩ : ∃ m, n % 1000 = m := ⟨_, rfl⟩
  have t6 : (n : Int).tmod 1000000 = (m6 : Int) := by rw [← hm6]; exact mod_at n 1000000
  have t3 : (n : Int).tmod 1000 = (m3 : Int) := by rw [← hm3]; exact mod_at n 1000
  have t1 : (n : Int).tmod 1 = 0 := Int.tmod_one _
  have w6 : IntKind.i64.wrap ((n : Int) / 1000000) = (n : Int) / 1000000 := w64 (by omega) (by omega)
  have w3 : IntKind.i64.wrap ((n : Int) / 1000) = (n : Int) / 1000 := w64 (by omega) (by omega)
  have w1 : IntKind.i64.wrap (n : Int) = (n : Int) := w64 (by omega) (by omega)
  have a6 : (0 : Int) ≤ (n : Int) / 1000000 := by omega
  have a3 : (0 : Int) ≤ (n : Int) / 1000 := by omega
  have b6 : (n : Int) / 1000000 ≤ 9223372036854775807 := by omega
  have b3 : (n : Int) / 1000 ≤ 9223372036854775807 := by omega
  have b0 : (n : Int) ≤ 9223372036854775807 := by omega
  have c6 : ((n : Int) / 1000000).toNat = n / 1000000 := by omega
  have c3 : ((n : Int) / 1000).toNat = n / 1000 := by omega
  have z6 := decB_size (n / 1000000) (by omega)
  have z3 := decB_size (n / 1000) (by omega)
  have z0 := decB_size n (by omega)
  have y6 : (decB (n / 1000000)).size + 1 ≤ 9223372036854775807 := by omega
  have y3 : (decB (n / 1000)).size + 1 ≤ 9223372036854775807 := by omega
  have y0 : (decB n).size ≤ 9223372036854775807 := by omega
  have d0 : decB n ++ ByteArray.mk #[] = decB n := by apply ba_ext; rw [ByteArray.data_append]; simp
  have x1 : IntKind.i64.wrap 1 = 1 := rfl
  have x2 : IntKind.i64.wrap 2 = 2 := rfl
  have x3 : IntKind.i64.wrap 3 = 3 := rfl
  simp -implicitDefEqProofs [Tryz.f145, List.lookup_cons, and_assoc, pick_and, pick_or, if_and, if_or, F152]
  refine loopP_inv (fun k : Nat => ⟨38, tl [(0, I n), (3, .osl 1 0), (6, .osl 0 0), (7, I 3), (8, I k)], [strOb unitsB, strOb (formsP n k)]⟩) (fun k => k ≤ 3) (fun k => 3 - k) 0 (Nat.zero_le _) (Wk.tlN (h := [strOb unitsB]) 9 1 3 (by simp [upd]) (by simp [hold, upd, tl_cons, show unitsB.length = 3 from rfl])) ?_
  intro k hk
  by_cases h : k < 3
  · obtain rfl | rfl | rfl : k = 0 ∨ k = 1 ∨ k = 2 := by omega
    · by_cases hn : 0 < n
      · by_cases h6 : m6 = 0
        · skip
          have hN : sR (formsP n 0) ++ [[.v (.string (decB (n / 1000000) ++ ⟨#[109]⟩))]] = sR (formsP n 1) := by rw [sR_snoc]; simp [formsP, f1, hn, hm6, h6]
          have hl : (formsP n 0).length ≤ 3 := by simp [formsP]
          simp -implicitDefEqProofs [List.lookup_cons, and_assoc, pick_and, pick_or, if_and, if_or, strOb, unitsB, sR_cons', sR_nil', hn, h6, F153, F47, sizeOfUnit, t6, t3, t1, w6, w3, w1, a6, a3, b6, b3, b0, c6, c3, y6, y3, y0, e1, e2, e3, q1, q2, q3, d0, eAppend, eBuildSlice, srcRows, srcOk, chunk]
          refine ⟨by omega, by omega, 1, by omega, by omega, ?_⟩
          rw [hN]
          refine Wk.tlP [0, 1] (by simp [pickOk, -List.all_eq_true, sR_ok, ok0, sR_cons', sR_nil']) ?_ ?_
          · simp [pickObs]
          · simp [hold, upd, tl_cons, rn1, rn0, x1, x2, x3]
            exact ⟨rfl, rfl⟩
        · skip
          have hN : formsP n 0 = formsP n 1 := by simp [formsP, f1, hn, hm6, h6]
          simp -implicitDefEqProofs [List.lookup_cons, and_assoc, pick_and, pick_or, if_and, if_or, strOb, unitsB, sR_cons', sR_nil', hn, h6, F153, F47, sizeOfUnit, t6, t3, t1, w6, w3, w1, a6, a3, b6, b3, b0, c6, c3, y6, y3, y0, e1, e2, e3, q1, q2, q3, d0, eAppend, eBuildSlice, srcRows, srcOk, chunk]
          refine ⟨1, by omega, by omega, ?_⟩
          rw [hN]
          exact Wk.tlD (m := 2) rfl (by simp [hold, upd, tl_cons, x1, x2, x3]) (by simp [okL_cons, okL_nil, ok1, ok0]) (by rw [okH_cons]; exact ⟨by simp [ok0], okH_sR _ _ _ _ _ _ _ _ _ (by simp [okH_nil])⟩)
      · skip
        have hN : formsP n 0 = formsP n 1 := by simp [formsP, f1, hn]
        simp -implicitDefEqProofs [List.lookup_cons, and_assoc, pick_and, pick_or, if_and, if_or, strOb, unitsB, sR_cons', sR_nil', hn, F153, F47, sizeOfUnit, t6, t3, t1, w6, w3, w1, a6, a3, b6, b3, b0, c6, c3, y6, y3, y0, e1, e2, e3, q1, q2, q3, d0, eAppend, eBuildSlice, srcRows, srcOk, chunk]
        refine ⟨1, by omega, by omega, ?_⟩
        rw [hN]
        exact Wk.tlD (m := 2) rfl (by simp [hold, upd, tl_cons, x1, x2, x3]) (by simp [okL_cons, okL_nil, ok1, ok0]) (by rw [okH_cons]; exact ⟨by simp [ok0], okH_sR _ _ _ _ _ _ _ _ _ (by simp [okH_nil])⟩)
    · by_cases hn : 0 < n
      · by_cases h3 : m3 = 0
        · skip
          have hN : sR (formsP n 1) ++ [[.v (.string (decB (n / 1000) ++ ⟨#[107]⟩))]] = sR (formsP n 2) := by rw [sR_snoc]; simp [formsP, f2, hn, hm3, h3]
          have hl : (formsP n 1).length ≤ 3 := by have := f1_len n; simp [formsP]; omega
          simp -implicitDefEqProofs [List.lookup_cons, and_assoc, pick_and, pick_or, if_and, if_or, strOb, unitsB, sR_cons', sR_nil', hn, h3, F153, F47, sizeOfUnit, t6, t3, t1, w6, w3, w1, a6, a3, b6, b3, b0, c6, c3, y6, y3, y0, e1, e2, e3, q1, q2, q3, d0, eAppend, eBuildSlice, srcRows, srcOk, chunk]
          refine ⟨by omega, by omega, 2, by omega, by omega, ?_⟩
          rw [hN]
          refine Wk.tlP [0, 1] (by simp [pickOk, -List.all_eq_true, sR_ok, ok0, sR_cons', sR_nil']) ?_ ?_
          · simp [pickObs]
          · simp [hold, upd, tl_cons, rn1, rn0, x1, x2, x3]
            exact ⟨rfl, rfl⟩
        · skip
          have hN : formsP n 1 = formsP n 2 := by simp [formsP, f2, hn, hm3, h3]
          simp -implicitDefEqProofs [List.lookup_cons, and_assoc, pick_and, pick_or, if_and, if_or, strOb, unitsB, sR_cons', sR_nil', hn, h3, F153, F47, sizeOfUnit, t6, t3, t1, w6, w3, w1, a6, a3, b6, b3, b0, c6, c3, y6, y3, y0, e1, e2, e3, q1, q2, q3, d0, eAppend, eBuildSlice, srcRows, srcOk, chunk]
          refine ⟨2, by omega, by omega, ?_⟩
          rw [hN]
          exact Wk.tlD (m := 2) rfl (by simp [hold, upd, tl_cons, x1, x2, x3]) (by simp [okL_cons, okL_nil, ok1, ok0]) (by rw [okH_cons]; exact ⟨by simp [ok0], okH_sR _ _ _ _ _ _ _ _ _ (by simp [okH_nil])⟩)
      · skip
        have hN : formsP n 1 = formsP n 2 := by simp [formsP, f2, hn]
        simp -implicitDefEqProofs [List.lookup_cons, and_assoc, pick_and, pick_or, if_and, if_or, strOb, unitsB, sR_cons', sR_nil', hn, F153, F47, sizeOfUnit, t6, t3, t1, w6, w3, w1, a6, a3, b6, b3, b0, c6, c3, y6, y3, y0, e1, e2, e3, q1, q2, q3, d0, eAppend, eBuildSlice, srcRows, srcOk, chunk]
        refine ⟨2, by omega, by omega, ?_⟩
        rw [hN]
        exact Wk.tlD (m := 2) rfl (by simp [hold, upd, tl_cons, x1, x2, x3]) (by simp [okL_cons, okL_nil, ok1, ok0]) (by rw [okH_cons]; exact ⟨by simp [ok0], okH_sR _ _ _ _ _ _ _ _ _ (by simp [okH_nil])⟩)
    · skip
      have hN : sR (formsP n 2) ++ [[.v (.string (decB n))]] = sR (formsP n 3) := by rw [sR_snoc]; simp [formsP, f3]
      have hl : (formsP n 2).length ≤ 3 := by have := f2_len n; simp [formsP]; omega
      simp -implicitDefEqProofs [List.lookup_cons, and_assoc, pick_and, pick_or, if_and, if_or, strOb, unitsB, sR_cons', sR_nil', w1, F153, F47, sizeOfUnit, t6, t3, t1, w6, w3, w1, a6, a3, b6, b3, b0, c6, c3, y6, y3, y0, e1, e2, e3, q1, q2, q3, d0, eAppend, eBuildSlice, srcRows, srcOk, chunk]
      refine ⟨by omega, by omega, 3, by omega, by omega, ?_⟩
      rw [hN]
      refine Wk.tlP [0, 1] (by simp [pickOk, -List.all_eq_true, sR_ok, ok0, sR_cons', sR_nil']) ?_ ?_
      · simp [pickObs]
      · simp [hold, upd, tl_cons, rn1, rn0, x1, x2, x3]
        exact ⟨rfl, rfl⟩
  · have e : k = 3 := by omega
    subst e
    simp -implicitDefEqProofs [List.lookup_cons, and_assoc, pick_and, pick_or, if_and, if_or, strOb]
    refine fin_own [1] (by simp [pickOk, -List.all_eq_true, sR_ok]) ?_
    simp -implicitDefEqProofs [pur2_i, pur2_b, pur2_s, pur2_nil, pur2_sl, pur2_tup, rn2_tup, rn2_agg, rn2_osl, rn1_v, rn1_osl, rn1_agg, rn0_v, rn0_sl, rn0, pickObs, pur_v, pur_b, pur_s, pur_nil, pur_sl, deI, deIs_sl, strOb, formsP]
def F124 : Fun := ⟨fun xs => xs = [I (deI (xs.getD 0 .top) : Int)] ∧ (fun (n : Int) => (0 ≤ n ∧ n ≤ 1000000000)) (deI (xs.getD 0 .top) : Int), fun xs => (fun (n : Int) => ((.v (.string (numB n.toNat)), []) : X × List Ob)) (deI (xs.getD 0 .top) : Int)⟩
theorem F124_in {xs : List X} (h : F124.pre xs) : ∃ (n : Int), xs = [I n] ∧ (0 ≤ n ∧ n ≤ 1000000000) := ⟨_, h.1, h.2⟩
theorem F124_res (n : Int) : F124.res [I n] = (.v (.string (numB n.toNat)), []) := by simp [F124]
theorem F124_mk (n : Int) (h : 0 ≤ n ∧ n ≤ 1000000000) : F124.pre [I n] := by simpa [F124] using h
theorem c124 : GenCA K Tryz.prog 124 F124 := by
  refine contractA Tryz.mix K [(145, F145)] [] (by simp [c145]) (by simp) Tryz.func124 rfl (by decide) ?_
  intro xs hxs
  obtain ⟨n, rfl, hp⟩ := F124_in hxs
  rw [F124_res]
  refine ⟨by rw [Tryz.ntmps124]; simp, ?_⟩
  obtain ⟨h0, h1⟩ := hp
  obtain ⟨n, rfl⟩ := Int.eq_ofNat_of_zero_le h0
  have hh := f3_head n
  have hl : 0 < (f3 n).length := by
    rcases Nat.eq_zero_or_pos (f3 n).length with h | h
    · rw [List.getElem?_eq_none (by omega)] at hh; cases hh
    · exact h
  have hg : (f3 n)[0] = numB n := by
    rw [List.getElem?_eq_getElem hl] at hh
    exact Option.some.inj hh
  simp -implicitDefEqProofs [Tryz.f124, F145, List.lookup_cons, and_assoc, pick_and, pick_or, if_and, if_or, h1, strOb, hl, hg]
  refine fin_pure (by simp) ?_
  simp -implicitDefEqProofs [pur2_i, pur2_b, pur2_s, pur2_nil, pur2_sl, pur2_tup, rn2_tup, rn2_agg, rn2_osl, rn1_v, rn1_osl, rn1_agg, rn0_v, rn0_sl, rn0, pickObs, pur_v, pur_b, pur_s, pur_nil, pur_sl, deI, deIs_sl]
/-! ### strings.Join -/
def F87 : Fun := ⟨fun xs => xs = [.sl (sR (deSs (xs.getD 0 .top) : List ByteArray)), Sx (deS (xs.getD 1 .top) : ByteArray)] ∧ (fun (l : List ByteArray) (sep : ByteArray) => (l.length ≤ 1048576 ∧ (joinB l sep).size ≤ 140737488355328)) (deSs (xs.getD 0 .top) : List ByteArray) (deS (xs.getD 1 .top) : ByteArray), fun xs => (fun (l : List ByteArray) (sep : ByteArray) => ((.v (.string (joinB l sep)), []) : X × List Ob)) (deSs (xs.getD 0 .top) : List ByteArray) (deS (xs.getD 1 .top) : ByteArray)⟩
theorem F87_in {xs : List X} (h : F87.pre xs) : ∃ (l : List ByteArray) (sep : ByteArray), xs = [.sl (sR l), Sx sep] ∧ (l.length ≤ 1048576 ∧ (joinB l sep).size ≤ 140737488355328) := ⟨_, _, h.1, h.2⟩
theorem F87_res (l : List ByteArray) (sep : ByteArray) : F87.res [.sl (sR l), Sx sep] = (.v (.string (joinB l sep)), []) := by simp [F87]
theorem F87_mk (l : List ByteArray) (sep : ByteArray) (h : l.length ≤ 1048576 ∧ (joinB l sep).size ≤ 140737488355328) : F87.pre [.sl (sR l), Sx sep] := by simpa [F87] using h
theorem c87 : GenCA K Tryz.prog 87 F87 := by
  refine genStr (callFunc_enter Tryz.func87 rfl rfl) fun w S vs xs hpre hl hr hS hA => ?_
  obtain ⟨l, sep, rfl, h1, h2⟩ := F87_in hpre
  obtain ⟨v, s, rfl⟩ : ∃ v s, vs = #[v, s] := by
    obtain ⟨q⟩ := vs
    match q, hl with
    | [v, s], _ => exact ⟨v, s, rfl⟩
  have hs := (hr 1 (Sx sep) s rfl rfl).inv_v.1
  subst hs
  refine ⟨joinB l sep, F87_res l sep, ?_⟩
  have h2' : (Lib.join (l.map (·.data.toList)) sep.data.toList).length ≤ 140737488355328 := by simpa [joinB, ByteArray.size] using h2
  rcases (hr 0 (.sl (sR l)) v rfl rfl).inv_sl with ⟨h0, a, cp, rfl⟩ | ⟨ad, cp, sz, cs, rfl, hcp, hsb, hz, hcell, _, hrr⟩
  · have : l = [] := by simpa [sR] using h0
    subst this
    refine (Any.strings_Join_none Tryz.laysJoin Tryz.joinExtra a cp sep w).mono ?_
    rintro e w' ⟨rfl, rfl⟩
    exact ⟨rfl, Go.RowKit.Below.refl _ _⟩
  · by_cases hnil : l = []
    · subst hnil
      refine (Any.strings_Join_none Tryz.laysJoin Tryz.joinExtra (some ad) cp sep w).mono ?_
      rintro e w' ⟨rfl, rfl⟩
      exact ⟨rfl, Go.RowKit.Below.refl _ _⟩
    · have hpos : 0 < l.length := by cases l with
        | nil => exact absurd rfl hnil
        | cons a l => simp
      have hlen : (sR l).length = l.length := sR_length l
      have hsz : sz = 1 := by
        have := hz [.v (.string l[0])] (List.mem_of_getElem? (i := 0) (by rw [sR_get, List.getElem?_eq_getElem hpos]; rfl))
        simpa using this.symm
      subst hsz
      obtain ⟨b, o, sp⟩ := ad
      have hc0 := hcell 0 0 (by omega) (by omega)
      cases sp with
      | some p => simp [World.cell?, Addr.add] at hc0; split at hc0 <;> simp at hc0
      | none =>
        have hcells : ∀ (j : Nat) x, l[j]? = some x → w.cell? ⟨b, o + j, none⟩ = some (.string x) := by
          intro j x hx
          have hj : j < l.length := (List.getElem?_eq_some_iff.1 hx).1
          have e1 := hcell j 0 (by omega) (by omega)
          rw [add_none] at e1
          simp only [Nat.mul_one, Nat.add_zero] at e1
          rw [e1]
          have e2 := (hrr j 0 (.v (.string x)) (by simp [at2, sR_get, hx])).inv_v.1
          rw [e2]
        have hcj := Any.strings_Join Tryz.laysJoin Tryz.joinExtra b o cp l sep w hcells (hS b hsb) (by omega) (by omega) h2'
        rw [← hlen] at hcj
        exact hcj
attribute [simp] Sx
end Go.Proofs
