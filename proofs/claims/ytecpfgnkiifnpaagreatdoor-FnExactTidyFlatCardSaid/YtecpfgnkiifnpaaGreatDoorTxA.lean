/-
  What is proved here: the digits of a number as a text; the contract of the law's markText. Condition: none.
  What is proved here: the texts of numbers, on both sides: decimal ones, ones with a unit. Condition: none.
  What is proved here: the texts of numbers with a unit, on both sides. Condition: none.
  What is proved here: the reference's texts of numbers with a unit; strings.Join out of the shelf's contract. Condition: none.
-/
import Derived.Test.YtecpfgnkiifnpaaGreatDoorKXYtecpfgnkiifnpaaGreatDooro
import Derived.Test.YtecpfgnkiifnpaaGreatDoorAbsF
import Derived.Test.YtecpfgnkiifnpaaGreatDoorSHYtecpfgnkiifnpaaGreatDoor
set_option linter.unusedVariables false
set_option linter.unusedSimpArgs false
set_option linter.unnecessarySimpa false
set_option maxHeartbeats 4000000
set_option maxRecDepth 20000
namespace Go.Proofs
open Go.Abs
@[simp] theorem bsU : byteSl Tryz.prog 113 = true := by kernel_rfl
def dig (k : Nat) : ByteArray := mkS [IntKind.u8.wrap (48 + (k % 10 : Nat))]
theorem dig_size (k : Nat) : (dig k).size = 1 := by simp [dig, mkS]
def mtl (k : Nat) (o : ByteArray) : ByteArray := if _h : k = 0 then o else mtl (k / 10) (dig k ++ o)
  termination_by k
  decreasing_by omega
theorem mtl_zero (o : ByteArray) : mtl 0 o = o := by rw [mtl]; simp
theorem mtl_pos (k : Nat) (o : ByteArray) (h : 0 < k) : mtl k o = mtl (k / 10) (dig k ++ o) := by
  rw [mtl]
  rw [dif_neg (by omega)]
def mTx (k : Int) : ByteArray := if k ≤ 0 then ⟨#[109, 48]⟩ else ⟨#[109]⟩ ++ mtl k.toNat ⟨#[]⟩
end Go.Proofs
namespace Go.Proofs
open Go.Abs
theorem genWeakT {A : List (Nat × List X)} {P : Program} {f : Nat} {F F' : Fun} (h : GenCA A P f F') (hp : ∀ xs, F.pre xs → F'.pre xs) (hr : ∀ xs, F.pre xs → F'.res xs = F.res xs) : GenCA A P f F :=
  ⟨h.1, fun w S vs xs hx a b c d => by have := h.2 w S vs xs (hp _ hx) a b c d; rwa [hr _ hx] at this⟩
theorem ba_ext {a b : ByteArray} (h : a.data = b.data) : a = b := by cases a; cases b; simp at h; rw [h]
theorem dig_eq (k : Nat) : dig k = ⟨#[UInt8.ofNat (48 + k % 10)]⟩ := by
  have h : IntKind.u8.wrap (48 + ((k % 10 : Nat) : Int)) = ((48 + k % 10 : Nat) : Int) := by rw [IntKind.wrap_u8]; omega
  unfold dig mkS
  rw [h]
  rfl
theorem decB_lt {n : Nat} (h : n < 10) : decB n = dig n := by
  unfold decB
  rw [Lib.decDigits_one h, dig_eq, Nat.mod_eq_of_lt h]
theorem decB_ge {n : Nat} (h : ¬ n < 10) : decB n = decB (n / 10) ++ dig n := by
  rw [dig_eq]
  apply ba_ext
  rw [ByteArray.data_append]
  unfold decB
  rw [Lib.decDigits, dif_neg h]
  simp
theorem nDig_le : ∀ (k u : Nat), u < 10 ^ (k + 1) → Lib.nDigits u ≤ k + 1
  | 0, u, h => Nat.le_of_eq (Lib.nDigits_small (by simpa using h))
  | k + 1, u, h => by
    by_cases hu : u < 10
    · rw [Lib.nDigits_small hu]; omega
    · rw [Lib.nDigits_big hu]
      have := nDig_le k (u / 10) (by rw [Nat.pow_succ] at h; omega)
      omega
theorem decB_sz (n : Nat) : (decB n).size = Lib.nDigits n := by
  rw [← Lib.decDigits_length]
  simp [decB, ByteArray.size]
theorem decB_size (n : Nat) (h : n ≤ 9223372036854775807) : (decB n).size ≤ 19 := by
  rw [decB_sz]
  exact nDig_le 18 n (by omega)
def F76 : Fun := ⟨fun xs => xs = [I (deI (xs.getD 0 .top) : Int)] ∧ (fun (n : Int) => (0 ≤ n ∧ n ≤ 9223372036854775807)) (deI (xs.getD 0 .top) : Int), fun xs => (fun (n : Int) => ((.v (.string (decB n.toNat)), []) : X × List Ob)) (deI (xs.getD 0 .top) : Int)⟩
theorem F76_in {xs : List X} (h : F76.pre xs) : ∃ (n : Int), xs = [I n] ∧ (0 ≤ n ∧ n ≤ 9223372036854775807) := ⟨_, h.1, h.2⟩
theorem F76_res (n : Int) : F76.res [I n] = (.v (.string (decB n.toNat)), []) := by simp [F76]
theorem F76_mk (n : Int) (h : 0 ≤ n ∧ n ≤ 9223372036854775807) : F76.pre [I n] := by simpa [F76] using h
theorem c76 : GenCA K Tryz.prog 76 F76 :=
  genItoa (g := 2) (callFunc_enter Tryz.func76 rfl rfl) (fun n h0 h1 w htab => Any.strconv_Itoa Tryz.laysItoa n h0 h1 w htab) (by unfold K; first | exact List.mem_singleton.2 rfl | exact List.mem_cons_of_mem _ List.mem_cons_self) (by kernel_rfl) fun xs hxs => by
    obtain ⟨n, rfl, h0, h1⟩ := F76_in hxs
    obtain ⟨n, rfl⟩ := Int.eq_ofNat_of_zero_le h0
    exact ⟨n, rfl, by omega, by rw [F76_res]; rfl⟩
/-! ### the reference's decimal text: a function that calls itself -/
def F110 : Fun := ⟨fun xs => xs = [I (deI (xs.getD 0 .top) : Int)] ∧ (fun (n : Int) => (0 ≤ n ∧ n ≤ 9223372036854775807)) (deI (xs.getD 0 .top) : Int), fun xs => (fun (n : Int) => ((.v (.string (decB n.toNat)), []) : X × List Ob)) (deI (xs.getD 0 .top) : Int)⟩
theorem F110_in {xs : List X} (h : F110.pre xs) : ∃ (n : Int), xs = [I n] ∧ (0 ≤ n ∧ n ≤ 9223372036854775807) := ⟨_, h.1, h.2⟩
theorem F110_res (n : Int) : F110.res [I n] = (.v (.string (decB n.toNat)), []) := by simp [F110]
theorem F110_mk (n : Int) (h : 0 ≤ n ∧ n ≤ 9223372036854775807) : F110.pre [I n] := by simpa [F110] using h
def FNn (k : Nat) : Fun := ⟨fun xs => F110.pre xs ∧ (deI (xs.getD 0 .top)).toNat < k, F110.res⟩
theorem cNum : ∀ k, GenCA K Tryz.prog 110 (FNn k)
  | 0 => by
    refine contractA Tryz.mix K [] [] (by simp) (by simp) Tryz.func110 rfl (by decide) ?_
    rintro xs ⟨hxs, hk⟩
    exact absurd hk (Nat.not_lt_zero _)
  | k + 1 => by
    refine contractA Tryz.mix K [(110, FNn k)] [] (by simp [cNum k]) (by simp) Tryz.func110 rfl (by decide) ?_
    rintro xs ⟨hxs, hk⟩
    obtain ⟨n, rfl, h0, h1⟩ := F110_in hxs
    obtain ⟨n, rfl⟩ := Int.eq_ofNat_of_zero_le h0
    have hres : (FNn (k + 1)).res [I (n : Int)] = (.v (.string (decB n)), []) := F110_res (n : Int)
    rw [hres]
    refine ⟨by rw [Tryz.ntmps110]; simp, ?_⟩
    simp at hk
    by_cases h : n < 10
    · have hw : IntKind.i64.wrap (48 + (n : Int)) = 48 + (n : Int) := w64 (by omega) (by omega)
      have hd : mkS [IntKind.u8.wrap (48 + (n : Int))] = decB n := by rw [decB_lt h, dig, Nat.mod_eq_of_lt h]
      have h' : (n : Int) < 10 := by omega
      simp -implicitDefEqProofs [Tryz.f110, List.lookup_cons, eS, h, h', hw, eConv, eBuildSlice, srcRows, srcOk, chunk, bys, hd]
      refine fin_pure (by simp) ?_
      simp -implicitDefEqProofs [fS, rn0, pickObs, deI]
    · obtain ⟨m, hm⟩ : ∃ m, n % 10 = m := ⟨_, rfl⟩
      have hw1 : IntKind.i64.wrap (48 + (n : Int).tmod 10) = 48 + (m : Int) := by
        have : (n : Int).tmod 10 = (m : Int) := by rw [← hm]; exact (Int.ofNat_tmod n 10).symm
        rw [this, w64 (by omega) (by omega)]
      have hw2 : IntKind.i64.wrap ((n : Int) / 10) = ((n / 10 : Nat) : Int) := by rw [w64 (by omega) (by omega)]; omega
      have hd : mkS [IntKind.u8.wrap (48 + (m : Int))] = dig n := by rw [dig, hm]
      have hD := decB_ge h
      have hds := dig_size n
      have hsz := decB_size (n / 10) (by omega)
      have hsz2 : (decB (n / 10)).size + 1 ≤ 9223372036854775807 := by omega
      have h' : ¬ (n : Int) < 10 := by omega
      have hlt : n / 10 < k := by omega
      have hq0 : (0 : Int) ≤ (n : Int) / 10 := by omega
      have hq1 : (n : Int) / 10 ≤ 9223372036854775807 := by omega
      have hqt : ((n : Int) / 10).toNat = n / 10 := by omega
      simp -implicitDefEqProofs [Tryz.f110, List.lookup_cons, eS, h, h', hw1, hw2, FNn, F110, hlt, eConv, eBuildSlice, srcRows, srcOk, chunk, bys, splice, hd, hds, hsz2]
      refine drawP_all _ (by decide) ?_
      simp -implicitDefEqProofs [Tryz.f110, List.lookup_cons, eS, h, h', hw1, hw2, FNn, F110, hlt, eConv, eBuildSlice, srcRows, srcOk, chunk, bys, splice, hd, hds, hsz2, eBSD, hq0, hq1, hqt]
      refine ⟨rfl, ?_⟩
      rw [← hD]
      refine fin_pure (by simp) ?_
      simp -implicitDefEqProofs [fS, rn0, pickObs, deI]
theorem c110 : GenCA K Tryz.prog 110 F110 := genWeakT (cNum 9223372036854775808) (fun xs h => ⟨h, by
    obtain ⟨n, rfl, h0, h1⟩ := F110_in h
    simp
    omega⟩) fun _ _ => rfl
end Go.Proofs
namespace Go.Proofs
open Go.Abs
def numB (n : Nat) : ByteArray := if 0 < n ∧ n % 1000000 = 0 then decB (n / 1000000) ++ ⟨#[109]⟩ else if 0 < n ∧ n % 1000 = 0 then decB (n / 1000) ++ ⟨#[107]⟩ else decB n
theorem numB_size (n : Nat) (h : n ≤ 1000000000) : (numB n).size ≤ 20 := by
  have e1 : (ByteArray.mk #[109]).size = 1 := rfl
  have e2 : (ByteArray.mk #[107]).size = 1 := rfl
  unfold numB
  split
  · rw [ByteArray.size_append, e1]; have := decB_size (n / 1000000) (by omega); omega
  · split
    · rw [ByteArray.size_append, e2]; have := decB_size (n / 1000) (by omega); omega
    · have := decB_size n (by omega); omega
theorem mod_at (n d : Nat) : (n : Int).tmod (d : Int) = ((n % d : Nat) : Int) := (Int.ofNat_tmod n d).symm
def F43 : Fun := ⟨fun xs => xs = [I (deI (xs.getD 0 .top) : Int)] ∧ (fun (n : Int) => (0 ≤ n ∧ n ≤ 1000000000)) (deI (xs.getD 0 .top) : Int), fun xs => (fun (n : Int) => ((.v (.string (numB n.toNat)), []) : X × List Ob)) (deI (xs.getD 0 .top) : Int)⟩
theorem F43_in {xs : List X} (h : F43.pre xs) : ∃ (n : Int), xs = [I n] ∧ (0 ≤ n ∧ n ≤ 1000000000) := ⟨_, h.1, h.2⟩
theorem F43_res (n : Int) : F43.res [I n] = (.v (.string (numB n.toNat)), []) := by simp [F43]
theorem F43_mk (n : Int) (h : 0 ≤ n ∧ n ≤ 1000000000) : F43.pre [I n] := by simpa [F43] using h
theorem c43 : GenCA K Tryz.prog 43 F43 := by
  refine contractA Tryz.mix K [(76, F76)] [] (by simp [c76]) (by simp) Tryz.func43 rfl (by decide) ?_
  intro xs hxs
  obtain ⟨n, rfl, hp⟩ := F43_in hxs
  rw [F43_res]
  refine ⟨by rw [Tryz.ntmps43]; simp, ?_⟩
  obtain ⟨h0, h1⟩ := hp
  obtain ⟨n, rfl⟩ := Int.eq_ofNat_of_zero_le h0
  have e1 : (ByteArray.mk #[109]).size = 1 := rfl
  have e2 : (ByteArray.mk #[107]).size = 1 := rfl
  obtain ⟨m6, hm6⟩ : ∃ m, n % 1000000 = m := ⟨_, rfl⟩
  obtain ⟨m3, hm3⟩ : ∃ m, n % 1000 = m := ⟨_, rfl⟩
  have t6 : (n : Int).tmod 1000000 = (m6 : Int) := by rw [← hm6]; exact mod_at n 1000000
  have t3 : (n : Int).tmod 1000 = (m3 : Int) := by rw [← hm3]; exact mod_at n 1000
  have w6 : IntKind.i64.wrap ((n : Int) / 1000000) = (n : Int) / 1000000 := w64 (by omega) (by omega)
  have w3 : IntKind.i64.wrap ((n : Int) / 1000) = (n : Int) / 1000 := w64 (by omega) (by omega)
  have a6 : (0 : Int) ≤ (n : Int) / 1000000 := by omega
  have a3 : (0 : Int) ≤ (n : Int) / 1000 := by omega
  have b6 : (n : Int) / 1000000 ≤ 9223372036854775807 := by omega
  have b3 : (n : Int) / 1000 ≤ 9223372036854775807 := by omega
  have b0 : (n : Int) ≤ 9223372036854775807 := by omega
  have c6 : ((n : Int) / 1000000).toNat = n / 1000000 := by omega
  have c3 : ((n : Int) / 1000).toNat = n / 1000 := by omega
  have z6 := decB_size (n / 1000000) (by omega)
  have z3 := decB_size (n / 1000) (by omega)
  have y6 : (decB (n / 1000000)).size + 1 ≤ 9223372036854775807 := by omega
  have y3 : (decB (n / 1000)).size + 1 ≤ 9223372036854775807 := by omega
  by_cases hn : 0 < n
  · by_cases h6 : m6 = 0
    · have hR : numB n = decB (n / 1000000) ++ ⟨#[109]⟩ := by unfold numB; rw [if_pos ⟨hn, by omega⟩]
      simp -implicitDefEqProofs [Tryz.f43, F76, List.lookup_cons, eS, hn, t6, h6, w6, a6, b6, c6, y6, e1]
      refine fin_pure (by simp) ?_
      simp -implicitDefEqProofs [fS, rn0, pickObs, deI, hR]
    · by_cases h3 : m3 = 0
      · have hR : numB n = decB (n / 1000) ++ ⟨#[107]⟩ := by unfold numB; rw [if_neg (by omega), if_pos ⟨hn, by omega⟩]
        simp -implicitDefEqProofs [Tryz.f43, F76, List.lookup_cons, eS, hn, t6, h6, t3, h3, w3, a3, b3, c3, y3, e2]
        refine fin_pure (by simp) ?_
        simp -implicitDefEqProofs [fS, rn0, pickObs, deI, hR]
      · have hR : numB n = decB n := by unfold numB; rw [if_neg (by omega), if_neg (by omega)]
        simp -implicitDefEqProofs [Tryz.f43, F76, List.lookup_cons, eS, hn, t6, h6, t3, h3, b0]
        refine fin_pure (by simp) ?_
        simp -implicitDefEqProofs [fS, rn0, pickObs, deI, hR]
  · have hR : numB n = decB n := by unfold numB; rw [if_neg (by omega), if_neg (by omega)]
    simp -implicitDefEqProofs [Tryz.f43, F76, List.lookup_cons, eS, hn, b0]
    refine fin_pure (by simp) ?_
    simp -implicitDefEqProofs [fS, rn0, pickObs, deI, hR]
def F79 : Fun := ⟨fun xs => xs = [.sl (iR (deIs (xs.getD 0 .top) : List Int))] ∧ (fun (l : List Int) => (l.length ≤ 1048576 ∧ ∀ n ∈ l, 0 ≤ n ∧ n ≤ 1000000000)) (deIs (xs.getD 0 .top) : List Int), fun xs => (fun (l : List Int) => ((.osl 0 0, [⟨9, 1, 0, sR (l.map fun n => numB n.toNat), false, true, none⟩]) : X × List Ob)) (deIs (xs.getD 0 .top) : List Int)⟩
theorem F79_in {xs : List X} (h : F79.pre xs) : ∃ (l : List Int), xs = [.sl (iR l)] ∧ (l.length ≤ 1048576 ∧ ∀ n ∈ l, 0 ≤ n ∧ n ≤ 1000000000) := ⟨_, h.1, h.2⟩
theorem F79_res (l : List Int) : F79.res [.sl (iR l)] = (.osl 0 0, [⟨9, 1, 0, sR (l.map fun n => numB n.toNat), false, true, none⟩]) := by simp [F79]
theorem F79_mk (l : List Int) (h : l.length ≤ 1048576 ∧ ∀ n ∈ l, 0 ≤ n ∧ n ≤ 1000000000) : F79.pre [.sl (iR l)] := by simpa [F79] using h
theorem c79 : GenCA K Tryz.prog 79 F79 := by
  refine contractA Tryz.mix K [(43, F43)] [] (by simp [c43]) (by simp) Tryz.func79 rfl (by decide) ?_
  intro xs hxs
  obtain ⟨l, rfl, hp⟩ := F79_in hxs
  rw [F79_res]
  refine ⟨by rw [Tryz.ntmps79]; simp, ?_⟩
  obtain ⟨hl, hr⟩ := hp
  simp -implicitDefEqProofs [Tryz.f79, List.lookup_cons, eS, eBuildSlice, srcRows, srcOk, chunk]
  refine loopP_inv (fun k : Nat => ⟨20, tl [(3, .osl 0 0), (7, .sl (iR l)), (8, I l.length), (9, I k)], [⟨9, 1, 0, sR ((l.map fun n => numB n.toNat).take k), false, true, none⟩]⟩) (fun k => k ≤ l.length) (fun k => l.length - k) 0 (Nat.zero_le _) (Wk.tl (by simp [hold, upd, tl_cons])) ?_
  intro k hk
  by_cases h : k < l.length
  · have hw1 := w64n (show k < 4611686018427387904 by omega)
    have hrk := hr l[k] (List.getElem_mem h)
    have hT : (l.map fun n => numB n.toNat).take (k + 1) = (l.map fun n => numB n.toNat).take k ++ [numB l[k].toNat] := by rw [takeS _ k (by simpa using h)]; simp
    simp -implicitDefEqProofs [List.lookup_cons, eS, h, F43, hrk, eAppend, eBuildSlice, srcRows, srcOk, chunk]
    refine ⟨by omega, by omega, k + 1, by omega, by omega, ?_⟩
    rw [show sR ((l.map fun n => numB n.toNat).take k) ++ [[.v (.string (numB l[k].toNat))]] = sR ((l.map fun n => numB n.toNat).take (k + 1)) by rw [hT]; simp [sR]]
    refine Wk.tlP [0] (by simp [pickOk, -List.all_eq_true, sR_ok, ok0]) ?_ ?_
    · simp [pickObs]
    · simp [hold, upd, tl_cons, rn1, rn0, hw1]
  · have e : k = l.length := by omega
    subst e
    rw [show (l.map fun n => numB n.toNat).take l.length = l.map fun n => numB n.toNat from List.take_of_length_le (by simp)]
    simp -implicitDefEqProofs [List.lookup_cons, eS]
    refine fin_own [0] (by simp [pickOk, -List.all_eq_true, sR_ok]) ?_
    simp -implicitDefEqProofs [fS, rn0, pickObs, deI]
/-! ### the reference's -/
def unitsB : List ByteArray := [⟨#[109]⟩, ⟨#[107]⟩, ⟨#[]⟩]
def F108 : Fun := ⟨fun xs => xs = [] ∧ ((True)), fun xs => (((.osl 0 0, [⟨9, 1, 0, sR unitsB, false, true, none⟩]) : X × List Ob))⟩
theorem F108_in {xs : List X} (h : F108.pre xs) : xs = [] ∧ (True) := h
theorem F108_res  : F108.res [] = (.osl 0 0, [⟨9, 1, 0, sR unitsB, false, true, none⟩]) := by simp [F108]
theorem F108_mk  (h : True) : F108.pre [] := by simpa [F108] using h
theorem c108 : GenCA K Tryz.prog 108 F108 := by
  refine contractA Tryz.mix K [] [] (by simp) (by simp) Tryz.func108 rfl (by decide) ?_
  intro xs hxs
  obtain ⟨rfl, hp⟩ := F108_in hxs
  rw [F108_res]
  refine ⟨by rw [Tryz.ntmps108]; simp, ?_⟩
  simp -implicitDefEqProofs [Tryz.f108, List.lookup_cons, eS, eBuildSlice, srcRows, srcOk, chunk, show List.range 3 = [0, 1, 2] from rfl]
  refine fin_own [0] (by simp [pickOk, ok0]) ?_
  simp -implicitDefEqProofs [fS, rn0, pickObs, deI, sR, unitsB]
def sizeOfUnit (k : Int) : Int := if k = 0 then 1000000 else if k = 1 then 1000 else 1
def F109 : Fun := ⟨fun xs => xs = [I (deI (xs.getD 0 .top) : Int)] ∧ (fun (k : Int) => (0 ≤ k ∧ k ≤ 2)) (deI (xs.getD 0 .top) : Int), fun xs => (fun (k : Int) => ((I (sizeOfUnit k), []) : X × List Ob)) (deI (xs.getD 0 .top) : Int)⟩
theorem F109_in {xs : List X} (h : F109.pre xs) : ∃ (k : Int), xs = [I k] ∧ (0 ≤ k ∧ k ≤ 2) := ⟨_, h.1, h.2⟩
theorem F109_res (k : Int) : F109.res [I k] = (I (sizeOfUnit k), []) := by simp [F109]
theorem F109_mk (k : Int) (h : 0 ≤ k ∧ k ≤ 2) : F109.pre [I k] := by simpa [F109] using h
theorem c109 : GenCA K Tryz.prog 109 F109 := by
  refine contractA Tryz.mix K [] [] (by simp) (by simp) Tryz.func109 rfl (by decide) ?_
  intro xs hxs
  obtain ⟨k, rfl, hp⟩ := F109_in hxs
  rw [F109_res]
  refine ⟨by rw [Tryz.ntmps109]; simp, ?_⟩
  obtain ⟨h0, h1⟩ := hp
  obtain rfl | rfl | rfl : k = 0 ∨ k = 1 ∨ k = 2 := by omega
  all_goals
    simp -implicitDefEqProofs [Tryz.f109, List.lookup_cons, eS, eBuildSlice, srcRows, srcOk, chunk, show List.range 3 = [0, 1, 2] from rfl]
    refine fin_pure (by simp) ?_
    simp -implicitDefEqProofs [fS, rn0, pickObs, deI, sizeOfUnit]
end Go.Proofs
namespace Go.Proofs
open Go.Abs
@[simp] theorem deS_T (b : ByteArray) : deS (Sx b) = b := rfl
@[simp] theorem deS_T2 (b : ByteArray) : deS (.v (.string b)) = b := rfl
def strOb (l : List ByteArray) : Ob := ⟨9, 1, 0, sR l, false, true, none⟩
theorem sR_snoc (l : List ByteArray) (b : ByteArray) : sR l ++ [[.v (.string b)]] = sR (l ++ [b]) := by simp [sR]
theorem sR_cons' (a : ByteArray) (l : List ByteArray) : sR (a :: l) = [.v (.string a)] :: sR l := rfl
theorem sR_nil' : sR [] = [] := rfl
def f1 (n : Nat) : List ByteArray := if 0 < n ∧ n % 1000000 = 0 then [decB (n / 1000000) ++ ⟨#[109]⟩] else []
def f2 (n : Nat) : List ByteArray := f1 n ++ (if 0 < n ∧ n % 1000 = 0 then [decB (n / 1000) ++ ⟨#[107]⟩] else [])
def f3 (n : Nat) : List ByteArray := f2 n ++ [decB n]
def formsP (n k : Nat) : List ByteArray := if k = 0 then [] else if k = 1 then f1 n else if k = 2 then f2 n else f3 n
theorem f1_len (n : Nat) : (f1 n).length ≤ 1 := by unfold f1; split <;> simp
theorem f2_len (n : Nat) : (f2 n).length ≤ 2 := by
  unfold f2
  have := f1_len n
  split <;> simp <;> omega
theorem f3_head (n : Nat) : (f3 n)[0]? = some (numB n) := by
  unfold f3 f2 f1 numB
  by_cases h6 : 0 < n ∧ n % 1000000 = 0
  · simp [h6]
  · by_cases h3 : 0 < n ∧ n % 1000 = 0
    · rw [if_neg h6, if_neg h6, if_pos h3, if_pos h3]; rfl
    · rw [if_neg h6, if_neg h6, if_neg h3, if_neg h3]; rfl
def F68 : Fun := ⟨fun xs => xs = [I (deI (xs.getD 0 .top) : Int)] ∧ (fun (n : Int) => (0 ≤ n ∧ n ≤ 1000000000)) (deI (xs.getD 0 .top) : Int), fun xs => (fun (n : Int) => ((.osl 0 0, [strOb (f3 n.toNat)]) : X × List Ob)) (deI (xs.getD 0 .top) : Int)⟩
theorem F68_in {xs : List X} (h : F68.pre xs) : ∃ (n : Int), xs = [I n] ∧ (0 ≤ n ∧ n ≤ 1000000000) := ⟨_, h.1, h.2⟩
theorem F68_res (n : Int) : F68.res [I n] = (.osl 0 0, [strOb (f3 n.toNat)]) := by simp [F68]
theorem F68_mk (n : Int) (h : 0 ≤ n ∧ n ≤ 1000000000) : F68.pre [I n] := by simpa [F68] using h
theorem c68 : GenCA K Tryz.prog 68 F68 := by
  refine contractA Tryz.mix K [(108, F108), (109, F109), (110, F110)] [] (by simp [c108, c109, c110]) (by simp) Tryz.func68 rfl (by decide) ?_
  intro xs hxs
  obtain ⟨n, rfl, hp⟩ := F68_in hxs
  rw [F68_res]
  refine ⟨by rw [Tryz.ntmps68]; simp, ?_⟩
  obtain ⟨h0, h1⟩ := hp
  obtain ⟨n, rfl⟩ := Int.eq_ofNat_of_zero_le h0
  have e1 : (ByteArray.mk #[109]).size = 1 := rfl
  have e2 : (ByteArray.mk #[107]).size = 1 := rfl
  have e3 : (ByteArray.mk #[]).size = 0 := rfl
  have q1 : ((ByteArray.mk #[109]).toList == (ByteArray.mk #[]).toList) = false := by rw [ByteArray.toList_eq, ByteArray.toList_eq]; rfl
  have q2 : ((ByteArray.mk #[107]).toList == (ByteArray.mk #[]).toList) = false := by rw [ByteArray.toList_eq, ByteArray.toList_eq]; rfl
  have q3 : ((ByteArray.mk #[]).toList == (ByteArray.mk #[]).toList) = true := by rw [ByteArray.toList_eq]; rfl
  obtain ⟨m6, hm6⟩ : ∃ m, n % 1000000 = m := ⟨_, rfl⟩
  obtain ⟨m3, hm3⟩ : ∃ m, n % 1000 = m := ⟨_, rfl⟩
  have t6 : (n : Int).tmod 1000000 = (m6 : Int) := by rw [← hm6]; exact mod_at n 1000000
  have t3 : (n : Int).tmod 1000 = (m3 : Int) := by rw [← hm3]; exact mod_at n 1000
  have t1 : (n : Int).tmod 1 = 0 := Int.tmod_one _
  have w6 : IntKind.i64.wrap ((n : Int) / 1000000) = (n : Int) / 1000000 := w64 (by omega) (by omega)
  have w3 : IntKind.i64.wrap ((n : Int) / 1000) = (n : Int) / 1000 := w64 (by omega) (by omega)
  have w1 : IntKind.i64.wrap (n : Int) = (n : Int) := w64 (by omega) (by omega)
  have a6 : (0 : Int) ≤ (n : Int) / 1000000 := by omega
  have a3 : (0 : Int) ≤ (n : Int) / 1000 := by omega
  have b6 : (n : Int) / 1000000 ≤ 9223372036854775807 := by omega
  have b3 : (n : Int) / 1000 ≤ 9223372036854775807 := by omega
  have b0 : (n : Int) ≤ 9223372036854775807 := by omega
  have c6 : ((n : Int) / 1000000).toNat = n / 1000000 := by omega
  have c3 : ((n : Int) / 1000).toNat = n / 1000 := by omega
  have z6 := decB_size (n / 1000000) (by omega)
  have z3 := decB_size (n / 1000) (by omega)
  have z0 := decB_size n (by omega)
  have y6 : (decB (n / 1000000)).size + 1 ≤ 9223372036854775807 := by omega
  have y3 : (decB (n / 1000)).size + 1 ≤ 9223372036854775807 := by omega
  have y0 : (decB n).size ≤ 9223372036854775807 := by omega
  have d0 : decB n ++ ByteArray.mk #[] = decB n := by apply ba_ext; rw [ByteArray.data_append]; simp
  have x1 : IntKind.i64.wrap 1 = 1 := rfl
  have x2 : IntKind.i64.wrap 2 = 2 := rfl
  have x3 : IntKind.i64.wrap 3 = 3 := rfl
  simp -implicitDefEqProofs [Tryz.f68, List.lookup_cons, eS, F108]
  refine loopP_inv (fun k : Nat => ⟨38, tl [(0, I n), (3, .osl 1 0), (6, .osl 0 0), (7, I 3), (8, I k)], [strOb unitsB, strOb (formsP n k)]⟩) (fun k => k ≤ 3) (fun k => 3 - k) 0 (Nat.zero_le _) (Wk.tlN (h := [strOb unitsB]) 9 1 3 (by simp [upd]) (by simp [hold, upd, tl_cons, show unitsB.length = 3 from rfl])) ?_
  intro k hk
  by_cases h : k < 3
  · obtain rfl | rfl | rfl : k = 0 ∨ k = 1 ∨ k = 2 := by omega
    · by_cases hn : 0 < n
      · by_cases h6 : m6 = 0
        · skip
          have hN : sR (formsP n 0) ++ [[.v (.string (decB (n / 1000000) ++ ⟨#[109]⟩))]] = sR (formsP n 1) := by rw [sR_snoc]; simp [formsP, f1, hn, hm6, h6]
          have hl : (formsP n 0).length ≤ 3 := by simp [formsP]
          simp -implicitDefEqProofs [List.lookup_cons, eS, strOb, unitsB, sR_cons', sR_nil', hn, h6, F109, F110, sizeOfUnit, t6, t3, t1, w6, w3, w1, a6, a3, b6, b3, b0, c6, c3, y6, y3, y0, e1, e2, e3, q1, q2, q3, d0, eAppend, eBuildSlice, srcRows, srcOk, chunk]
          refine ⟨by omega, by omega, 1, by omega, by omega, ?_⟩
          rw [hN]
          refine Wk.tlP [0, 1] (by simp [pickOk, -List.all_eq_true, sR_ok, ok0, sR_cons', sR_nil']) ?_ ?_
          · simp [pickObs]
          · simp [hold, upd, tl_cons, rn1, rn0, x1, x2, x3]
            exact ⟨rfl, rfl⟩
        · skip
          have hN : formsP n 0 = formsP n 1 := by simp [formsP, f1, hn, hm6, h6]
          simp -implicitDefEqProofs [List.lookup_cons, eS, strOb, unitsB, sR_cons', sR_nil', hn, h6, F109, F110, sizeOfUnit, t6, t3, t1, w6, w3, w1, a6, a3, b6, b3, b0, c6, c3, y6, y3, y0, e1, e2, e3, q1, q2, q3, d0, eAppend, eBuildSlice, srcRows, srcOk, chunk]
          refine ⟨1, by omega, by omega, ?_⟩
          rw [hN]
          exact Wk.tlD (m := 2) rfl (by simp [hold, upd, tl_cons, x1, x2, x3]) (by simp [okL_cons, okL_nil, ok1, ok0]) (by rw [okH_cons]; exact ⟨by simp [ok0], okH_sR _ _ _ _ _ _ _ _ _ (by simp [okH_nil])⟩)
      · skip
        have hN : formsP n 0 = formsP n 1 := by simp [formsP, f1, hn]
        simp -implicitDefEqProofs [List.lookup_cons, eS, strOb, unitsB, sR_cons', sR_nil', hn, F109, F110, sizeOfUnit, t6, t3, t1, w6, w3, w1, a6, a3, b6, b3, b0, c6, c3, y6, y3, y0, e1, e2, e3, q1, q2, q3, d0, eAppend, eBuildSlice, srcRows, srcOk, chunk]
        refine ⟨1, by omega, by omega, ?_⟩
        rw [hN]
        exact Wk.tlD (m := 2) rfl (by simp [hold, upd, tl_cons, x1, x2, x3]) (by simp [okL_cons, okL_nil, ok1, ok0]) (by rw [okH_cons]; exact ⟨by simp [ok0], okH_sR _ _ _ _ _ _ _ _ _ (by simp [okH_nil])⟩)
    · by_cases hn : 0 < n
      · by_cases h3 : m3 = 0
        · skip
          have hN : sR (formsP n 1) ++ [[.v (.string (decB (n / 1000) ++ ⟨#[107]⟩))]] = sR (formsP n 2) := by rw [sR_snoc]; simp [formsP, f2, hn, hm3, h3]
          have hl : (formsP n 1).length ≤ 3 := by have := f1_len n; simp [formsP]; omega
          simp -implicitDefEqProofs [List.lookup_cons, eS, strOb, unitsB, sR_cons', sR_nil', hn, h3, F109, F110, sizeOfUnit, t6, t3, t1, w6, w3, w1, a6, a3, b6, b3, b0, c6, c3, y6, y3, y0, e1, e2, e3, q1, q2, q3, d0, eAppend, eBuildSlice, srcRows, srcOk, chunk]
          refine ⟨by omega, by omega, 2, by omega, by omega, ?_⟩
          rw [hN]
          refine Wk.tlP [0, 1] (by simp [pickOk, -List.all_eq_true, sR_ok, ok0, sR_cons', sR_nil']) ?_ ?_
          · simp [pickObs]
          · simp [hold, upd, tl_cons, rn1, rn0, x1, x2, x3]
            exact ⟨rfl, rfl⟩
        · skip
          have hN : formsP n 1 = formsP n 2 := by simp [formsP, f2, hn, hm3, h3]
          simp -implicitDefEqProofs [List.lookup_cons, eS, strOb, unitsB, sR_cons', sR_nil', hn, h3, F109, F110, sizeOfUnit, t6, t3, t1, w6, w3, w1, a6, a3, b6, b3, b0, c6, c3, y6, y3, y0, e1, e2, e3, q1, q2, q3, d0, eAppend, eBuildSlice, srcRows, srcOk, chunk]
          refine ⟨2, by omega, by omega, ?_⟩
          rw [hN]
          exact Wk.tlD (m := 2) rfl (by simp [hold, upd, tl_cons, x1, x2, x3]) (by simp [okL_cons, okL_nil, ok1, ok0]) (by rw [okH_cons]; exact ⟨by simp [ok0], okH_sR _ _ _ _ _ _ _ _ _ (by simp [okH_nil])⟩)
      · skip
        have hN : formsP n 1 = formsP n 2 := by simp [formsP, f2, hn]
        simp -implicitDefEqProofs [List.lookup_cons, eS, strOb, unitsB, sR_cons', sR_nil', hn, F109, F110, sizeOfUnit, t6, t3, t1, w6, w3, w1, a6, a3, b6, b3, b0, c6, c3, y6, y3, y0, e1, e2, e3, q1, q2, q3, d0, eAppend, eBuildSlice, srcRows, srcOk, chunk]
        refine ⟨2, by omega, by omega, ?_⟩
        rw [hN]
        exact Wk.tlD (m := 2) rfl (by simp [hold, upd, tl_cons, x1, x2, x3]) (by simp [okL_cons, okL_nil, ok1, ok0]) (by rw [okH_cons]; exact ⟨by simp [ok0], okH_sR _ _ _ _ _ _ _ _ _ (by simp [okH_nil])⟩)
    · skip
      have hN : sR (formsP n 2) ++ [[.v (.string (decB n))]] = sR (formsP n 3) := by rw [sR_snoc]; simp [formsP, f3]
      have hl : (formsP n 2).length ≤ 3 := by have := f2_len n; simp [formsP]; omega
      simp -implicitDefEqProofs [List.lookup_cons, eS, strOb, unitsB, sR_cons', sR_nil', w1, F109, F110, sizeOfUnit, t6, t3, t1, w6, w3, w1, a6, a3, b6, b3, b0, c6, c3, y6, y3, y0, e1, e2, e3, q1, q2, q3, d0, eAppend, eBuildSlice, srcRows, srcOk, chunk]
      refine ⟨by omega, by omega, 3, by omega, by omega, ?_⟩
      rw [hN]
      refine Wk.tlP [0, 1] (by simp [pickOk, -List.all_eq_true, sR_ok, ok0, sR_cons', sR_nil']) ?_ ?_
      · simp [pickObs]
      · simp [hold, upd, tl_cons, rn1, rn0, x1, x2, x3]
        exact ⟨rfl, rfl⟩
  · have e : k = 3 := by omega
    subst e
    simp -implicitDefEqProofs [List.lookup_cons, eS, strOb]
    refine fin_own [1] (by simp [pickOk, -List.all_eq_true, sR_ok]) ?_
    simp -implicitDefEqProofs [fS, rn0, pickObs, deI, strOb, formsP]
def F39 : Fun := ⟨fun xs => xs = [I (deI (xs.getD 0 .top) : Int)] ∧ (fun (n : Int) => (0 ≤ n ∧ n ≤ 1000000000)) (deI (xs.getD 0 .top) : Int), fun xs => (fun (n : Int) => ((.v (.string (numB n.toNat)), []) : X × List Ob)) (deI (xs.getD 0 .top) : Int)⟩
theorem F39_in {xs : List X} (h : F39.pre xs) : ∃ (n : Int), xs = [I n] ∧ (0 ≤ n ∧ n ≤ 1000000000) := ⟨_, h.1, h.2⟩
theorem F39_res (n : Int) : F39.res [I n] = (.v (.string (numB n.toNat)), []) := by simp [F39]
theorem F39_mk (n : Int) (h : 0 ≤ n ∧ n ≤ 1000000000) : F39.pre [I n] := by simpa [F39] using h
theorem c39 : GenCA K Tryz.prog 39 F39 := by
  refine contractA Tryz.mix K [(68, F68)] [] (by simp [c68]) (by simp) Tryz.func39 rfl (by decide) ?_
  intro xs hxs
  obtain ⟨n, rfl, hp⟩ := F39_in hxs
  rw [F39_res]
  refine ⟨by rw [Tryz.ntmps39]; simp, ?_⟩
  obtain ⟨h0, h1⟩ := hp
  obtain ⟨n, rfl⟩ := Int.eq_ofNat_of_zero_le h0
  have hh := f3_head n
  have hl : 0 < (f3 n).length := by
    rcases Nat.eq_zero_or_pos (f3 n).length with h | h
    · rw [List.getElem?_eq_none (by omega)] at hh; cases hh
    · exact h
  have hg : (f3 n)[0] = numB n := by
    rw [List.getElem?_eq_getElem hl] at hh
    exact Option.some.inj hh
  simp -implicitDefEqProofs [Tryz.f39, F68, List.lookup_cons, eS, h1, strOb, hl, hg]
  refine fin_pure (by simp) ?_
  simp -implicitDefEqProofs [fS, rn0, pickObs, deI]
/-! ### strings.Join -/
def F114 : Fun := ⟨fun xs => xs = [.sl (sR (deSs (xs.getD 0 .top) : List ByteArray)), Sx (deS (xs.getD 1 .top) : ByteArray)] ∧ (fun (l : List ByteArray) (sep : ByteArray) => (l.length ≤ 1048576 ∧ (joinB l sep).size ≤ 140737488355328)) (deSs (xs.getD 0 .top) : List ByteArray) (deS (xs.getD 1 .top) : ByteArray), fun xs => (fun (l : List ByteArray) (sep : ByteArray) => ((.v (.string (joinB l sep)), []) : X × List Ob)) (deSs (xs.getD 0 .top) : List ByteArray) (deS (xs.getD 1 .top) : ByteArray)⟩
theorem F114_in {xs : List X} (h : F114.pre xs) : ∃ (l : List ByteArray) (sep : ByteArray), xs = [.sl (sR l), Sx sep] ∧ (l.length ≤ 1048576 ∧ (joinB l sep).size ≤ 140737488355328) := ⟨_, _, h.1, h.2⟩
theorem F114_res (l : List ByteArray) (sep : ByteArray) : F114.res [.sl (sR l), Sx sep] = (.v (.string (joinB l sep)), []) := by simp [F114]
theorem F114_mk (l : List ByteArray) (sep : ByteArray) (h : l.length ≤ 1048576 ∧ (joinB l sep).size ≤ 140737488355328) : F114.pre [.sl (sR l), Sx sep] := by simpa [F114] using h
theorem c114 : GenCA K Tryz.prog 114 F114 := by
  refine genStr (callFunc_enter Tryz.func114 rfl rfl) fun w S vs xs hpre hl hr hS hA => ?_
  obtain ⟨l, sep, rfl, h1, h2⟩ := F114_in hpre
  obtain ⟨v, s, rfl⟩ : ∃ v s, vs = #[v, s] := by
    obtain ⟨q⟩ := vs
    match q, hl with
    | [v, s], _ => exact ⟨v, s, rfl⟩
  have hs := (hr 1 (Sx sep) s rfl rfl).inv_v.1
  subst hs
  refine ⟨joinB l sep, F114_res l sep, ?_⟩
  have h2' : (Lib.join (l.map (·.data.toList)) sep.data.toList).length ≤ 140737488355328 := by simpa [joinB, ByteArray.size] using h2
  rcases (hr 0 (.sl (sR l)) v rfl rfl).inv_sl with ⟨h0, a, cp, rfl⟩ | ⟨ad, cp, sz, cs, rfl, hcp, hsb, hz, hcell, _, hrr⟩
  · have : l = [] := by simpa [sR] using h0
    subst this
    refine (Any.strings_Join_none Tryz.laysJoin Tryz.joinExtra a cp sep w).mono ?_
    rintro e w' ⟨rfl, rfl⟩
    exact ⟨rfl, Go.RowKit.Below.refl _ _⟩
  · by_cases hnil : l = []
    · subst hnil
      refine (Any.strings_Join_none Tryz.laysJoin Tryz.joinExtra (some ad) cp sep w).mono ?_
      rintro e w' ⟨rfl, rfl⟩
      exact ⟨rfl, Go.RowKit.Below.refl _ _⟩
    · have hpos : 0 < l.length := by cases l with
        | nil => exact absurd rfl hnil
        | cons a l => simp
      have hlen : (sR l).length = l.length := sR_length l
      have hsz : sz = 1 := by
        have := hz [.v (.string l[0])] (List.mem_of_getElem? (i := 0) (by rw [sR_get, List.getElem?_eq_getElem hpos]; rfl))
        simpa using this.symm
      subst hsz
      obtain ⟨b, o, sp⟩ := ad
      have hc0 := hcell 0 0 (by omega) (by omega)
      cases sp with
      | some p => simp [World.cell?, Addr.add] at hc0; split at hc0 <;> simp at hc0
      | none =>
        have hcells : ∀ (j : Nat) x, l[j]? = some x → w.cell? ⟨b, o + j, none⟩ = some (.string x) := by
          intro j x hx
          have hj : j < l.length := (List.getElem?_eq_some_iff.1 hx).1
          have e1 := hcell j 0 (by omega) (by omega)
          rw [add_none] at e1
          simp only [Nat.mul_one, Nat.add_zero] at e1
          rw [e1]
          have e2 := (hrr j 0 (.v (.string x)) (by simp [at2, sR_get, hx])).inv_v.1
          rw [e2]
        have hcj := Any.strings_Join Tryz.laysJoin Tryz.joinExtra b o cp l sep w hcells (hS b hsb) (by omega) (by omega) h2'
        rw [← hlen] at hcj
        exact hcj
attribute [simp] Sx
end Go.Proofs
