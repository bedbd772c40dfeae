/-
  What is proved here: the digits of a number as a text; the contract of the law's markText. Condition: none.
  What is proved here: the texts of numbers, on both sides: decimal ones, ones with a unit. Condition: none.
  What is proved here: the texts of numbers with a unit, on both sides. Condition: none.
  What is proved here: the reference's texts of numbers with a unit; strings.Join out of the shelf's contract. Condition: none.
-/
import Derived.Test.YtecpfgnkiifnpaaDoorKXYtecpfgnkiifnpaaDoorn
import Derived.Test.YtecpfgnkiifnpaaDoorAbsF
import Derived.Test.YtecpfgnkiifnpaaDoorSHYtecpfgnkiifnpaaDoor
set_option linter.unusedVariables false
set_option linter.unusedSimpArgs false
set_option linter.unnecessarySimpa false
set_option maxHeartbeats 4000000
set_option maxRecDepth 20000
namespace Go.Proofs
open Go.Abs
@[simp] theorem bsU : byteSl Tryd.prog 112 = true := by kernel_rfl
def dig (k : Nat) : ByteArray := mkS [IntKind.u8.wrap (48 + (k % 10 : Nat))]
theorem dig_size (k : Nat) : (dig k).size = 1 := by simp [dig, mkS]
def mtl (k : Nat) (o : ByteArray) : ByteArray := if _h : k = 0 then o else mtl (k / 10) (dig k ++ o)
  termination_by k
  decreasing_by omega
theorem mtl_zero (o : ByteArray) : mtl 0 o = o := by rw [mtl]; simp
theorem mtl_pos (k : Nat) (o : ByteArray) (h : 0 < k) : mtl k o = mtl (k / 10) (dig k ++ o) := by
  rw [mtl]
  rw [dif_neg (by omega)]
def mTx (k : Int) : ByteArray := if k ≤ 0 then ⟨#[109, 48]⟩ else ⟨#[109]⟩ ++ mtl k.toNat ⟨#[]⟩
end Go.Proofs
namespace Go.Proofs
open Go.Abs
theorem genWeakT {A : List (Nat × List X)} {P : Program} {f : Nat} {F F' : Fun} (h : GenCA A P f F') (hp : ∀ xs, F.pre xs → F'.pre xs) (hr : ∀ xs, F.pre xs → F'.res xs = F.res xs) : GenCA A P f F :=
  ⟨h.1, fun w S vs xs hx a b c d => by have := h.2 w S vs xs (hp _ hx) a b c d; rwa [hr _ hx] at this⟩
theorem ba_ext {a b : ByteArray} (h : a.data = b.data) : a = b := by cases a; cases b; simp at h; rw [h]
theorem dig_eq (k : Nat) : dig k = ⟨#[UInt8.ofNat (48 + k % 10)]⟩ := by
  have h : IntKind.u8.wrap (48 + ((k % 10 : Nat) : Int)) = ((48 + k % 10 : Nat) : Int) := by rw [IntKind.wrap_u8]; omega
  unfold dig mkS
  rw [h]
  rfl
theorem decB_lt {n : Nat} (h : n < 10) : decB n = dig n := by
  unfold decB
  rw [Lib.decDigits_one h, dig_eq, Nat.mod_eq_of_lt h]
theorem decB_ge {n : Nat} (h : ¬ n < 10) : decB n = decB (n / 10) ++ dig n := by
  rw [dig_eq]
  apply ba_ext
  rw [ByteArray.data_append]
  unfold decB
  rw [Lib.decDigits, dif_neg h]
  simp
theorem nDig_le : ∀ (k u : Nat), u < 10 ^ (k + 1) → Lib.nDigits u ≤ k + 1
  | 0, u, h => Nat.le_of_eq (Lib.nDigits_small (by simpa using h))
  | k + 1, u, h => by
    by_cases hu : u < 10
    · rw [Lib.nDigits_small hu]; omega
    · rw [Lib.nDigits_big hu]
      have := nDig_le k (u / 10) (by rw [Nat.pow_succ] at h; omega)
      omega
theorem decB_sz (n : Nat) : (decB n).size = Lib.nDigits n := by
  rw [← Lib.decDigits_length]
  simp [decB, ByteArray.size]
theorem decB_size (n : Nat) (h : n ≤ 9223372036854775807) : (decB n).size ≤ 19 := by
  rw [decB_sz]
  exact nDig_le 18 n (by omega)
def F62 : Fun := ⟨fun xs => xs = [I (deI (xs.getD 0 .top) : Int)] ∧ (fun (n : Int) => (0 ≤ n ∧ n ≤ 9223372036854775807)) (deI (xs.getD 0 .top) : Int), fun xs => (fun (n : Int) => ((.v (.string (decB n.toNat)), []) : X × List Ob)) (deI (xs.getD 0 .top) : Int)⟩
theorem F62_in {xs : List X} (h : F62.pre xs) : ∃ (n : Int), xs = [I n] ∧ (0 ≤ n ∧ n ≤ 9223372036854775807) := ⟨_, h.1, h.2⟩
theorem F62_res (n : Int) : F62.res [I n] = (.v (.string (decB n.toNat)), []) := by simp [F62]
theorem F62_mk (n : Int) (h : 0 ≤ n ∧ n ≤ 9223372036854775807) : F62.pre [I n] := by simpa [F62] using h
theorem c62 : GenCA K Tryd.prog 62 F62 :=
  genItoa (g := 7) (callFunc_enter Tryd.func62 rfl rfl) (fun n h0 h1 w htab => Any.strconv_Itoa Tryd.laysItoa n h0 h1 w htab) (by unfold K; first | exact List.mem_singleton.2 rfl | exact List.mem_cons_of_mem _ List.mem_cons_self) (by kernel_rfl) fun xs hxs => by
    obtain ⟨n, rfl, h0, h1⟩ := F62_in hxs
    obtain ⟨n, rfl⟩ := Int.eq_ofNat_of_zero_le h0
    exact ⟨n, rfl, by omega, by rw [F62_res]; rfl⟩
/-! ### the reference's decimal text: a function that calls itself -/
def F58 : Fun := ⟨fun xs => xs = [I (deI (xs.getD 0 .top) : Int)] ∧ (fun (n : Int) => (0 ≤ n ∧ n ≤ 9223372036854775807)) (deI (xs.getD 0 .top) : Int), fun xs => (fun (n : Int) => ((.v (.string (decB n.toNat)), []) : X × List Ob)) (deI (xs.getD 0 .top) : Int)⟩
theorem F58_in {xs : List X} (h : F58.pre xs) : ∃ (n : Int), xs = [I n] ∧ (0 ≤ n ∧ n ≤ 9223372036854775807) := ⟨_, h.1, h.2⟩
theorem F58_res (n : Int) : F58.res [I n] = (.v (.string (decB n.toNat)), []) := by simp [F58]
theorem F58_mk (n : Int) (h : 0 ≤ n ∧ n ≤ 9223372036854775807) : F58.pre [I n] := by simpa [F58] using h
def FNn (k : Nat) : Fun := ⟨fun xs => F58.pre xs ∧ (deI (xs.getD 0 .top)).toNat < k, F58.res⟩
theorem cNum : ∀ k, GenCA K Tryd.prog 58 (FNn k)
  | 0 => by
    refine contractA Tryd.mix K [] [] (by simp) (by simp) Tryd.func58 rfl (by decide) ?_
    rintro xs ⟨hxs, hk⟩
    exact absurd hk (Nat.not_lt_zero _)
  | k + 1 => by
    refine contractA Tryd.mix K [(58, FNn k)] [] (by simp [cNum k]) (by simp) Tryd.func58 rfl (by decide) ?_
    rintro xs ⟨hxs, hk⟩
    obtain ⟨n, rfl, h0, h1⟩ := F58_in hxs
    obtain ⟨n, rfl⟩ := Int.eq_ofNat_of_zero_le h0
    have hres : (FNn (k + 1)).res [I (n : Int)] = (.v (.string (decB n)), []) := F58_res (n : Int)
    rw [hres]
    refine ⟨by rw [Tryd.ntmps58]; simp, ?_⟩
    simp at hk
    by_cases h : n < 10
    · have hw : IntKind.i64.wrap (48 + (n : Int)) = 48 + (n : Int) := w64 (by omega) (by omega)
      have hd : mkS [IntKind.u8.wrap (48 + (n : Int))] = decB n := by rw [decB_lt h, dig, Nat.mod_eq_of_lt h]
      have h' : (n : Int) < 10 := by omega
      simp -implicitDefEqProofs [Tryd.f58, List.lookup_cons, eS, h, h', hw, eConv, eBuildSlice, srcRows, srcOk, chunk, bys, hd]
      refine fin_pure (by simp) ?_
      simp -implicitDefEqProofs [fS, rn0, pickObs, deI]
    · obtain ⟨m, hm⟩ : ∃ m, n % 10 = m := ⟨_, rfl⟩
      have hw1 : IntKind.i64.wrap (48 + (n : Int).tmod 10) = 48 + (m : Int) := by
        have : (n : Int).tmod 10 = (m : Int) := by rw [← hm]; exact (Int.ofNat_tmod n 10).symm
        rw [this, w64 (by omega) (by omega)]
      have hw2 : IntKind.i64.wrap ((n : Int) / 10) = ((n / 10 : Nat) : Int) := by rw [w64 (by omega) (by omega)]; omega
      have hd : mkS [IntKind.u8.wrap (48 + (m : Int))] = dig n := by rw [dig, hm]
      have hD := decB_ge h
      have hds := dig_size n
      have hsz := decB_size (n / 10) (by omega)
      have hsz2 : (decB (n / 10)).size + 1 ≤ 9223372036854775807 := by omega
      have h' : ¬ (n : Int) < 10 := by omega
      have hlt : n / 10 < k := by omega
      have hq0 : (0 : Int) ≤ (n : Int) / 10 := by omega
      have hq1 : (n : Int) / 10 ≤ 9223372036854775807 := by omega
      have hqt : ((n : Int) / 10).toNat = n / 10 := by omega
      simp -implicitDefEqProofs [Tryd.f58, List.lookup_cons, eS, h, h', hw1, hw2, FNn, F58, hlt, eConv, eBuildSlice, srcRows, srcOk, chunk, bys, splice, hd, hds, hsz2]
      refine drawP_all _ (by decide) ?_
      simp -implicitDefEqProofs [Tryd.f58, List.lookup_cons, eS, h, h', hw1, hw2, FNn, F58, hlt, eConv, eBuildSlice, srcRows, srcOk, chunk, bys, splice, hd, hds, hsz2, eBSD, hq0, hq1, hqt]
      refine ⟨rfl, ?_⟩
      rw [← hD]
      refine fin_pure (by simp) ?_
      simp -implicitDefEqProofs [fS, rn0, pickObs, deI]
theorem c58 : GenCA K Tryd.prog 58 F58 := genWeakT (cNum 9223372036854775808) (fun xs h => ⟨h, by
    obtain ⟨n, rfl, h0, h1⟩ := F58_in h
    simp
    omega⟩) fun _ _ => rfl
end Go.Proofs
namespace Go.Proofs
open Go.Abs
def numB (n : Nat) : ByteArray := if 0 < n ∧ n % 1000000 = 0 then decB (n / 1000000) ++ ⟨#[109]⟩ else if 0 < n ∧ n % 1000 = 0 then decB (n / 1000) ++ ⟨#[107]⟩ else decB n
theorem numB_size (n : Nat) (h : n ≤ 1000000000) : (numB n).size ≤ 20 := by
  have e1 : (ByteArray.mk #[109]).size = 1 := rfl
  have e2 : (ByteArray.mk #[107]).size = 1 := rfl
  unfold numB
  split
  · rw [ByteArray.size_append, e1]; have := decB_size (n / 1000000) (by omega); omega
  · split
    · rw [ByteArray.size_append, e2]; have := decB_size (n / 1000) (by omega); omega
    · have := decB_size n (by omega); omega
theorem mod_at (n d : Nat) : (n : Int).tmod (d : Int) = ((n % d : Nat) : Int) := (Int.ofNat_tmod n d).symm
/-! ### the reference's -/
end Go.Proofs
namespace Go.Proofs
open Go.Abs
@[simp] theorem deS_T (b : ByteArray) : deS (Sx b) = b := rfl
@[simp] theorem deS_T2 (b : ByteArray) : deS (.v (.string b)) = b := rfl
def strOb (l : List ByteArray) : Ob := ⟨9, 1, 0, sR l, false, true, none⟩
theorem sR_snoc (l : List ByteArray) (b : ByteArray) : sR l ++ [[.v (.string b)]] = sR (l ++ [b]) := by simp [sR]
theorem sR_cons' (a : ByteArray) (l : List ByteArray) : sR (a :: l) = [.v (.string a)] :: sR l := rfl
theorem sR_nil' : sR [] = [] := rfl
/-! ### strings.Join -/
def F86 : Fun := ⟨fun xs => xs = [.sl (sR (deSs (xs.getD 0 .top) : List ByteArray)), Sx (deS (xs.getD 1 .top) : ByteArray)] ∧ (fun (l : List ByteArray) (sep : ByteArray) => (l.length ≤ 1048576 ∧ (joinB l sep).size ≤ 140737488355328)) (deSs (xs.getD 0 .top) : List ByteArray) (deS (xs.getD 1 .top) : ByteArray), fun xs => (fun (l : List ByteArray) (sep : ByteArray) => ((.v (.string (joinB l sep)), []) : X × List Ob)) (deSs (xs.getD 0 .top) : List ByteArray) (deS (xs.getD 1 .top) : ByteArray)⟩
theorem F86_in {xs : List X} (h : F86.pre xs) : ∃ (l : List ByteArray) (sep : ByteArray), xs = [.sl (sR l), Sx sep] ∧ (l.length ≤ 1048576 ∧ (joinB l sep).size ≤ 140737488355328) := ⟨_, _, h.1, h.2⟩
theorem F86_res (l : List ByteArray) (sep : ByteArray) : F86.res [.sl (sR l), Sx sep] = (.v (.string (joinB l sep)), []) := by simp [F86]
theorem F86_mk (l : List ByteArray) (sep : ByteArray) (h : l.length ≤ 1048576 ∧ (joinB l sep).size ≤ 140737488355328) : F86.pre [.sl (sR l), Sx sep] := by simpa [F86] using h
theorem c86 : GenCA K Tryd.prog 86 F86 := by
  refine genStr (callFunc_enter Tryd.func86 rfl rfl) fun w S vs xs hpre hl hr hS hA => ?_
  obtain ⟨l, sep, rfl, h1, h2⟩ := F86_in hpre
  obtain ⟨v, s, rfl⟩ : ∃ v s, vs = #[v, s] := by
    obtain ⟨q⟩ := vs
    match q, hl with
    | [v, s], _ => exact ⟨v, s, rfl⟩
  have hs := (hr 1 (Sx sep) s rfl rfl).inv_v.1
  subst hs
  refine ⟨joinB l sep, F86_res l sep, ?_⟩
  have h2' : (Lib.join (l.map (·.data.toList)) sep.data.toList).length ≤ 140737488355328 := by simpa [joinB, ByteArray.size] using h2
  rcases (hr 0 (.sl (sR l)) v rfl rfl).inv_sl with ⟨h0, a, cp, rfl⟩ | ⟨ad, cp, sz, cs, rfl, hcp, hsb, hz, hcell, _, hrr⟩
  · have : l = [] := by simpa [sR] using h0
    subst this
    refine (Any.strings_Join_none Tryd.laysJoin Tryd.joinExtra a cp sep w).mono ?_
    rintro e w' ⟨rfl, rfl⟩
    exact ⟨rfl, Go.RowKit.Below.refl _ _⟩
  · by_cases hnil : l = []
    · subst hnil
      refine (Any.strings_Join_none Tryd.laysJoin Tryd.joinExtra (some ad) cp sep w).mono ?_
      rintro e w' ⟨rfl, rfl⟩
      exact ⟨rfl, Go.RowKit.Below.refl _ _⟩
    · have hpos : 0 < l.length := by cases l with
        | nil => exact absurd rfl hnil
        | cons a l => simp
      have hlen : (sR l).length = l.length := sR_length l
      have hsz : sz = 1 := by
        have := hz [.v (.string l[0])] (List.mem_of_getElem? (i := 0) (by rw [sR_get, List.getElem?_eq_getElem hpos]; rfl))
        simpa using this.symm
      subst hsz
      obtain ⟨b, o, sp⟩ := ad
      have hc0 := hcell 0 0 (by omega) (by omega)
      cases sp with
      | some p => simp [World.cell?, Addr.add] at hc0; split at hc0 <;> simp at hc0
      | none =>
        have hcells : ∀ (j : Nat) x, l[j]? = some x → w.cell? ⟨b, o + j, none⟩ = some (.string x) := by
          intro j x hx
          have hj : j < l.length := (List.getElem?_eq_some_iff.1 hx).1
          have e1 := hcell j 0 (by omega) (by omega)
          rw [add_none] at e1
          simp only [Nat.mul_one, Nat.add_zero] at e1
          rw [e1]
          have e2 := (hrr j 0 (.v (.string x)) (by simp [at2, sR_get, hx])).inv_v.1
          rw [e2]
        have hcj := Any.strings_Join Tryd.laysJoin Tryd.joinExtra b o cp l sep w hcells (hS b hsb) (by omega) (by omega) h2'
        rw [← hlen] at hcj
        exact hcj
attribute [simp] Sx
end Go.Proofs
