/-
  What is proved here: lines of words, on both sides. Condition: none.
  What is proved here: the program's lines of words, and the reference's, as functions; that they are alike. Condition: none.
-/
import Derived.Test.YtecpfgnkiifnpaaGreatDoorTxA
import Derived.Test.YtecpfgnkiifnpaaGreatDoorA1o
import Derived.Test.YtecpfgnkiifnpaaGreatDoorS0o
set_option linter.unusedVariables false
set_option linter.unusedSimpArgs false
set_option linter.unnecessarySimpa false
set_option maxHeartbeats 8000000
set_option maxRecDepth 20000
namespace Go.Proofs
open Go.Abs
theorem tl_eq (a b : ByteArray) : (a.toList == b.toList) = decide (a = b) := by
  rw [ByteArray.toList_eq, ByteArray.toList_eq]
  by_cases h : a = b
  · subst h; simp
  · have : ¬ a.data = b.data := fun e => h (ba_ext e)
    simp [h, this]
/-! ### the numbers of a line -/
def nums (x : Cls) : List Int := [x.id, x.par, x.rate, x.ceil, x.burst, x.cburst, x.prio, x.lim]
def F72 : Fun := ⟨fun xs => xs = [I (deI (xs.getD 0 .top) : Int)] ∧ (fun (n : Int) => (True)) (deI (xs.getD 0 .top) : Int), fun xs => (fun (n : Int) => ((B (rng 0 1000000000 n), []) : X × List Ob)) (deI (xs.getD 0 .top) : Int)⟩
theorem F72_in {xs : List X} (h : F72.pre xs) : ∃ (n : Int), xs = [I n] ∧ (True) := ⟨_, h.1, h.2⟩
theorem F72_res (n : Int) : F72.res [I n] = (B (rng 0 1000000000 n), []) := by simp [F72]
theorem F72_mk (n : Int) (h : True) : F72.pre [I n] := by simpa [F72] using h
theorem c72 : GenCA K Tryz.prog 72 F72 := by
  refine contractA Tryz.mix K [] [] (by simp) (by simp) Tryz.func72 rfl (by decide) ?_
  intro xs hxs
  obtain ⟨n, rfl, hp⟩ := F72_in hxs
  rw [F72_res]
  refine ⟨by rw [Tryz.ntmps72]; simp, ?_⟩
  simp -implicitDefEqProofs [Tryz.f72, List.lookup_cons, eS]
  refine fin_pure (by simp) ?_
  simp -implicitDefEqProofs [fS, rn0, pickObs, deI, rng]
def F73 : Fun := ⟨fun xs => xs = [.sl (iR (deIs (xs.getD 0 .top) : List Int))] ∧ (fun (l : List Int) => (l.length ≤ 1048576)) (deIs (xs.getD 0 .top) : List Int), fun xs => (fun (l : List Int) => ((B (l.all (rng 0 1000000000)), []) : X × List Ob)) (deIs (xs.getD 0 .top) : List Int)⟩
theorem F73_in {xs : List X} (h : F73.pre xs) : ∃ (l : List Int), xs = [.sl (iR l)] ∧ (l.length ≤ 1048576) := ⟨_, h.1, h.2⟩
theorem F73_res (l : List Int) : F73.res [.sl (iR l)] = (B (l.all (rng 0 1000000000)), []) := by simp [F73]
theorem F73_mk (l : List Int) (h : l.length ≤ 1048576) : F73.pre [.sl (iR l)] := by simpa [F73] using h
theorem c73 : GenCA K Tryz.prog 73 F73 := by
  refine contractA Tryz.mix K [(72, F72)] [] (by simp [c72]) (by simp) Tryz.func73 rfl (by decide) ?_
  intro xs hxs
  obtain ⟨l, rfl, hp⟩ := F73_in hxs
  rw [F73_res]
  refine ⟨by rw [Tryz.ntmps73]; simp, ?_⟩
  simp -implicitDefEqProofs [Tryz.f73, List.lookup_cons, eS]
  refine loopP_inv (fun k : Nat => ⟨15, tl [(5, .sl (iR l)), (6, I l.length), (7, I k)], []⟩) (fun k => k ≤ l.length ∧ (l.take k).all (rng 0 1000000000) = true) (fun k => l.length - k) 0 (by simp) (Wk.tl (by simp [hold, upd, tl_cons])) ?_
  rintro k ⟨hk, ha⟩
  by_cases h : k < l.length
  · have hw1 := w64n (show k < 4611686018427387904 by omega)
    cases hr : rng 0 1000000000 l[k] with
    | true =>
      simp -implicitDefEqProofs [List.lookup_cons, eS, h, F72, hr]
      exact ⟨k + 1, by omega, by simpa using all_stepI l _ k h ha hr, by omega, Wk.tl (by simp [hold, upd, tl_cons, hw1])⟩
    | false =>
      have hb := all_badI l _ k h hr
      simp -implicitDefEqProofs [List.lookup_cons, eS, h, F72, hr]
      refine fin_pure (by simp) ?_
      simp -implicitDefEqProofs [fS, rn0, pickObs, deI, hb]
  · have e : k = l.length := by omega
    subst e
    rw [List.take_length] at ha
    simp -implicitDefEqProofs [List.lookup_cons, eS]
    refine fin_pure (by simp) ?_
    simp -implicitDefEqProofs [fS, rn0, pickObs, deI, ha]
def F64 : Fun := ⟨fun xs => xs = [.sl (iR (deIs (xs.getD 0 .top) : List Int))] ∧ (fun (l : List Int) => (l.length ≤ 1048576)) (deIs (xs.getD 0 .top) : List Int), fun xs => (fun (l : List Int) => ((B (l.all (rng 0 1000000000)), []) : X × List Ob)) (deIs (xs.getD 0 .top) : List Int)⟩
theorem F64_in {xs : List X} (h : F64.pre xs) : ∃ (l : List Int), xs = [.sl (iR l)] ∧ (l.length ≤ 1048576) := ⟨_, h.1, h.2⟩
theorem F64_res (l : List Int) : F64.res [.sl (iR l)] = (B (l.all (rng 0 1000000000)), []) := by simp [F64]
theorem F64_mk (l : List Int) (h : l.length ≤ 1048576) : F64.pre [.sl (iR l)] := by simpa [F64] using h
theorem c64 : GenCA K Tryz.prog 64 F64 := by
  refine contractA Tryz.mix K [(107, F107)] [] (by simp [c107]) (by simp) Tryz.func64 rfl (by decide) ?_
  intro xs hxs
  obtain ⟨l, rfl, hp⟩ := F64_in hxs
  rw [F64_res]
  refine ⟨by rw [Tryz.ntmps64]; simp, ?_⟩
  simp -implicitDefEqProofs [Tryz.f64, F107, List.lookup_cons, eS, hp]
  refine fin_pure (by simp) ?_
  simp -implicitDefEqProofs [fS, rn0, pickObs, deI]
def F74 : Fun := ⟨fun xs => xs = [.agg (rX (deA (xs.getD 0 .top) : Cls))] ∧ (fun (x : Cls) => (True)) (deA (xs.getD 0 .top) : Cls), fun xs => (fun (x : Cls) => ((.osl 0 0, [iOb (nums x)]) : X × List Ob)) (deA (xs.getD 0 .top) : Cls)⟩
theorem F74_in {xs : List X} (h : F74.pre xs) : ∃ (x : Cls), xs = [.agg (rX x)] ∧ (True) := ⟨_, h.1, h.2⟩
theorem F74_res (x : Cls) : F74.res [.agg (rX x)] = (.osl 0 0, [iOb (nums x)]) := by simp [F74]
theorem F74_mk (x : Cls) (h : True) : F74.pre [.agg (rX x)] := by simpa [F74] using h
theorem c74 : GenCA K Tryz.prog 74 F74 := by
  refine contractA Tryz.mix K [] [] (by simp) (by simp) Tryz.func74 rfl (by decide) ?_
  intro xs hxs
  obtain ⟨x, rfl, hp⟩ := F74_in hxs
  rw [F74_res]
  refine ⟨by rw [Tryz.ntmps74]; simp, ?_⟩
  simp -implicitDefEqProofs [Tryz.f74, List.lookup_cons, eS, eBuildSlice, srcRows, srcOk, chunk, show List.range 8 = [0, 1, 2, 3, 4, 5, 6, 7] from rfl]
  refine fin_own [1] (by simp [pickOk, ok0]) ?_
  simp -implicitDefEqProofs [fS, rn0, pickObs, deI, iOb, nums, iR_cons, iR_nil]
theorem c66 : GenCA K Tryz.prog 66 F74 := by
  refine contractA Tryz.mix K [] [] (by simp) (by simp) Tryz.func66 rfl (by decide) ?_
  intro xs hxs
  obtain ⟨x, rfl, hp⟩ := F74_in hxs
  rw [F74_res]
  refine ⟨by rw [Tryz.ntmps66]; simp, ?_⟩
  simp -implicitDefEqProofs [Tryz.f66, List.lookup_cons, eS, eBuildSlice, srcRows, srcOk, chunk, show List.range 8 = [0, 1, 2, 3, 4, 5, 6, 7] from rfl]
  refine fin_own [1] (by simp [pickOk, ok0]) ?_
  simp -implicitDefEqProofs [fS, rn0, pickObs, deI, iOb, nums, iR_cons, iR_nil]
def cWords : List ByteArray := [⟨#[]⟩, ⟨#[]⟩, ⟨#[114, 97, 116, 101]⟩, ⟨#[99, 101, 105, 108]⟩, ⟨#[98, 117, 114, 115, 116]⟩, ⟨#[99, 98, 117, 114, 115, 116]⟩, ⟨#[112, 114, 105, 111]⟩, ⟨#[108, 105, 109, 105, 116]⟩]
def F78 : Fun := ⟨fun xs => xs = [] ∧ ((True)), fun xs => (((.osl 0 0, [strOb cWords]) : X × List Ob))⟩
theorem F78_in {xs : List X} (h : F78.pre xs) : xs = [] ∧ (True) := h
theorem F78_res  : F78.res [] = (.osl 0 0, [strOb cWords]) := by simp [F78]
theorem F78_mk  (h : True) : F78.pre [] := by simpa [F78] using h
theorem c78 : GenCA K Tryz.prog 78 F78 := by
  refine contractA Tryz.mix K [] [] (by simp) (by simp) Tryz.func78 rfl (by decide) ?_
  intro xs hxs
  obtain ⟨rfl, hp⟩ := F78_in hxs
  rw [F78_res]
  refine ⟨by rw [Tryz.ntmps78]; simp, ?_⟩
  simp -implicitDefEqProofs [Tryz.f78, List.lookup_cons, eS, eBuildSlice, srcRows, srcOk, chunk, show List.range 8 = [0, 1, 2, 3, 4, 5, 6, 7] from rfl]
  refine fin_own [0] (by simp [pickOk, ok0]) ?_
  simp -implicitDefEqProofs [fS, rn0, pickObs, deI, strOb, sR, cWords]
end Go.Proofs
namespace Go.Proofs
open Go.Abs
def emB : ByteArray := ⟨#[]⟩
theorem tl_nil (b : ByteArray) : b.toList = [] ↔ b = emB := by
  rw [ByteArray.toList_eq]
  constructor
  · intro h
    exact ba_ext (by simpa [emB] using h)
  · rintro rfl
    rfl
def spB : ByteArray := ⟨#[32]⟩
def prtL (ws ts : List ByteArray) (k : Nat) : List ByteArray := (List.range k).flatMap fun i => (if ws.getD i emB = emB then [] else [ws.getD i emB]) ++ [ts.getD i emB]
theorem prtL_succ (ws ts : List ByteArray) (k : Nat) (h1 : k < ws.length) (h2 : k < ts.length) : prtL ws ts (k + 1) = prtL ws ts k ++ ((if ws[k] = emB then [] else [ws[k]]) ++ [ts[k]]) := by
  unfold prtL
  rw [List.range_succ, List.flatMap_append]
  simp [h1, h2]
theorem prtL_len (ws ts : List ByteArray) (k : Nat) : (prtL ws ts k).length ≤ 2 * k := by
  induction k with
  | zero => simp [prtL]
  | succ k ih =>
    unfold prtL at *
    rw [List.range_succ, List.flatMap_append, List.length_append]
    have h1 : (if ws.getD k emB = emB then [] else [ws.getD k emB]).length ≤ 1 := by split <;> simp
    simp only [List.flatMap_cons, List.flatMap_nil, List.append_nil, List.length_append, List.length_cons, List.length_nil]
    omega
def F77 : Fun := ⟨fun xs => xs = [Sx (deS (xs.getD 0 .top) : ByteArray), .sl (sR (deSs (xs.getD 1 .top) : List ByteArray)), .sl (sR (deSs (xs.getD 2 .top) : List ByteArray))] ∧ (fun (cmd : ByteArray) (ws : List ByteArray) (ts : List ByteArray) => (ws.length = ts.length ∧ ts.length ≤ 16 ∧ (joinB (cmd :: prtL ws ts ts.length) spB).size ≤ 140737488355328)) (deS (xs.getD 0 .top) : ByteArray) (deSs (xs.getD 1 .top) : List ByteArray) (deSs (xs.getD 2 .top) : List ByteArray), fun xs => (fun (cmd : ByteArray) (ws : List ByteArray) (ts : List ByteArray) => ((.v (.string (joinB (cmd :: prtL ws ts ts.length) spB)), []) : X × List Ob)) (deS (xs.getD 0 .top) : ByteArray) (deSs (xs.getD 1 .top) : List ByteArray) (deSs (xs.getD 2 .top) : List ByteArray)⟩
theorem F77_in {xs : List X} (h : F77.pre xs) : ∃ (cmd : ByteArray) (ws : List ByteArray) (ts : List ByteArray), xs = [Sx cmd, .sl (sR ws), .sl (sR ts)] ∧ (ws.length = ts.length ∧ ts.length ≤ 16 ∧ (joinB (cmd :: prtL ws ts ts.length) spB).size ≤ 140737488355328) := ⟨_, _, _, h.1, h.2⟩
theorem F77_res (cmd : ByteArray) (ws : List ByteArray) (ts : List ByteArray) : F77.res [Sx cmd, .sl (sR ws), .sl (sR ts)] = (.v (.string (joinB (cmd :: prtL ws ts ts.length) spB)), []) := by simp [F77]
theorem F77_mk (cmd : ByteArray) (ws : List ByteArray) (ts : List ByteArray) (h : ws.length = ts.length ∧ ts.length ≤ 16 ∧ (joinB (cmd :: prtL ws ts ts.length) spB).size ≤ 140737488355328) : F77.pre [Sx cmd, .sl (sR ws), .sl (sR ts)] := by simpa [F77] using h
theorem c77 : GenCA K Tryz.prog 77 F77 := by
  refine contractA Tryz.mix K [(114, F114)] [] (by simp [c114]) (by simp) Tryz.func77 rfl (by decide) ?_
  intro xs hxs
  obtain ⟨cmd, ws, ts, rfl, hp⟩ := F77_in hxs
  rw [F77_res]
  refine ⟨by rw [Tryz.ntmps77]; simp, ?_⟩
  obtain ⟨hl, h16, hj⟩ := hp
  simp -implicitDefEqProofs [Tryz.f77, List.lookup_cons, eS, eBuildSlice, srcRows, srcOk, chunk]
  refine loopP_inv (fun k : Nat => ⟨38, tl [(1, .sl (sR ws)), (7, .osl 0 0), (12, .sl (sR ts)), (13, I ts.length), (14, I k)], [strOb (cmd :: prtL ws ts k)]⟩) (fun k => k ≤ ts.length) (fun k => ts.length - k) 0 (Nat.zero_le _) ?_ ?_
  · rw [show strOb (cmd :: prtL ws ts 0) = ⟨9, 1, 0, [[.v (.string cmd)]], false, true, none⟩ from rfl]
    exact Wk.tl (by simp [hold, upd, tl_cons])
  intro k hk
  by_cases h : k < ts.length
  · have hw1 := w64n (show k < 4611686018427387904 by omega)
    have hws : k < ws.length := by omega
    have hS := prtL_succ ws ts k hws h
    have hln := prtL_len ws ts k
    by_cases hq : ws[k] = emB
    · have hb : ws[k].toList = [] := (tl_nil _).2 hq
      rw [if_pos hq, List.nil_append] at hS
      simp -implicitDefEqProofs [List.lookup_cons, eS, h, hws, strOb, hb, eAppend, eBuildSlice, srcRows, srcOk, chunk]
      refine ⟨by omega, by omega, k + 1, by omega, by omega, ?_⟩
      rw [sR_snoc, show (cmd :: prtL ws ts k) ++ [ts[k]] = cmd :: prtL ws ts (k + 1) by rw [hS]; rfl]
      refine Wk.tlP [0] (by simp [pickOk, -List.all_eq_true, sR_ok, ok0]) ?_ ?_
      · simp [pickObs]
      · simp [hold, upd, tl_cons, rn1, rn0, hw1]
    · have hb : ¬ ws[k].toList = [] := fun e => hq ((tl_nil _).1 e)
      rw [if_neg hq] at hS
      simp -implicitDefEqProofs [List.lookup_cons, eS, h, hws, strOb, hb, eAppend, eBuildSlice, srcRows, srcOk, chunk]
      refine ⟨by omega, by omega, by omega, by omega, k + 1, by omega, by omega, ?_⟩
      rw [show sR (cmd :: prtL ws ts k) ++ [[.v (.string ws[k])], [.v (.string ts[k])]] = sR (cmd :: prtL ws ts (k + 1)) by rw [hS]; simp [sR]]
      refine Wk.tlP [0] (by simp [pickOk, -List.all_eq_true, sR_ok, ok0]) ?_ ?_
      · simp [pickObs]
      · simp [hold, upd, tl_cons, rn1, rn0, hw1]
  · have e : k = ts.length := by omega
    subst e
    have hln := prtL_len ws ts ts.length
    have hl2 : (cmd :: prtL ws ts ts.length).length ≤ 1048576 := by simp; omega
    have hl3 : (prtL ws ts ts.length).length ≤ 1048575 := by omega
    unfold spB at hj ⊢
    simp -implicitDefEqProofs [List.lookup_cons, eS, strOb, F114, hl3, hj]
    refine fin_pure (by simp) ?_
    simp -implicitDefEqProofs [fS, rn0, pickObs, deI]
/-! ### the reference's line -/
def nB : ByteArray := ⟨#[78]⟩
def lgL : List ByteArray → List ByteArray → ByteArray → ByteArray
  | [], _, s => s
  | w :: ws, ts, s => if w = nB then lgL ws ts.tail (s ++ (spB ++ ts.headD emB)) else lgL ws ts (s ++ (spB ++ w))
def classB : ByteArray := ⟨#[99, 108, 97, 115, 115]⟩
def filterB : ByteArray := ⟨#[102, 105, 108, 116, 101, 114]⟩
def cWs : List ByteArray := [nB, nB, ⟨#[114, 97, 116, 101]⟩, nB, ⟨#[99, 101, 105, 108]⟩, nB, ⟨#[98, 117, 114, 115, 116]⟩, nB, ⟨#[99, 98, 117, 114, 115, 116]⟩, nB, ⟨#[112, 114, 105, 111]⟩, nB, ⟨#[108, 105, 109, 105, 116]⟩, nB]
def fWs : List ByteArray := [nB, ⟨#[102, 105, 101, 108, 100]⟩, nB, ⟨#[109, 97, 115, 107]⟩, nB, ⟨#[118, 97, 108, 117, 101]⟩, nB, ⟨#[116, 111]⟩, nB]
def lgW (cmd : ByteArray) : List ByteArray := if cmd = classB then cWs else fWs
def F82 : Fun := ⟨fun xs => xs = [Sx (deS (xs.getD 0 .top) : ByteArray)] ∧ (fun (cmd : ByteArray) => (cmd = classB ∨ cmd = filterB)) (deS (xs.getD 0 .top) : ByteArray), fun xs => (fun (cmd : ByteArray) => ((.osl 0 0, [strOb (lgW cmd)]) : X × List Ob)) (deS (xs.getD 0 .top) : ByteArray)⟩
theorem F82_in {xs : List X} (h : F82.pre xs) : ∃ (cmd : ByteArray), xs = [Sx cmd] ∧ (cmd = classB ∨ cmd = filterB) := ⟨_, h.1, h.2⟩
theorem F82_res (cmd : ByteArray) : F82.res [Sx cmd] = (.osl 0 0, [strOb (lgW cmd)]) := by simp [F82]
theorem F82_mk (cmd : ByteArray) (h : cmd = classB ∨ cmd = filterB) : F82.pre [Sx cmd] := by simpa [F82] using h
theorem c82 : GenCA K Tryz.prog 82 F82 := by
  refine contractA Tryz.mix K [] [] (by simp) (by simp) Tryz.func82 rfl (by decide) ?_
  intro xs hxs
  obtain ⟨cmd, rfl, hp⟩ := F82_in hxs
  rw [F82_res]
  refine ⟨by rw [Tryz.ntmps82]; simp, ?_⟩
  have q1 : ∀ a b : ByteArray, a.data.toList = b.data.toList ∨ ¬ a.data.toList = b.data.toList := fun a b => Classical.em _
  rcases hp with rfl | rfl
  · simp -implicitDefEqProofs [Tryz.f82, List.lookup_cons, eS, classB, ByteArray.toList_eq, eBuildSlice, srcRows, srcOk, chunk, show List.range 14 = [0, 1, 2, 3, 4, 5, 6, 7, 8, 9, 10, 11, 12, 13] from rfl]
    refine fin_own [0] (by simp [pickOk, ok0]) ?_
    simp -implicitDefEqProofs [fS, rn0, pickObs, deI, strOb, lgW, classB, cWs, sR, nB]
  · have hne : ¬ filterB = classB := fun e => by
      have := congrArg ByteArray.size e
      exact absurd this (by decide)
    simp -implicitDefEqProofs [Tryz.f82, List.lookup_cons, eS, filterB, ByteArray.toList_eq, eBuildSlice, srcRows, srcOk, chunk, show List.range 9 = [0, 1, 2, 3, 4, 5, 6, 7, 8] from rfl]
    refine fin_own [0] (by simp [pickOk, ok0]) ?_
    have e : lgW filterB = fWs := by unfold lgW; rw [if_neg hne]
    unfold filterB at e
    simp -implicitDefEqProofs [fS, rn0, pickObs, deI, strOb, e, fWs, sR, nB]
end Go.Proofs
