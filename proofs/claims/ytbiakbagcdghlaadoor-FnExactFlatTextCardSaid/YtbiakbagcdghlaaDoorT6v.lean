/-
  What is proved here: the program's lines of words, and the reference's, as functions; that they are alike. Condition: none.
-/
import Derived.Test.YtbiakbagcdghlaaDoorT5v
namespace Go.Proofs
open Go.Abs
set_option linter.unusedSimpArgs false
set_option linter.unnecessarySimpa false
set_option linter.unusedVariables false
set_option maxHeartbeats 8000000
set_option maxRecDepth 20000

def emB : ByteArray := ⟨#[]⟩
theorem tl_nil (b : ByteArray) : b.toList = [] ↔ b = emB := by
  rw [ByteArray.toList_eq]
  constructor
  · intro h
    exact ba_ext (by simpa [emB] using h)
  · rintro rfl
    rfl
def spB : ByteArray := ⟨#[32]⟩
def prtL (ws ts : List ByteArray) (k : Nat) : List ByteArray := (List.range k).flatMap fun i => (if ws.getD i emB = emB then [] else [ws.getD i emB]) ++ [ts.getD i emB]
theorem prtL_succ (ws ts : List ByteArray) (k : Nat) (h1 : k < ws.length) (h2 : k < ts.length) : prtL ws ts (k + 1) = prtL ws ts k ++ ((if ws[k] = emB then [] else [ws[k]]) ++ [ts[k]]) := by
  unfold prtL
  rw [List.range_succ, List.flatMap_append]
  simp [h1, h2]
theorem prtL_len (ws ts : List ByteArray) (k : Nat) : (prtL ws ts k).length ≤ 2 * k := by
  induction k with
  | zero => simp [prtL]
  | succ k ih =>
    unfold prtL at *
    rw [List.range_succ, List.flatMap_append, List.length_append]
    have h1 : (if ws.getD k emB = emB then [] else [ws.getD k emB]).length ≤ 1 := by split <;> simp
    simp only [List.flatMap_cons, List.flatMap_nil, List.append_nil, List.length_append, List.length_cons, List.length_nil]
    omega
def F35 : Fun := ⟨fun xs => xs = [Sx (deS (xs.getD 0 .top) : ByteArray), .sl (sR (deSs (xs.getD 1 .top) : List ByteArray)), .sl (sR (deSs (xs.getD 2 .top) : List ByteArray))] ∧ (fun (cmd : ByteArray) (ws : List ByteArray) (ts : List ByteArray) => (ws.length = ts.length ∧ ts.length ≤ 16 ∧ (joinB (cmd :: prtL ws ts ts.length) spB).size ≤ 140737488355328)) (deS (xs.getD 0 .top) : ByteArray) (deSs (xs.getD 1 .top) : List ByteArray) (deSs (xs.getD 2 .top) : List ByteArray), fun xs => (fun (cmd : ByteArray) (ws : List ByteArray) (ts : List ByteArray) => ((.v (.string (joinB (cmd :: prtL ws ts ts.length) spB)), []) : X × List Ob)) (deS (xs.getD 0 .top) : ByteArray) (deSs (xs.getD 1 .top) : List ByteArray) (deSs (xs.getD 2 .top) : List ByteArray)⟩
theorem F35_in {xs : List X} (h : F35.pre xs) : ∃ (cmd : ByteArray) (ws : List ByteArray) (ts : List ByteArray), xs = [Sx cmd, .sl (sR ws), .sl (sR ts)] ∧ (ws.length = ts.length ∧ ts.length ≤ 16 ∧ (joinB (cmd :: prtL ws ts ts.length) spB).size ≤ 140737488355328) := ⟨_, _, _, h.1, h.2⟩
theorem F35_res (cmd : ByteArray) (ws : List ByteArray) (ts : List ByteArray) : F35.res [Sx cmd, .sl (sR ws), .sl (sR ts)] = (.v (.string (joinB (cmd :: prtL ws ts ts.length) spB)), []) := by simp [F35]
theorem F35_mk (cmd : ByteArray) (ws : List ByteArray) (ts : List ByteArray) (h : ws.length = ts.length ∧ ts.length ≤ 16 ∧ (joinB (cmd :: prtL ws ts ts.length) spB).size ≤ 140737488355328) : F35.pre [Sx cmd, .sl (sR ws), .sl (sR ts)] := by simpa [F35] using h
theorem c35 : GenCA K Tryd.prog 35 F35 := by
  refine contractA Tryd.mix K [(53, F53)] [] (by simp [c53]) (by simp) Tryd.func35 rfl (by decide) ?_
  intro xs hxs
  obtain ⟨cmd, ws, ts, rfl, hp⟩ := F35_in hxs
  rw [F35_res]
  refine ⟨by rw [Tryd.ntmps35]; simp, ?_⟩
  obtain ⟨hl, h16, hj⟩ := hp
  simp -implicitDefEqProofs [Tryd.f35, List.lookup_cons, and_assoc, pick_and, pick_or, if_and, if_or, eBuildSlice, srcRows, srcOk, chunk]
  refine loopP_inv (fun k : Nat => ⟨38, tl [(1, .sl (sR ws)), (7, .osl 0 0), (12, .sl (sR ts)), (13, I ts.length), (14, I k)], [strOb (cmd :: prtL ws ts k)]⟩) (fun k => k ≤ ts.length) (fun k => ts.length - k) 0 (Nat.zero_le _) ?_ ?_
  · rw [show strOb (cmd :: prtL ws ts 0) = ⟨9, 1, 0, [[.v (.string cmd)]], false, true, none⟩ from rfl]
    exact Wk.tl (by simp [hold, upd, tl_cons])
  intro k hk
  by_cases h : k < ts.length
  · have hw1 := w64n (show k < 4611686018427387904 by omega)
    have hws : k < ws.length := by omega
    have hS := prtL_succ ws ts k hws h
    have hln := prtL_len ws ts k
    by_cases hq : ws[k] = emB
    · have hb : ws[k].toList = [] := (tl_nil _).2 hq
      rw [if_pos hq, List.nil_append] at hS
      simp -implicitDefEqProofs [List.lookup_cons, and_assoc, pick_and, pick_or, if_and, if_or, h, hws, strOb, hb, eAppend, eBuildSlice, srcRows, srcOk, chunk]
      refine ⟨by omega, by omega, k + 1, by omega, by omega, ?_⟩
      rw [sR_snoc, show (cmd :: prtL ws ts k) ++ [ts[k]] = cmd :: prtL ws ts (k + 1) by rw [hS]; rfl]
      refine Wk.tlP [0] (by simp [pickOk, -List.all_eq_true, sR_ok, ok0]) ?_ ?_
      · simp [pickObs]
      · simp [hold, upd, tl_cons, rn1, rn0, hw1]
    · have hb : ¬ ws[k].toList = [] := fun e => hq ((tl_nil _).1 e)
      rw [if_neg hq] at hS
      simp -implicitDefEqProofs [List.lookup_cons, and_assoc, pick_and, pick_or, if_and, if_or, h, hws, strOb, hb, eAppend, eBuildSlice, srcRows, srcOk, chunk]
      refine ⟨by omega, by omega, by omega, by omega, k + 1, by omega, by omega, ?_⟩
      rw [show sR (cmd :: prtL ws ts k) ++ [[.v (.string ws[k])], [.v (.string ts[k])]] = sR (cmd :: prtL ws ts (k + 1)) by rw [hS]; simp [sR]]
      refine Wk.tlP [0] (by simp [pickOk, -List.all_eq_true, sR_ok, ok0]) ?_ ?_
      · simp [pickObs]
      · simp [hold, upd, tl_cons, rn1, rn0, hw1]
  · have e : k = ts.length := by omega
    subst e
    have hln := prtL_len ws ts ts.length
    have hl2 : (cmd :: prtL ws ts ts.length).length ≤ 1048576 := by simp; omega
    have hl3 : (prtL ws ts ts.length).length ≤ 1048575 := by omega
    unfold spB at hj ⊢
    simp -implicitDefEqProofs [List.lookup_cons, and_assoc, pick_and, pick_or, if_and, if_or, strOb, F53, hl3, hj]
    refine fin_pure (by simp) ?_
    simp -implicitDefEqProofs [pur2_i, pur2_b, pur2_s, pur2_nil, pur2_sl, pur2_tup, rn2_tup, rn2_agg, rn2_osl, rn1_v, rn1_osl, rn1_agg, rn0_v, rn0_sl, rn0, pickObs, pur_v, pur_b, pur_s, pur_nil, pur_sl, deI, deIs_sl]
/-! ### the reference's line -/
def nB : ByteArray := ⟨#[78]⟩
def lgL : List ByteArray → List ByteArray → ByteArray → ByteArray
  | [], _, s => s
  | w :: ws, ts, s => if w = nB then lgL ws ts.tail (s ++ (spB ++ ts.headD emB)) else lgL ws ts (s ++ (spB ++ w))
def classB : ByteArray := ⟨#[99, 108, 97, 115, 115]⟩
def filterB : ByteArray := ⟨#[102, 105, 108, 116, 101, 114]⟩
def cWs : List ByteArray := [nB, nB, ⟨#[114, 97, 116, 101]⟩, nB, ⟨#[99, 101, 105, 108]⟩, nB, ⟨#[98, 117, 114, 115, 116]⟩, nB, ⟨#[99, 98, 117, 114, 115, 116]⟩, nB, ⟨#[112, 114, 105, 111]⟩, nB, ⟨#[108, 105, 109, 105, 116]⟩, nB]
def fWs : List ByteArray := [nB, ⟨#[102, 105, 101, 108, 100]⟩, nB, ⟨#[109, 97, 115, 107]⟩, nB, ⟨#[118, 97, 108, 117, 101]⟩, nB, ⟨#[116, 111]⟩, nB]
def lgW (cmd : ByteArray) : List ByteArray := if cmd = classB then cWs else fWs
def F61 : Fun := ⟨fun xs => xs = [Sx (deS (xs.getD 0 .top) : ByteArray)] ∧ (fun (cmd : ByteArray) => (cmd = classB ∨ cmd = filterB)) (deS (xs.getD 0 .top) : ByteArray), fun xs => (fun (cmd : ByteArray) => ((.osl 0 0, [strOb (lgW cmd)]) : X × List Ob)) (deS (xs.getD 0 .top) : ByteArray)⟩
theorem F61_in {xs : List X} (h : F61.pre xs) : ∃ (cmd : ByteArray), xs = [Sx cmd] ∧ (cmd = classB ∨ cmd = filterB) := ⟨_, h.1, h.2⟩
theorem F61_res (cmd : ByteArray) : F61.res [Sx cmd] = (.osl 0 0, [strOb (lgW cmd)]) := by simp [F61]
theorem F61_mk (cmd : ByteArray) (h : cmd = classB ∨ cmd = filterB) : F61.pre [Sx cmd] := by simpa [F61] using h
theorem c61 : GenCA K Tryd.prog 61 F61 := by
  refine contractA Tryd.mix K [] [] (by simp) (by simp) Tryd.func61 rfl (by decide) ?_
  intro xs hxs
  obtain ⟨cmd, rfl, hp⟩ := F61_in hxs
  rw [F61_res]
  refine ⟨by rw [Tryd.ntmps61]; simp, ?_⟩
  have q1 : ∀ a b : ByteArray, a.data.toList = b.data.toList ∨ ¬ a.data.toList = b.data.toList := fun a b => Classical.em _
  rcases hp with rfl | rfl
  · simp -implicitDefEqProofs [Tryd.f61, List.lookup_cons, and_assoc, pick_and, pick_or, if_and, if_or, classB, ByteArray.toList_eq, eBuildSlice, srcRows, srcOk, chunk, show List.range 14 = [0, 1, 2, 3, 4, 5, 6, 7, 8, 9, 10, 11, 12, 13] from rfl]
    refine fin_own [0] (by simp [pickOk, ok0]) ?_
    simp -implicitDefEqProofs [pur2_i, pur2_b, pur2_s, pur2_nil, pur2_sl, pur2_tup, rn2_tup, rn2_agg, rn2_osl, rn1_v, rn1_osl, rn1_agg, rn0_v, rn0_sl, rn0, pickObs, pur_v, pur_b, pur_s, pur_nil, pur_sl, deI, deIs_sl, strOb, lgW, classB, cWs, sR, nB]
  · have hne : ¬ filterB = classB := fun e => by
      have := congrArg ByteArray.size e
      exact absurd this (by decide)
    simp -implicitDefEqProofs [Tryd.f61, List.lookup_cons, and_assoc, pick_and, pick_or, if_and, if_or, filterB, ByteArray.toList_eq, eBuildSlice, srcRows, srcOk, chunk, show List.range 9 = [0, 1, 2, 3, 4, 5, 6, 7, 8] from rfl]
    refine fin_own [0] (by simp [pickOk, ok0]) ?_
    have e : lgW filterB = fWs := by unfold lgW; rw [if_neg hne]
    unfold filterB at e
    simp -implicitDefEqProofs [pur2_i, pur2_b, pur2_s, pur2_nil, pur2_sl, pur2_tup, rn2_tup, rn2_agg, rn2_osl, rn1_v, rn1_osl, rn1_agg, rn0_v, rn0_sl, rn0, pickObs, pur_v, pur_b, pur_s, pur_nil, pur_sl, deI, deIs_sl, strOb, e, fWs, sR, nB]
end Go.Proofs
