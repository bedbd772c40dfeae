/-
  What is proved here: contracts of the reference's lines, of both FlatClass, and of the law. Condition: none.
  What is proved here: the two lines of a class are one, in plain Lean. Condition: none.
-/
import Derived.Test.YtecpfgnkiifnpaaGreatDoorTxB
set_option linter.unusedVariables false
set_option linter.unusedSimpArgs false
set_option linter.unnecessarySimpa false
set_option maxHeartbeats 8000000
set_option maxRecDepth 20000
namespace Go.Proofs
open Go.Abs
def nN (ws : List ByteArray) : Nat := ws.countP fun w => decide (w = nB)
def lgOk (cmd : ByteArray) (ts : List ByteArray) : Prop := (cmd = classB ∧ ts.length = 8 ∨ cmd = filterB ∧ ts.length = 5) ∧ ∀ t ∈ ts, t.size ≤ 64
theorem nB_tl (b : ByteArray) : (b.toList == [78]) = decide (b = nB) := by
  have e : (ByteArray.mk #[78]).toList = [78] := by rw [ByteArray.toList_eq]
  rw [← e]
  exact tl_eq _ _
theorem nN_cons (w : ByteArray) (ws : List ByteArray) : nN (w :: ws) = nN ws + (if w = nB then 1 else 0) := by
  unfold nN
  rw [List.countP_cons]
  simp only [decide_eq_true_eq]
theorem sR_one' {l : List ByteArray} {r : List X} (h : r ∈ sR l) : r.length = 1 := by
  simp [sR] at h
  obtain ⟨x, _, rfl⟩ := h
  rfl
theorem sz78 : (ByteArray.mk #[32]).size = 1 := rfl
def F69 : Fun := ⟨fun xs => xs = [Sx (deS (xs.getD 0 .top) : ByteArray), .sl (sR (deSs (xs.getD 1 .top) : List ByteArray))] ∧ (fun (cmd : ByteArray) (ts : List ByteArray) => (lgOk cmd ts)) (deS (xs.getD 0 .top) : ByteArray) (deSs (xs.getD 1 .top) : List ByteArray), fun xs => (fun (cmd : ByteArray) (ts : List ByteArray) => ((.v (.string (lgL (lgW cmd) ts cmd)), []) : X × List Ob)) (deS (xs.getD 0 .top) : ByteArray) (deSs (xs.getD 1 .top) : List ByteArray)⟩
theorem F69_in {xs : List X} (h : F69.pre xs) : ∃ (cmd : ByteArray) (ts : List ByteArray), xs = [Sx cmd, .sl (sR ts)] ∧ (lgOk cmd ts) := ⟨_, _, h.1, h.2⟩
theorem F69_res (cmd : ByteArray) (ts : List ByteArray) : F69.res [Sx cmd, .sl (sR ts)] = (.v (.string (lgL (lgW cmd) ts cmd)), []) := by simp [F69]
theorem F69_mk (cmd : ByteArray) (ts : List ByteArray) (h : lgOk cmd ts) : F69.pre [Sx cmd, .sl (sR ts)] := by simpa [F69] using h
theorem c69 : GenCA K Tryz.prog 69 F69 := by
  refine contractA Tryz.mix K [(82, F82)] [] (by simp [c82]) (by simp) Tryz.func69 rfl (by decide) ?_
  intro xs hxs
  obtain ⟨cmd, ts, rfl, hp⟩ := F69_in hxs
  rw [F69_res]
  refine ⟨by rw [Tryz.ntmps69]; simp, ?_⟩
  obtain ⟨hc, ht⟩ := hp
  have hcs : cmd = classB ∨ cmd = filterB := by rcases hc with h | h; exact .inl h.1; exact .inr h.1
  have hw64 : ∀ w ∈ lgW cmd, w.size ≤ 64 := by
    rcases hcs with rfl | rfl
    · decide
    · decide
  have hcnt : nN (lgW cmd) ≤ ts.length := by
    rcases hc with ⟨rfl, h⟩ | ⟨rfl, h⟩
    · rw [h]; decide
    · rw [h]; decide
  have hsz : cmd.size ≤ 64 := by
    rcases hcs with rfl | rfl
    · decide
    · decide
  have hl16 : (lgW cmd).length ≤ 16 := by
    rcases hcs with rfl | rfl
    · decide
    · decide
  simp -implicitDefEqProofs [Tryz.f69, List.lookup_cons, eS, F82, hcs, strOb]
  generalize hW : lgW cmd = ws at hw64 hcnt hl16
  refine loopP_inv (fun a : Nat × List ByteArray × ByteArray => ⟨29, tl [(1, .sl (sR a.2.1)), (5, .v (.string a.2.2)), (10, .osl 0 0), (11, I ws.length), (12, I a.1)], [strOb ws]⟩) (fun a => a.1 ≤ ws.length ∧ lgL (ws.drop a.1) a.2.1 a.2.2 = lgL ws ts cmd ∧ nN (ws.drop a.1) ≤ a.2.1.length ∧ (∀ t ∈ a.2.1, t.size ≤ 64) ∧ a.2.2.size ≤ 64 + 65 * a.1) (fun a => ws.length - a.1) (0, ts, cmd) ⟨Nat.zero_le _, rfl, hcnt, ht, by simpa using hsz⟩ (Wk.tl (by simp [hold, upd, tl_cons])) ?_
  rintro ⟨k, tz, s⟩ ⟨hk, hL, hn, htz, hs⟩
  simp only at hk hL hn htz hs
  by_cases h : k < ws.length
  · have hw1 := w64n (show k < 4611686018427387904 by omega)
    have hd : ws.drop k = ws[k] :: ws.drop (k + 1) := List.drop_eq_getElem_cons h
    have hwk := hw64 _ (List.getElem_mem h)
    rw [hd] at hL hn
    rw [nN_cons] at hn
    by_cases hq : ws[k] = nB
    · have hn2 : nN (ws.drop (k + 1)) + 1 ≤ tz.length := by rw [if_pos hq] at hn; exact hn
      obtain ⟨t, tz, rfl⟩ : ∃ t tz', tz = t :: tz' := by
        cases tz with
        | nil => simp at hn2
        | cons t tz => exact ⟨t, tz, rfl⟩
      have ht64 := htz t List.mem_cons_self
      simp only [List.length_cons] at hn2
      have hq' : (ws[k].toList == [78]) = true := by rw [nB_tl]; simpa using hq
      simp only [lgL, hq, if_pos, List.tail_cons, List.headD_cons] at hL
      simp -implicitDefEqProofs [List.lookup_cons, eS, h, strOb, hq', -beq_iff_eq, -beq_eq_false_iff_ne, eSlice, bnd, sz78]
      refine ⟨fun r hr => sR_one' hr, by omega, by omega, by omega, k + 1, by omega, tz, s ++ (spB ++ t), hL, by omega, fun x hx => htz x (List.mem_cons_of_mem _ hx), ?_, by omega, ?_⟩
      · rw [ByteArray.size_append, ByteArray.size_append, show spB.size = 1 from rfl]; omega
      · have htk : List.take tz.length (List.map (fun b => [X.v (Value.string b)]) tz) = List.map (fun b => [X.v (Value.string b)]) tz := List.take_of_length_le (by simp)
        exact Wk.tl (by simp [hold, upd, tl_cons, hw1, spB, sR, htk])
    · have hq' : (ws[k].toList == [78]) = false := by rw [nB_tl]; simpa using hq
      have hn2 : nN (ws.drop (k + 1)) ≤ tz.length := by rw [if_neg hq] at hn; exact hn
      simp only [lgL, hq, if_false] at hL
      simp -implicitDefEqProofs [List.lookup_cons, eS, h, strOb, hq', -beq_iff_eq, -beq_eq_false_iff_ne, eSlice, bnd, sz78]
      refine ⟨by omega, by omega, k + 1, by omega, tz, s ++ (spB ++ ws[k]), hL, hn2, htz, ?_, by omega, ?_⟩
      · rw [ByteArray.size_append, ByteArray.size_append, show spB.size = 1 from rfl]; omega
      · exact Wk.tl (by simp [hold, upd, tl_cons, hw1, spB])
  · have e : k = ws.length := by omega
    subst e
    rw [List.drop_length] at hL
    simp -implicitDefEqProofs [List.lookup_cons, eS, strOb]
    refine fin_pure (by simp) ?_
    simp only [lgL] at hL
    simp -implicitDefEqProofs [fS, rn0, pickObs, deI, hL, hW]
end Go.Proofs
namespace Go.Proofs
open Go.Abs
/-! ### the two lines of a class are one -/
theorem join_sp (x y : ByteArray) (l : List ByteArray) : joinB (x :: y :: l) spB = x ++ (spB ++ joinB (y :: l) spB) := by
  apply ba_ext
  rw [ByteArray.data_append, ByteArray.data_append]
  simp [joinB, Lib.join, List.intercalate, List.intersperse, spB]
theorem join_one' (x : ByteArray) : joinB [x] spB = x := by
  apply ba_ext
  simp [joinB, Lib.join_one]
theorem ba_assoc (a b c : ByteArray) : a ++ b ++ c = a ++ (b ++ c) := by
  apply ba_ext
  simp [ByteArray.data_append]
theorem flat_eq (ts : List ByteArray) (h : ts.length = 8) : joinB (classB :: prtL cWords ts 8) spB = lgL cWs ts classB := by
  match ts, h with
  | [a, b, c, d, e, f, g, k], _ =>
    have e1 : prtL cWords [a, b, c, d, e, f, g, k] 8 = [a, b, ⟨#[114, 97, 116, 101]⟩, c, ⟨#[99, 101, 105, 108]⟩, d, ⟨#[98, 117, 114, 115, 116]⟩, e, ⟨#[99, 98, 117, 114, 115, 116]⟩, f, ⟨#[112, 114, 105, 111]⟩, g, ⟨#[108, 105, 109, 105, 116]⟩, k] := rfl
    have e2 : lgL cWs [a, b, c, d, e, f, g, k] classB = classB ++ (spB ++ a) ++ (spB ++ b) ++ (spB ++ ⟨#[114, 97, 116, 101]⟩) ++ (spB ++ c) ++ (spB ++ ⟨#[99, 101, 105, 108]⟩) ++ (spB ++ d) ++ (spB ++ ⟨#[98, 117, 114, 115, 116]⟩) ++ (spB ++ e) ++ (spB ++ ⟨#[99, 98, 117, 114, 115, 116]⟩) ++ (spB ++ f) ++ (spB ++ ⟨#[112, 114, 105, 111]⟩) ++ (spB ++ g) ++ (spB ++ ⟨#[108, 105, 109, 105, 116]⟩) ++ (spB ++ k) := rfl
    rw [e1, e2]
    simp only [join_sp, join_one', ba_assoc]
theorem ba_sz (a b : ByteArray) : (a ++ b).size = a.size + b.size := ByteArray.size_append
theorem flat_size (ts : List ByteArray) (h : ts.length = 8) (ht : ∀ t ∈ ts, t.size ≤ 64) : (joinB (classB :: prtL cWords ts 8) spB).size ≤ 1000 := by
  rw [flat_eq ts h]
  match ts, h, ht with
  | [a, b, c, d, e, f, g, k], _, ht =>
    have e2 : lgL cWs [a, b, c, d, e, f, g, k] classB = classB ++ (spB ++ a) ++ (spB ++ b) ++ (spB ++ ⟨#[114, 97, 116, 101]⟩) ++ (spB ++ c) ++ (spB ++ ⟨#[99, 101, 105, 108]⟩) ++ (spB ++ d) ++ (spB ++ ⟨#[98, 117, 114, 115, 116]⟩) ++ (spB ++ e) ++ (spB ++ ⟨#[99, 98, 117, 114, 115, 116]⟩) ++ (spB ++ f) ++ (spB ++ ⟨#[112, 114, 105, 111]⟩) ++ (spB ++ g) ++ (spB ++ ⟨#[108, 105, 109, 105, 116]⟩) ++ (spB ++ k) := rfl
    rw [e2]
    have q : ∀ n : Nat, (ByteArray.size ⟨#[114, 97, 116, 101]⟩) = 4 ∧ (ByteArray.size ⟨#[99, 101, 105, 108]⟩) = 4 ∧ (ByteArray.size ⟨#[98, 117, 114, 115, 116]⟩) = 5 ∧ (ByteArray.size ⟨#[99, 98, 117, 114, 115, 116]⟩) = 6 ∧ (ByteArray.size ⟨#[112, 114, 105, 111]⟩) = 4 ∧ (ByteArray.size ⟨#[108, 105, 109, 105, 116]⟩) = 5 ∧ spB.size = 1 ∧ classB.size = 5 := fun _ => ⟨rfl, rfl, rfl, rfl, rfl, rfl, rfl, rfl⟩
    obtain ⟨q1, q2, q3, q4, q5, q6, q7, q8⟩ := q 0
    have h1 := ht a (by simp)
    have h2 := ht b (by simp)
    have h3 := ht c (by simp)
    have h4 := ht d (by simp)
    have h5 := ht e (by simp)
    have h6 := ht f (by simp)
    have h7 := ht g (by simp)
    have h8 := ht k (by simp)
    simp only [ba_sz]
    omega
end Go.Proofs
