/-
  What is proved here: contracts of the functions by which a configuration is judged (places, children, ways). Condition: none.
-/
import Derived.Test.YtflhbkcjfmajeaaGreatDoorC1z
namespace Go.Proofs
open Go.Abs
set_option linter.unusedSimpArgs false
set_option linter.unnecessarySimpa false
set_option linter.unusedVariables false
set_option maxHeartbeats 4000000
set_option maxRecDepth 20000

@[simp] theorem deS_S (b : ByteArray) : deS (Sx b) = b := rfl
def pI : X → Int
  | .pt [x] => deI x
  | _ => 0
@[simp] theorem pI_pt (x : X) : pI (.pt [x]) = deI x := rfl
def pC : X → Cfg
  | .pt l => deC (.agg l)
  | _ => deC .top
@[simp] theorem pC_pt (l : List X) : pC (.pt l) = deC (.agg l) := rfl
theorem pur2_optr (h : List Ob) (k ver i j : Nat) : purN h 2 (.optr k ver i j) = (match h[k]? with
    | some ob => if ob.ver = ver then .pt (((rowOf h k i).drop j).map (purN h 1)) else .top
    | none => .top) := rfl
@[simp] theorem pur2_int (h : List Ob) (k : IntKind) (n : Int) : purN h 2 (.v (.int k n)) = .v (.int k n) := rfl
@[simp] theorem pur2_str (h : List Ob) (b : ByteArray) : purN h 2 (.v (.string b)) = .v (.string b) := rfl
@[simp] theorem pur2_sl (h : List Ob) (r : List (List X)) : purN h 2 (.sl r) = .sl r := rfl
theorem pur1_int (h : List Ob) (k : IntKind) (n : Int) : purN h 1 (.v (.int k n)) = .v (.int k n) := rfl
theorem pur1_Sx (h : List Ob) (b : ByteArray) : purN h 1 (.v (.string b)) = .v (.string b) := rfl
theorem pur1_sl (h : List Ob) (r : List (List X)) : purN h 1 (.sl r) = .sl r := rfl
def cBx (c : Cfg) : Ob := ⟨35, 4, 0, [cX c], true, true, none⟩
attribute [simp] Sx
theorem okH_cBx (m : Nat) (c : Cfg) (h : List Ob) (hh : okH m h) : okH m (⟨35, 4, 0, [[.v (.string c.name), .sl (tR c.cls), .sl (tR c.fil), I c.dflt]], true, true, none⟩ :: h) := by
  simp [okH_cons, ok0, Sx, hh]
def cpId (c : List X) : Prop := c = [.pt [I (pI (c.getD 0 .top))]]
def prId (c : List X) (x : Cls) : Bool := decide (x.id = pI (c.getD 0 .top))
@[simp] theorem cpId_mk (id : Int) : cpId [.pt [I id]] := by simp [cpId]
@[simp] theorem prId_mk (id : Int) (x : Cls) : prId [.pt [I id]] x = decide (x.id = id) := by simp [prId]
theorem cpId_pu (c : List X) (h : cpId c) : c.all isP0 = true ∧ ∀ n, c.map (purN [] n) = c := by
  rw [cpId] at h; rw [h]; exact ⟨rfl, fun n => by cases n <;> rfl⟩
theorem fidx_idx (l : List Cls) (id : Int) : idxB (prId [.pt [I id]]) l = fidx l id := by
  unfold idxB fidx
  have : (prId [.pt [I id]]) = fun x : Cls => decide (x.id = id) := by funext x; simp
  rw [this]
  rfl
theorem c120 : GenCA K Tryz.prog 120 (FPr cpId prId) := by
  refine contractA Tryz.mix K [] [] (by simp) (by simp) Tryz.func120 rfl (by decide) ?_
  intro xs hxs
  obtain ⟨x, id, rfl⟩ : ∃ (x : Cls) (id : Int), xs = [.agg (rX x), .pt [I id]] := ⟨_, _, hxs.1.trans (congrArg (List.cons _) hxs.2)⟩
  have hres : (FPr cpId prId).res [.agg (rX x), .pt [I id]] = (B (decide (x.id = id)), []) := by simp [FPr]
  rw [hres]
  refine ⟨by rw [Tryz.ntmps120]; simp, ?_⟩
  simp -implicitDefEqProofs [Tryz.f120, List.lookup_cons, and_assoc, pick_and, pick_or, if_and, if_or]
  refine fin_pure (by simp) ?_
  simp -implicitDefEqProofs [pur2_i, pur2_b, pur2_s, pur2_nil, pur2_sl, pur2_tup, rn2_tup, rn2_agg, rn2_osl, rn1_v, rn1_osl, rn1_agg, rn0_v, rn0_sl, rn0, pickObs, pur_v, pur_b, pur_s, pur_nil, pur_sl, deI, deIs_sl]
  rfl

def okC (c : Cfg) : Prop := c.cls.length ≤ 1048576 ∧ c.fil.length ≤ 1048576 ∧ c.name.size ≤ 1048576
def F105 : Fun := ⟨fun xs => xs = [.agg (cX (deC (xs.getD 0 .top) : Cfg)), I (deI (xs.getD 1 .top) : Int)] ∧ (fun (c : Cfg) (id : Int) => (okC c)) (deC (xs.getD 0 .top) : Cfg) (deI (xs.getD 1 .top) : Int), fun xs => (fun (c : Cfg) (id : Int) => ((I (fidx c.cls id), []) : X × List Ob)) (deC (xs.getD 0 .top) : Cfg) (deI (xs.getD 1 .top) : Int)⟩
theorem F105_in {xs : List X} (h : F105.pre xs) : ∃ (c : Cfg) (id : Int), xs = [.agg (cX c), I id] ∧ (okC c) := ⟨_, _, h.1, h.2⟩
theorem F105_res (c : Cfg) (id : Int) : F105.res [.agg (cX c), I id] = (I (fidx c.cls id), []) := by simp [F105]
theorem F105_mk (c : Cfg) (id : Int) (h : okC c) : F105.pre [.agg (cX c), I id] := by simpa [F105] using h
theorem c105 : GenCA K Tryz.prog 105 F105 := by
  refine contractA Tryz.mix K [(100, FIx 120 cpId prId)] [] (by simp [cIxCls 120 cpId prId cpId_pu c120]) (by simp) Tryz.func105 rfl (by decide) ?_
  intro xs hxs
  obtain ⟨c, id, rfl, hp⟩ := F105_in hxs
  rw [F105_res]
  refine ⟨by rw [Tryz.ntmps105]; simp, ?_⟩
  simp -implicitDefEqProofs [Tryz.f105, List.lookup_cons, and_assoc, pick_and, pick_or, if_and, if_or, FIx, hp.1, fidx_idx, pur2_optr, pur1_int, rowOf]
  refine fin_pure (by simp) ?_
  simp -implicitDefEqProofs [pur2_i, pur2_b, pur2_s, pur2_nil, pur2_sl, pur2_tup, rn2_tup, rn2_agg, rn2_osl, rn1_v, rn1_osl, rn1_agg, rn0_v, rn0_sl, rn0, pickObs, pur_v, pur_b, pur_s, pur_nil, pur_sl, deI, deIs_sl]

def cpKid (c : List X) : Prop := c = [.pt (cX (pC (c.getD 0 .top))), .pt [I (pI (c.getD 1 .top))]] ∧ ∃ i : Nat, pI (c.getD 1 .top) = i ∧ i < (pC (c.getD 0 .top)).cls.length
def prKid (c : List X) (x : Cls) : Bool := decide (x.par = (atC (pC (c.getD 0 .top)).cls (pI (c.getD 1 .top)).toNat).id)
@[simp] theorem prKid_mk (c : Cfg) (i : Nat) (x : Cls) : prKid [.pt (cX c), .pt [I i]] x = decide (x.par = (atC c.cls i).id) := by simp [prKid]
theorem cpKid_mk (c : Cfg) (i : Nat) (h : i < c.cls.length) : cpKid [.pt (cX c), .pt [I i]] := by simpa [cpKid] using ⟨i, rfl, h⟩
theorem cpKid_pu (c : List X) (h : cpKid c) : c.all isP0 = true ∧ ∀ n, c.map (purN [] n) = c := by
  rw [h.1]; exact ⟨rfl, fun n => by cases n <;> rfl⟩
theorem c119 : GenCA K Tryz.prog 119 (FPr cpKid prKid) := by
  refine contractA Tryz.mix K [] [] (by simp) (by simp) Tryz.func119 rfl (by decide) ?_
  intro xs hxs
  obtain ⟨x, c, i, rfl, hi⟩ : ∃ (x : Cls) (c : Cfg) (i : Nat), xs = [.agg (rX x), .pt (cX c), .pt [I i]] ∧ i < c.cls.length := by
    obtain ⟨h1, h2, i, h3, h4⟩ := hxs
    exact ⟨_, _, i, h1.trans (congrArg (List.cons _) (h2.trans (by rw [h3]))), h4⟩
  have hres : (FPr cpKid prKid).res [.agg (rX x), .pt (cX c), .pt [I i]] = (B (decide (x.par = (atC c.cls i).id)), []) := by simp only [FPr, List.getD_cons_zero, List.tail_cons, prKid_mk, deA_agg, dec_rX]
  rw [hres]
  refine ⟨by rw [Tryz.ntmps119]; simp, ?_⟩
  simp -implicitDefEqProofs [Tryz.f119, List.lookup_cons, and_assoc, pick_and, pick_or, if_and, if_or]
  refine drawP_all _ (by decide) ?_
  simp -implicitDefEqProofs [List.lookup_cons, and_assoc, pick_and, pick_or, if_and, if_or, hi]
  refine fin_pure (by simp) ?_
  simp -implicitDefEqProofs [pur2_i, pur2_b, pur2_s, pur2_nil, pur2_sl, pur2_tup, rn2_tup, rn2_agg, rn2_osl, rn1_v, rn1_osl, rn1_agg, rn0_v, rn0_sl, rn0, pickObs, pur_v, pur_b, pur_s, pur_nil, pur_sl, deI, deIs_sl, atC_eq hi]
  rfl
def okI (c : Cfg) (i : Int) : Prop := okC c ∧ 0 ≤ i ∧ i < c.cls.length
def F103 : Fun := ⟨fun xs => xs = [.agg (cX (deC (xs.getD 0 .top) : Cfg)), I (deI (xs.getD 1 .top) : Int)] ∧ (fun (c : Cfg) (i : Int) => (okI c i)) (deC (xs.getD 0 .top) : Cfg) (deI (xs.getD 1 .top) : Int), fun xs => (fun (c : Cfg) (i : Int) => ((B (leafB c.cls i.toNat), []) : X × List Ob)) (deC (xs.getD 0 .top) : Cfg) (deI (xs.getD 1 .top) : Int)⟩
theorem F103_in {xs : List X} (h : F103.pre xs) : ∃ (c : Cfg) (i : Int), xs = [.agg (cX c), I i] ∧ (okI c i) := ⟨_, _, h.1, h.2⟩
theorem F103_res (c : Cfg) (i : Int) : F103.res [.agg (cX c), I i] = (B (leafB c.cls i.toNat), []) := by simp [F103]
theorem F103_mk (c : Cfg) (i : Int) (h : okI c i) : F103.pre [.agg (cX c), I i] := by simpa [F103] using h
theorem c103 : GenCA K Tryz.prog 103 F103 := by
  refine contractA Tryz.mix K [(74, FCt 119 cpKid prKid)] [] (by simp [cCtCls 119 cpKid prKid cpKid_pu c119]) (by simp) Tryz.func103 rfl (by decide) ?_
  intro xs hxs
  obtain ⟨c, i, rfl, hp⟩ := F103_in hxs
  rw [F103_res]
  refine ⟨by rw [Tryz.ntmps103]; simp, ?_⟩
  obtain ⟨i, rfl⟩ := Int.eq_ofNat_of_zero_le hp.2.1
  have hi : i < c.cls.length := by have := hp.2.2; omega
  have hk := cpKid_mk c i hi
  simp at hk
  have hl : (c.cls.any (prKid [.pt (cX c), .pt [I i]])) = !leafB c.cls i := by
    have : (prKid [.pt (cX c), .pt [I i]]) = fun x : Cls => decide (x.par = (atC c.cls i).id) := by funext x; exact prKid_mk c i x
    rw [this, leafB, Bool.not_not]
  simp only [cX] at hl
  simp -implicitDefEqProofs [Tryz.f103, List.lookup_cons, and_assoc, pick_and, pick_or, if_and, if_or, FIx, FCt, hp.1.1, hk, hl, pur2_optr, pur1_int, pur1_Sx, pur1_sl, rowOf]
  refine fin_pure (by simp) ?_
  simp -implicitDefEqProofs [pur2_i, pur2_b, pur2_s, pur2_nil, pur2_sl, pur2_tup, rn2_tup, rn2_agg, rn2_osl, rn1_v, rn1_osl, rn1_agg, rn0_v, rn0_sl, rn0, pickObs, pur_v, pur_b, pur_s, pur_nil, pur_sl, deI, deIs_sl]

theorem kids_succ (l : List Cls) (i n : Nat) (h : n < l.length) : kids l i (n + 1) = kids l i n ++ (if l[n].par = (atC l i).id then [n] else []) := by
  unfold kids
  rw [List.range_succ, List.filter_append]
  by_cases h2 : l[n].par = (atC l i).id
  · simp [h2, atC_eq h]
  · simp [h2, atC_eq h]
theorem kids_len (l : List Cls) (i n : Nat) : (kids l i n).length ≤ n := by
  unfold kids
  exact Nat.le_trans (List.length_filter_le _ _) (by simp)
theorem kids_lt (l : List Cls) (i n : Nat) : ∀ k ∈ kids l i n, k < n := by
  intro k hk
  unfold kids at hk
  simpa using (List.mem_filter.1 hk).1
def nI (l : List Nat) : List Int := l.map fun k : Nat => (k : Int)
theorem nI_len (l : List Nat) : (nI l).length = l.length := by simp [nI]
def F110 : Fun := ⟨fun xs => xs = [.agg (cX (deC (xs.getD 0 .top) : Cfg)), I (deI (xs.getD 1 .top) : Int)] ∧ (fun (c : Cfg) (i : Int) => (okI c i)) (deC (xs.getD 0 .top) : Cfg) (deI (xs.getD 1 .top) : Int), fun xs => (fun (c : Cfg) (i : Int) => ((.osl 0 0, [iOb (nI (kids c.cls i.toNat c.cls.length))]) : X × List Ob)) (deC (xs.getD 0 .top) : Cfg) (deI (xs.getD 1 .top) : Int)⟩
theorem F110_in {xs : List X} (h : F110.pre xs) : ∃ (c : Cfg) (i : Int), xs = [.agg (cX c), I i] ∧ (okI c i) := ⟨_, _, h.1, h.2⟩
theorem F110_res (c : Cfg) (i : Int) : F110.res [.agg (cX c), I i] = (.osl 0 0, [iOb (nI (kids c.cls i.toNat c.cls.length))]) := by simp [F110]
theorem F110_mk (c : Cfg) (i : Int) (h : okI c i) : F110.pre [.agg (cX c), I i] := by simpa [F110] using h
theorem c110 : GenCA K Tryz.prog 110 F110 := by
  refine contractA Tryz.mix K [] [] (by simp) (by simp) Tryz.func110 rfl (by decide) ?_
  intro xs hxs
  obtain ⟨c, i, rfl, hp⟩ := F110_in hxs
  rw [F110_res]
  refine ⟨by rw [Tryz.ntmps110]; simp, ?_⟩
  obtain ⟨i, rfl⟩ := Int.eq_ofNat_of_zero_le hp.2.1
  have hi : i < c.cls.length := by have := hp.2.2; omega
  have hl := hp.1.1
  simp -implicitDefEqProofs [Tryz.f110, List.lookup_cons, and_assoc, pick_and, pick_or, if_and, if_or, eBuildSlice, srcRows, srcOk, chunk]
  refine loopP_inv (fun k : Nat => ⟨32, tl [(1, I i), (2, .optr 0 0 0 0), (5, .osl 1 0), (10, .sl (tR c.cls)), (11, I c.cls.length), (12, I k)], [cBx c, iOb (nI (kids c.cls i k))]⟩) (fun k => k ≤ c.cls.length) (fun k => c.cls.length - k) 0 (Nat.zero_le _) (Wk.tl (by simp [hold, upd, tl_cons])) ?_
  intro k hk
  by_cases h : k < c.cls.length
  · have hw1 := w64n (show k < 4611686018427387904 by omega)
    have hS := kids_succ c.cls i k h
    have hln := kids_len c.cls i k
    rw [atC_eq hi] at hS
    simp -implicitDefEqProofs [List.lookup_cons, and_assoc, pick_and, pick_or, if_and, if_or, h, cBx, iOb, eAppend, eBuildSlice, srcRows, srcOk, chunk]
    refine drawP_all _ (by decide) ?_
    by_cases he : c.cls[k].par = c.cls[i].id
    · rw [if_pos he] at hS
      simp -implicitDefEqProofs [List.lookup_cons, and_assoc, pick_and, pick_or, if_and, if_or, h, hi, he, cBx, iOb, eAppend, eBuildSlice, srcRows, srcOk, chunk]
      have hln2 := nI_len (kids c.cls i k)
      refine ⟨by omega, by omega, k + 1, by omega, by omega, ?_⟩
      have hN : iR (nI (kids c.cls i k)) ++ [[I (k : Int)]] = iR (nI (kids c.cls i (k + 1))) := by rw [hS]; simp [nI, ← iR_append, iR_cons, iR_nil]
      rw [hN]
      refine Wk.tlP [0, 1] (by simp [pickOk, -List.all_eq_true, iR_ok, ok0, Sx]) ?_ ?_
      · simp [pickObs, Sx]
      · simp [hold, upd, tl_cons, rn1, rn0, hw1]
        exact ⟨rfl, rfl⟩
    · rw [if_neg he, List.append_nil] at hS
      simp -implicitDefEqProofs [List.lookup_cons, and_assoc, pick_and, pick_or, if_and, if_or, h, hi, he, cBx, iOb, eAppend, eBuildSlice, srcRows, srcOk, chunk]
      refine ⟨k + 1, by omega, by omega, ?_⟩
      rw [hS]
      exact Wk.tlD (m := 2) rfl (by simp [hold, upd, tl_cons, hw1]) (by simp [okL_cons, okL_nil, ok1, ok0]) (okH_cBx _ _ _ (okH_iR _ _ _ _ _ _ _ _ _ (by simp [okH_nil])))
  · have e : k = c.cls.length := by omega
    subst e
    simp -implicitDefEqProofs [List.lookup_cons, and_assoc, pick_and, pick_or, if_and, if_or, iOb, cBx]
    refine fin_own [1] (by simp [pickOk, -List.all_eq_true, iR_ok]) ?_
    simp -implicitDefEqProofs [pur2_i, pur2_b, pur2_s, pur2_nil, pur2_sl, pur2_tup, rn2_tup, rn2_agg, rn2_osl, rn1_v, rn1_osl, rn1_agg, rn0_v, rn0_sl, rn0, pickObs, pur_v, pur_b, pur_s, pur_nil, pur_sl, deI, deIs_sl, iOb]
end Go.Proofs
