/-
  What is proved here: contracts of the functions by which a configuration is judged (places, children, ways). Condition: none.
-/
import Derived.Test.YtecpfgnkiifnpaaGreatDoorC1m
namespace Go.Proofs
open Go.Abs
set_option linter.unusedSimpArgs false
set_option linter.unnecessarySimpa false
set_option linter.unusedVariables false
set_option maxHeartbeats 4000000
set_option maxRecDepth 20000
@[simp] theorem deS_S (b : ByteArray) : deS (Sx b) = b := rfl
def pI : X → Int
  | .pt [x] => deI x
  | _ => 0
@[simp] theorem pI_pt (x : X) : pI (.pt [x]) = deI x := rfl
def pC : X → Cfg
  | .pt l => deC (.agg l)
  | _ => deC .top
@[simp] theorem pC_pt (l : List X) : pC (.pt l) = deC (.agg l) := rfl
theorem pur2_optr (h : List Ob) (k ver i j : Nat) : purN h 2 (.optr k ver i j) = (match h[k]? with
    | some ob => if ob.ver = ver then .pt (((rowOf h k i).drop j).map (purN h 1)) else .top
    | none => .top) := rfl
@[simp] theorem pur2_int (h : List Ob) (k : IntKind) (n : Int) : purN h 2 (.v (.int k n)) = .v (.int k n) := rfl
@[simp] theorem pur2_str (h : List Ob) (b : ByteArray) : purN h 2 (.v (.string b)) = .v (.string b) := rfl
@[simp] theorem pur2_sl (h : List Ob) (r : List (List X)) : purN h 2 (.sl r) = .sl r := rfl
theorem pur1_int (h : List Ob) (k : IntKind) (n : Int) : purN h 1 (.v (.int k n)) = .v (.int k n) := rfl
theorem pur1_Sx (h : List Ob) (b : ByteArray) : purN h 1 (.v (.string b)) = .v (.string b) := rfl
theorem pur1_sl (h : List Ob) (r : List (List X)) : purN h 1 (.sl r) = .sl r := rfl
def cBx (c : Cfg) : Ob := ⟨25, 4, 0, [cX c], true, true, none⟩
attribute [simp] Sx
theorem okH_cBx (m : Nat) (c : Cfg) (h : List Ob) (hh : okH m h) : okH m (⟨25, 4, 0, [[.v (.string c.name), .sl (tR c.cls), .sl (tR c.fil), I c.dflt]], true, true, none⟩ :: h) := by
  simp [okH_cons, ok0, Sx, hh]
def cpId (c : List X) : Prop := c = [.pt [I (pI (c.getD 0 .top))]]
def prId (c : List X) (x : Cls) : Bool := decide (x.id = pI (c.getD 0 .top))
@[simp] theorem cpId_mk (id : Int) : cpId [.pt [I id]] := by simp [cpId]
@[simp] theorem prId_mk (id : Int) (x : Cls) : prId [.pt [I id]] x = decide (x.id = id) := by simp [prId]
theorem cpId_pu (c : List X) (h : cpId c) : c.all isP0 = true ∧ ∀ n, c.map (purN [] n) = c := by
  rw [cpId] at h; rw [h]; exact ⟨rfl, fun n => by cases n <;> rfl⟩
theorem fidx_idx (l : List Cls) (id : Int) : idxB (prId [.pt [I id]]) l = fidx l id := by
  unfold idxB fidx
  have : (prId [.pt [I id]]) = fun x : Cls => decide (x.id = id) := by funext x; simp
  rw [this]
  rfl
theorem c139 : GenCA K Tryz.prog 139 (FPr cpId prId) := by
  refine contractA Tryz.mix K [] [] (by simp) (by simp) Tryz.func139 rfl (by decide) ?_
  intro xs hxs
  obtain ⟨x, id, rfl⟩ : ∃ (x : Cls) (id : Int), xs = [.agg (rX x), .pt [I id]] := ⟨_, _, hxs.1.trans (congrArg (List.cons _) hxs.2)⟩
  have hres : (FPr cpId prId).res [.agg (rX x), .pt [I id]] = (B (decide (x.id = id)), []) := by simp [FPr]
  rw [hres]
  refine ⟨by rw [Tryz.ntmps139]; simp, ?_⟩
  simp -implicitDefEqProofs [Tryz.f139, List.lookup_cons, eS]
  refine fin_pure (by simp) ?_
  simp -implicitDefEqProofs [fS, rn0, pickObs, deI]
  rfl
def okC (c : Cfg) : Prop := c.cls.length ≤ 1048576 ∧ c.fil.length ≤ 1048576 ∧ c.name.size ≤ 1048576
def F129 : Fun := ⟨fun xs => xs = [.agg (cX (deC (xs.getD 0 .top) : Cfg)), I (deI (xs.getD 1 .top) : Int)] ∧ (fun (c : Cfg) (id : Int) => (okC c)) (deC (xs.getD 0 .top) : Cfg) (deI (xs.getD 1 .top) : Int), fun xs => (fun (c : Cfg) (id : Int) => ((I (fidx c.cls id), []) : X × List Ob)) (deC (xs.getD 0 .top) : Cfg) (deI (xs.getD 1 .top) : Int)⟩
theorem F129_in {xs : List X} (h : F129.pre xs) : ∃ (c : Cfg) (id : Int), xs = [.agg (cX c), I id] ∧ (okC c) := ⟨_, _, h.1, h.2⟩
theorem F129_res (c : Cfg) (id : Int) : F129.res [.agg (cX c), I id] = (I (fidx c.cls id), []) := by simp [F129]
theorem F129_mk (c : Cfg) (id : Int) (h : okC c) : F129.pre [.agg (cX c), I id] := by simpa [F129] using h
theorem c129 : GenCA K Tryz.prog 129 F129 := by
  refine contractA Tryz.mix K [(124, FIx 139 cpId prId)] [] (by simp [cIxCls 139 cpId prId cpId_pu c139]) (by simp) Tryz.func129 rfl (by decide) ?_
  intro xs hxs
  obtain ⟨c, id, rfl, hp⟩ := F129_in hxs
  rw [F129_res]
  refine ⟨by rw [Tryz.ntmps129]; simp, ?_⟩
  simp -implicitDefEqProofs [Tryz.f129, List.lookup_cons, eS, FIx, hp.1, fidx_idx, pur2_optr, pur1_int, rowOf]
  refine fin_pure (by simp) ?_
  simp -implicitDefEqProofs [fS, rn0, pickObs, deI]
def cpKid (c : List X) : Prop := c = [.pt (cX (pC (c.getD 0 .top))), .pt [I (pI (c.getD 1 .top))]] ∧ ∃ i : Nat, pI (c.getD 1 .top) = i ∧ i < (pC (c.getD 0 .top)).cls.length
def prKid (c : List X) (x : Cls) : Bool := decide (x.par = (atC (pC (c.getD 0 .top)).cls (pI (c.getD 1 .top)).toNat).id)
@[simp] theorem prKid_mk (c : Cfg) (i : Nat) (x : Cls) : prKid [.pt (cX c), .pt [I i]] x = decide (x.par = (atC c.cls i).id) := by simp [prKid]
theorem cpKid_mk (c : Cfg) (i : Nat) (h : i < c.cls.length) : cpKid [.pt (cX c), .pt [I i]] := by simpa [cpKid] using ⟨i, rfl, h⟩
theorem cpKid_pu (c : List X) (h : cpKid c) : c.all isP0 = true ∧ ∀ n, c.map (purN [] n) = c := by
  rw [h.1]; exact ⟨rfl, fun n => by cases n <;> rfl⟩
theorem c138 : GenCA K Tryz.prog 138 (FPr cpKid prKid) := by
  refine contractA Tryz.mix K [] [] (by simp) (by simp) Tryz.func138 rfl (by decide) ?_
  intro xs hxs
  obtain ⟨x, c, i, rfl, hi⟩ : ∃ (x : Cls) (c : Cfg) (i : Nat), xs = [.agg (rX x), .pt (cX c), .pt [I i]] ∧ i < c.cls.length := by
    obtain ⟨h1, h2, i, h3, h4⟩ := hxs
    exact ⟨_, _, i, h1.trans (congrArg (List.cons _) (h2.trans (by rw [h3]))), h4⟩
  have hres : (FPr cpKid prKid).res [.agg (rX x), .pt (cX c), .pt [I i]] = (B (decide (x.par = (atC c.cls i).id)), []) := by simp only [FPr, List.getD_cons_zero, List.tail_cons, prKid_mk, deA_agg, dec_rX]
  rw [hres]
  refine ⟨by rw [Tryz.ntmps138]; simp, ?_⟩
  simp -implicitDefEqProofs [Tryz.f138, List.lookup_cons, eS]
  refine drawP_all _ (by decide) ?_
  simp -implicitDefEqProofs [List.lookup_cons, eS, hi]
  refine fin_pure (by simp) ?_
  simp -implicitDefEqProofs [fS, rn0, pickObs, deI, atC_eq hi]
  rfl
def okI (c : Cfg) (i : Int) : Prop := okC c ∧ 0 ≤ i ∧ i < c.cls.length
def F127 : Fun := ⟨fun xs => xs = [.agg (cX (deC (xs.getD 0 .top) : Cfg)), I (deI (xs.getD 1 .top) : Int)] ∧ (fun (c : Cfg) (i : Int) => (okI c i)) (deC (xs.getD 0 .top) : Cfg) (deI (xs.getD 1 .top) : Int), fun xs => (fun (c : Cfg) (i : Int) => ((B (leafB c.cls i.toNat), []) : X × List Ob)) (deC (xs.getD 0 .top) : Cfg) (deI (xs.getD 1 .top) : Int)⟩
theorem F127_in {xs : List X} (h : F127.pre xs) : ∃ (c : Cfg) (i : Int), xs = [.agg (cX c), I i] ∧ (okI c i) := ⟨_, _, h.1, h.2⟩
theorem F127_res (c : Cfg) (i : Int) : F127.res [.agg (cX c), I i] = (B (leafB c.cls i.toNat), []) := by simp [F127]
theorem F127_mk (c : Cfg) (i : Int) (h : okI c i) : F127.pre [.agg (cX c), I i] := by simpa [F127] using h
theorem c127 : GenCA K Tryz.prog 127 F127 := by
  refine contractA Tryz.mix K [(97, FCt 138 cpKid prKid)] [] (by simp [cCtCls 138 cpKid prKid cpKid_pu c138]) (by simp) Tryz.func127 rfl (by decide) ?_
  intro xs hxs
  obtain ⟨c, i, rfl, hp⟩ := F127_in hxs
  rw [F127_res]
  refine ⟨by rw [Tryz.ntmps127]; simp, ?_⟩
  obtain ⟨i, rfl⟩ := Int.eq_ofNat_of_zero_le hp.2.1
  have hi : i < c.cls.length := by have := hp.2.2; omega
  have hk := cpKid_mk c i hi
  simp at hk
  have hl : (c.cls.any (prKid [.pt (cX c), .pt [I i]])) = !leafB c.cls i := by
    have : (prKid [.pt (cX c), .pt [I i]]) = fun x : Cls => decide (x.par = (atC c.cls i).id) := by funext x; exact prKid_mk c i x
    rw [this, leafB, Bool.not_not]
  simp only [cX] at hl
  simp -implicitDefEqProofs [Tryz.f127, List.lookup_cons, eS, FIx, FCt, hp.1.1, hk, hl, pur2_optr, pur1_int, pur1_Sx, pur1_sl, rowOf]
  refine fin_pure (by simp) ?_
  simp -implicitDefEqProofs [fS, rn0, pickObs, deI]
theorem kids_succ (l : List Cls) (i n : Nat) (h : n < l.length) : kids l i (n + 1) = kids l i n ++ (if l[n].par = (atC l i).id then [n] else []) := by
  unfold kids
  rw [List.range_succ, List.filter_append]
  by_cases h2 : l[n].par = (atC l i).id
  · simp [h2, atC_eq h]
  · simp [h2, atC_eq h]
theorem kids_len (l : List Cls) (i n : Nat) : (kids l i n).length ≤ n := by
  unfold kids
  exact Nat.le_trans (List.length_filter_le _ _) (by simp)
theorem kids_lt (l : List Cls) (i n : Nat) : ∀ k ∈ kids l i n, k < n := by
  intro k hk
  unfold kids at hk
  simpa using (List.mem_filter.1 hk).1
def nI (l : List Nat) : List Int := l.map fun k : Nat => (k : Int)
theorem nI_len (l : List Nat) : (nI l).length = l.length := by simp [nI]
def F137 : Fun := ⟨fun xs => xs = [.agg (cX (deC (xs.getD 0 .top) : Cfg)), I (deI (xs.getD 1 .top) : Int)] ∧ (fun (c : Cfg) (i : Int) => (okI c i)) (deC (xs.getD 0 .top) : Cfg) (deI (xs.getD 1 .top) : Int), fun xs => (fun (c : Cfg) (i : Int) => ((.osl 0 0, [iOb (nI (kids c.cls i.toNat c.cls.length))]) : X × List Ob)) (deC (xs.getD 0 .top) : Cfg) (deI (xs.getD 1 .top) : Int)⟩
theorem F137_in {xs : List X} (h : F137.pre xs) : ∃ (c : Cfg) (i : Int), xs = [.agg (cX c), I i] ∧ (okI c i) := ⟨_, _, h.1, h.2⟩
theorem F137_res (c : Cfg) (i : Int) : F137.res [.agg (cX c), I i] = (.osl 0 0, [iOb (nI (kids c.cls i.toNat c.cls.length))]) := by simp [F137]
theorem F137_mk (c : Cfg) (i : Int) (h : okI c i) : F137.pre [.agg (cX c), I i] := by simpa [F137] using h
theorem c137 : GenCA K Tryz.prog 137 F137 := by
  refine contractA Tryz.mix K [] [] (by simp) (by simp) Tryz.func137 rfl (by decide) ?_
  intro xs hxs
  obtain ⟨c, i, rfl, hp⟩ := F137_in hxs
  rw [F137_res]
  refine ⟨by rw [Tryz.ntmps137]; simp, ?_⟩
  obtain ⟨i, rfl⟩ := Int.eq_ofNat_of_zero_le hp.2.1
  have hi : i < c.cls.length := by have := hp.2.2; omega
  have hl := hp.1.1
  simp -implicitDefEqProofs [Tryz.f137, List.lookup_cons, eS, eBuildSlice, srcRows, srcOk, chunk]
  refine loopP_inv (fun k : Nat => ⟨32, tl [(1, I i), (2, .optr 0 0 0 0), (5, .osl 1 0), (10, .sl (tR c.cls)), (11, I c.cls.length), (12, I k)], [cBx c, iOb (nI (kids c.cls i k))]⟩) (fun k => k ≤ c.cls.length) (fun k => c.cls.length - k) 0 (Nat.zero_le _) (Wk.tl (by simp [hold, upd, tl_cons])) ?_
  intro k hk
  by_cases h : k < c.cls.length
  · have hw1 := w64n (show k < 4611686018427387904 by omega)
    have hS := kids_succ c.cls i k h
    have hln := kids_len c.cls i k
    rw [atC_eq hi] at hS
    simp -implicitDefEqProofs [List.lookup_cons, eS, h, cBx, iOb, eAppend, eBuildSlice, srcRows, srcOk, chunk]
    refine drawP_all _ (by decide) ?_
    by_cases he : c.cls[k].par = c.cls[i].id
    · rw [if_pos he] at hS
      simp -implicitDefEqProofs [List.lookup_cons, eS, h, hi, he, cBx, iOb, eAppend, eBuildSlice, srcRows, srcOk, chunk]
      have hln2 := nI_len (kids c.cls i k)
      refine ⟨by omega, by omega, k + 1, by omega, by omega, ?_⟩
      have hN : iR (nI (kids c.cls i k)) ++ [[I (k : Int)]] = iR (nI (kids c.cls i (k + 1))) := by rw [hS]; simp [nI, ← iR_append, iR_cons, iR_nil]
      rw [hN]
      refine Wk.tlP [0, 1] (by simp [pickOk, -List.all_eq_true, iR_ok, ok0, Sx]) ?_ ?_
      · simp [pickObs, Sx]
      · simp [hold, upd, tl_cons, rn1, rn0, hw1]
        exact ⟨rfl, rfl⟩
    · rw [if_neg he, List.append_nil] at hS
      simp -implicitDefEqProofs [List.lookup_cons, eS, h, hi, he, cBx, iOb, eAppend, eBuildSlice, srcRows, srcOk, chunk]
      refine ⟨k + 1, by omega, by omega, ?_⟩
      rw [hS]
      exact Wk.tlD (m := 2) rfl (by simp [hold, upd, tl_cons, hw1]) (by simp [okL_cons, okL_nil, ok1, ok0]) (okH_cBx _ _ _ (okH_iR _ _ _ _ _ _ _ _ _ (by simp [okH_nil])))
  · have e : k = c.cls.length := by omega
    subst e
    simp -implicitDefEqProofs [List.lookup_cons, eS, iOb, cBx]
    refine fin_own [1] (by simp [pickOk, -List.all_eq_true, iR_ok]) ?_
    simp -implicitDefEqProofs [fS, rn0, pickObs, deI, iOb]
end Go.Proofs
