/-
  What is proved here: contracts of the functions by which a configuration is judged (places, children, ways). Condition: none.
-/
import Derived.Test.YtecpfgnkiifnpaaDoorC1l
namespace Go.Proofs
open Go.Abs
set_option linter.unusedSimpArgs false
set_option linter.unnecessarySimpa false
set_option linter.unusedVariables false
set_option maxHeartbeats 4000000
set_option maxRecDepth 20000
@[simp] theorem deS_S (b : ByteArray) : deS (Sx b) = b := rfl
def pI : X → Int
  | .pt [x] => deI x
  | _ => 0
@[simp] theorem pI_pt (x : X) : pI (.pt [x]) = deI x := rfl
def pC : X → Cfg
  | .pt l => deC (.agg l)
  | _ => deC .top
@[simp] theorem pC_pt (l : List X) : pC (.pt l) = deC (.agg l) := rfl
theorem pur2_optr (h : List Ob) (k ver i j : Nat) : purN h 2 (.optr k ver i j) = (match h[k]? with
    | some ob => if ob.ver = ver then .pt (((rowOf h k i).drop j).map (purN h 1)) else .top
    | none => .top) := rfl
@[simp] theorem pur2_int (h : List Ob) (k : IntKind) (n : Int) : purN h 2 (.v (.int k n)) = .v (.int k n) := rfl
@[simp] theorem pur2_str (h : List Ob) (b : ByteArray) : purN h 2 (.v (.string b)) = .v (.string b) := rfl
@[simp] theorem pur2_sl (h : List Ob) (r : List (List X)) : purN h 2 (.sl r) = .sl r := rfl
theorem pur1_int (h : List Ob) (k : IntKind) (n : Int) : purN h 1 (.v (.int k n)) = .v (.int k n) := rfl
theorem pur1_Sx (h : List Ob) (b : ByteArray) : purN h 1 (.v (.string b)) = .v (.string b) := rfl
theorem pur1_sl (h : List Ob) (r : List (List X)) : purN h 1 (.sl r) = .sl r := rfl
def cBx (c : Cfg) : Ob := ⟨34, 4, 0, [cX c], true, true, none⟩
attribute [simp] Sx
theorem okH_cBx (m : Nat) (c : Cfg) (h : List Ob) (hh : okH m h) : okH m (⟨34, 4, 0, [[.v (.string c.name), .sl (tR c.cls), .sl (tR c.fil), I c.dflt]], true, true, none⟩ :: h) := by
  simp [okH_cons, ok0, Sx, hh]
def cpId (c : List X) : Prop := c = [.pt [I (pI (c.getD 0 .top))]]
def prId (c : List X) (x : Cls) : Bool := decide (x.id = pI (c.getD 0 .top))
@[simp] theorem cpId_mk (id : Int) : cpId [.pt [I id]] := by simp [cpId]
@[simp] theorem prId_mk (id : Int) (x : Cls) : prId [.pt [I id]] x = decide (x.id = id) := by simp [prId]
theorem cpId_pu (c : List X) (h : cpId c) : c.all isP0 = true ∧ ∀ n, c.map (purN [] n) = c := by
  rw [cpId] at h; rw [h]; exact ⟨rfl, fun n => by cases n <;> rfl⟩
theorem fidx_idx (l : List Cls) (id : Int) : idxB (prId [.pt [I id]]) l = fidx l id := by
  unfold idxB fidx
  have : (prId [.pt [I id]]) = fun x : Cls => decide (x.id = id) := by funext x; simp
  rw [this]
  rfl
def okC (c : Cfg) : Prop := c.cls.length ≤ 1048576 ∧ c.fil.length ≤ 1048576 ∧ c.name.size ≤ 1048576
def cpKid (c : List X) : Prop := c = [.pt (cX (pC (c.getD 0 .top))), .pt [I (pI (c.getD 1 .top))]] ∧ ∃ i : Nat, pI (c.getD 1 .top) = i ∧ i < (pC (c.getD 0 .top)).cls.length
def prKid (c : List X) (x : Cls) : Bool := decide (x.par = (atC (pC (c.getD 0 .top)).cls (pI (c.getD 1 .top)).toNat).id)
@[simp] theorem prKid_mk (c : Cfg) (i : Nat) (x : Cls) : prKid [.pt (cX c), .pt [I i]] x = decide (x.par = (atC c.cls i).id) := by simp [prKid]
theorem cpKid_mk (c : Cfg) (i : Nat) (h : i < c.cls.length) : cpKid [.pt (cX c), .pt [I i]] := by simpa [cpKid] using ⟨i, rfl, h⟩
theorem cpKid_pu (c : List X) (h : cpKid c) : c.all isP0 = true ∧ ∀ n, c.map (purN [] n) = c := by
  rw [h.1]; exact ⟨rfl, fun n => by cases n <;> rfl⟩
def okI (c : Cfg) (i : Int) : Prop := okC c ∧ 0 ≤ i ∧ i < c.cls.length
theorem kids_succ (l : List Cls) (i n : Nat) (h : n < l.length) : kids l i (n + 1) = kids l i n ++ (if l[n].par = (atC l i).id then [n] else []) := by
  unfold kids
  rw [List.range_succ, List.filter_append]
  by_cases h2 : l[n].par = (atC l i).id
  · simp [h2, atC_eq h]
  · simp [h2, atC_eq h]
theorem kids_len (l : List Cls) (i n : Nat) : (kids l i n).length ≤ n := by
  unfold kids
  exact Nat.le_trans (List.length_filter_le _ _) (by simp)
theorem kids_lt (l : List Cls) (i n : Nat) : ∀ k ∈ kids l i n, k < n := by
  intro k hk
  unfold kids at hk
  simpa using (List.mem_filter.1 hk).1
def nI (l : List Nat) : List Int := l.map fun k : Nat => (k : Int)
theorem nI_len (l : List Nat) : (nI l).length = l.length := by simp [nI]
end Go.Proofs
