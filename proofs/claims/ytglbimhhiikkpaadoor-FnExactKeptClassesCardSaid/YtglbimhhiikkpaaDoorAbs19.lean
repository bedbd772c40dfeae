/-
  What is proved here: equations on strings and rows of strings, for simp. Condition: none.
-/
import Derived.Test.YtglbimhhiikkpaaDoorAbs18
namespace Go.Abs
open Go.RowKit

def Sx (b : ByteArray) : X := .v (.string b)
def sR (l : List ByteArray) : List (List X) := l.map fun b => [.v (.string b)]
def deS : X → ByteArray
  | .v (.string b) => b
  | _ => ⟨#[]⟩
def deSs : X → List ByteArray
  | .sl rows => rows.map fun r => deS (r.headD .top)
  | _ => []
theorem deS_Sx (b : ByteArray) : deS (.v (.string b)) = b := rfl
theorem deSs_sl (l : List ByteArray) : deSs (.sl (sR l)) = l := by simp [deSs, sR, deS, Function.comp_def]
theorem sR_length (l : List ByteArray) : (sR l).length = l.length := by simp [sR]
theorem sR_get (l : List ByteArray) (k : Nat) : (sR l)[k]? = (l[k]?).map fun b => [.v (.string b)] := by simp [sR]
theorem sR_getE (l : List ByteArray) (k : Nat) (h : k < (sR l).length) : (sR l)[k] = [.v (.string (l[k]'(by rw [← sR_length]; exact h)))] := by simp [sR]
theorem sR_inj (l m : List ByteArray) : (sR l = sR m) = (l = m) := by
  refine propext ⟨fun h => ?_, fun h => by rw [h]⟩
  have h1 := congrArg (fun r => deSs (.sl r)) h
  simpa only [deSs_sl] using h1
theorem sR_pur (h : List Ob) (n : Nat) (l : List ByteArray) : (sR l).map (fun r => r.map (purN h n)) = sR l := by
  simp only [sR, List.map_map]
  refine List.map_congr_left fun b _ => ?_
  cases n <;> rfl
theorem sR_ok (l : List ByteArray) (m : Nat) : (sR l).all (fun r => r.all (ok0 m)) = true := by simp [sR, ok0]
theorem sR_mf (l : List ByteArray) : (sR l).all (fun r => r.all mf0) = true := by simp [sR, mf0]
theorem sR_sh (n : Nat) (l : List ByteArray) : (sR l).map (fun r => r.map (sh0 n)) = sR l := by simp [sR, sh0]
def byt (s : ByteArray) (k : Nat) : Int := ((s.data.toList.getD k 0).toNat : Int)
theorem ei_str {P : Program} {s : St} {T : Nat} (b : ByteArray) (k : IntKind) (n : Int) : eIndex P s T (.v (.string b)) (.v (.int k n)) = ⟨isStr P T = true ∧ 0 ≤ n ∧ n.toNat < b.size, .v (.int .u8 (byt b n.toNat)), s.h⟩ := rfl
theorem ei_ag {P : Program} {s : St} {T : Nat} (cells : List X) (k : IntKind) (n : Int) (l e : Nat) (h : arEl P T = some (l, e)) : eIndex P s T (.agg cells) (.v (.int k n)) = ⟨okT P e = true ∧ 0 ≤ n ∧ n.toNat < l ∧ n.toNat * szOf P e + need P e ≤ cells.length, ldX (isAg P e) (szOf P e) (cells.drop (n.toNat * szOf P e)), s.h⟩ := by simp [eIndex, h]
theorem bin_and {P : Program} {s : St} {T : Nat} (k : IntKind) (a b : Int) : eBin P s .and T (.v (.int k a)) (.v (.int k b)) = ⟨True, .v (.int k (k.wrap (BitVec.ofInt k.bits a &&& BitVec.ofInt k.bits b).toNat)), s.h⟩ := by simp [eBin, binC, binV]
theorem bin_andNot {P : Program} {s : St} {T : Nat} (k : IntKind) (a b : Int) : eBin P s .andNot T (.v (.int k a)) (.v (.int k b)) = ⟨True, .v (.int k (k.wrap (BitVec.ofInt k.bits a &&& ~~~BitVec.ofInt k.bits b).toNat)), s.h⟩ := by simp [eBin, binC, binV]
theorem pur_agg (h : List Ob) (cs : List X) : purN h 3 (.agg cs) = .agg (cs.map (purN h 2)) := rfl
theorem pur2_v (h : List Ob) (y : Value) : purN h 2 (.v y) = purV y := rfl
theorem p2_I (h : List Ob) (n : Int) : purN h 2 (I n) = I n := rfl
theorem p2_B (h : List Ob) (b : Bool) : purN h 2 (B b) = B b := rfl
theorem p2_int (h : List Ob) (k : IntKind) (n : Int) : purN h 2 (.v (.int k n)) = .v (.int k n) := rfl
theorem p2_str (h : List Ob) (b : ByteArray) : purN h 2 (.v (.string b)) = .v (.string b) := rfl
theorem p2_bool (h : List Ob) (b : Bool) : purN h 2 (.v (.bool b)) = .v (.bool b) := rfl
theorem purV_int (k : IntKind) (n : Int) : purV (.int k n) = .v (.int k n) := rfl
theorem purV_str (b : ByteArray) : purV (.string b) = .v (.string b) := rfl
theorem purV_bool (b : Bool) : purV (.bool b) = .v (.bool b) := rfl
end Go.Abs
