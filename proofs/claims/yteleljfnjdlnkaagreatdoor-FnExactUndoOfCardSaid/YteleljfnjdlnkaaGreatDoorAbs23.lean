/-
  What is proved here: rows of values of one type, as data of that type, for simp. Condition: none.
-/
import Derived.Test.YteleljfnjdlnkaaGreatDoorAbsD
set_option linter.unnecessarySimpa false
namespace Go.Abs
open Go.RowKit
set_option linter.unusedSimpArgs false
set_option linter.unusedVariables false

def flatV : Value → Bool
  | .bool _ | .int _ _ | .string _ => true
  | _ => false
class Rw (α : Type) where
  n : Nat
  enc : α → List Value
  dec : List X → α
  len : ∀ a, (enc a).length = n
  flat : ∀ a, (enc a).all flatV = true
  de : ∀ a, dec ((enc a).map X.v) = a

section
variable {α : Type} [Rw α]
def rX (a : α) : List X := (Rw.enc a).map X.v
def tR (l : List α) : List (List X) := l.map rX
def deA : X → α
  | .agg l => Rw.dec l
  | _ => Rw.dec []
def deT : X → List α
  | .sl rows => rows.map Rw.dec
  | _ => []
theorem deA_agg (l : List X) : (deA (.agg l) : α) = Rw.dec l := rfl
theorem dec_rX (a : α) : Rw.dec (rX a) = a := Rw.de a
theorem deT_tR (l : List α) : deT (.sl (tR l)) = l := by
  simp only [deT, tR, List.map_map]
  conv => rhs; rw [← List.map_id l]
  exact List.map_congr_left fun a _ => Rw.de a
theorem tR_length (l : List α) : (tR l).length = l.length := by simp [tR]
theorem tR_get (l : List α) (i : Nat) : (tR l)[i]? = (l[i]?).map rX := by simp [tR]
theorem tR_getE (l : List α) (i : Nat) (h : i < (tR l).length) : (tR l)[i] = rX (l[i]'(by rw [← tR_length]; exact h)) := by simp [tR]
theorem tR_set (l : List α) (i : Nat) (c : α) : (tR l).set i (rX c) = tR (l.set i c) := by simp [tR, List.map_set]
theorem tR_append (l m : List α) : tR l ++ tR m = tR (l ++ m) := by simp [tR]
theorem tR_one (a : α) : [rX a] = tR [a] := rfl
theorem tR_nil : tR ([] : List α) = [] := rfl
theorem tR_eq_nil (l : List α) : (tR l = []) = (l = []) := by simp [tR]
theorem tR_take (l : List α) (k : Nat) : (tR l).take k = tR (l.take k) := by simp [tR]
theorem tR_drop (l : List α) (k : Nat) : (tR l).drop k = tR (l.drop k) := by simp [tR]
theorem tR_replicate (k : Nat) (a : α) : List.replicate k (rX a) = tR (List.replicate k a) := by simp [tR]
theorem rX_inj {a b : α} (h : rX a = rX b) : a = b := by rw [← dec_rX a, h, dec_rX]
theorem tR_inj (l m : List α) : (tR l = tR m) = (l = m) := by
  refine propext ⟨fun h => ?_, fun h => by rw [h]⟩
  exact (List.map_inj_right (fun _ _ h => rX_inj h)).1 h
theorem rX_mem {a : α} {x : X} (h : x ∈ rX a) : ∃ v, x = .v v ∧ flatV v = true := by
  simp only [rX, List.mem_map] at h
  obtain ⟨v, hv, rfl⟩ := h
  exact ⟨v, rfl, List.all_eq_true.1 (Rw.flat a) v hv⟩
theorem rX_map {a : α} {f : X → X} (hf : ∀ v, flatV v = true → f (.v v) = .v v) : (rX a).map f = rX a := by
  conv => rhs; rw [← List.map_id (rX a)]
  exact List.map_congr_left fun x hx => by obtain ⟨v, rfl, hv⟩ := rX_mem hx; exact hf v hv
theorem tR_map {l : List α} {f : X → X} (hf : ∀ v, flatV v = true → f (.v v) = .v v) : (tR l).map (fun r => r.map f) = tR l := by
  simp only [tR, List.map_map]
  exact List.map_congr_left fun a _ => rX_map hf
theorem flat_pur (h : List Ob) (n : Nat) (v : Value) (hv : flatV v = true) : purN h n (.v v) = .v v := by
  cases v <;> simp [flatV] at hv <;> cases n <;> rfl
theorem tR_pur (h : List Ob) (n : Nat) (l : List α) : (tR l).map (fun r => r.map (purN h n)) = tR l := tR_map (flat_pur h n)
theorem tR_sh (n : Nat) (l : List α) : (tR l).map (fun r => r.map (sh0 n)) = tR l := tR_map fun v _ => rfl
theorem tR_rb (h : List Ob) (ks : List Nat) (l : List α) : rbR h ks (tR l) = tR l := tR_map fun v _ => rfl
theorem tR_all (l : List α) (p : X → Bool) (hp : ∀ v, p (.v v) = true) : (tR l).all (fun r => r.all p) = true := by
  rw [List.all_eq_true]
  intro r hr
  simp only [tR, List.mem_map] at hr
  obtain ⟨a, _, rfl⟩ := hr
  rw [List.all_eq_true]
  intro x hx
  obtain ⟨v, rfl, _⟩ := rX_mem hx
  exact hp v
theorem tR_ok (l : List α) (m : Nat) : (tR l).all (fun r => r.all (ok0 m)) = true := tR_all l _ fun _ => rfl
theorem tR_mf (l : List α) : (tR l).all (fun r => r.all mf0) = true := tR_all l _ fun _ => rfl
theorem rX_len (a : α) : (rX a).length = Rw.n α := by simp [rX, Rw.len]
theorem tR_rows {n : Nat} (hn : Rw.n α = n) (l : List α) : ∀ r ∈ tR l, r.length = n := by
  intro r hr
  simp only [tR, List.mem_map] at hr
  obtain ⟨a, _, rfl⟩ := hr
  rw [rX_len, hn]
theorem okH_tR (m ty sz ver : Nat) (l : List α) (bx live : Bool) (mp : Option (List (Int × Value))) (h : List Ob) (hh : okH m h) : okH m (⟨ty, sz, ver, tR l, bx, live, mp⟩ :: h) := by
  rw [okH_cons]
  refine ⟨fun r hr x hx => ?_, hh⟩
  have := tR_ok l m
  rw [List.all_eq_true] at this
  exact List.all_eq_true.1 (this r hr) x hx
end
theorem okH_iR (m ty sz ver : Nat) (l : List Int) (bx live : Bool) (mp : Option (List (Int × Value))) (h : List Ob) (hh : okH m h) : okH m (⟨ty, sz, ver, iR l, bx, live, mp⟩ :: h) := by
  rw [okH_cons]
  refine ⟨fun r hr x hx => ?_, hh⟩
  have := iR_ok l m
  rw [List.all_eq_true] at this
  exact List.all_eq_true.1 (this r hr) x hx
theorem okH_sR (m ty sz ver : Nat) (l : List ByteArray) (bx live : Bool) (mp : Option (List (Int × Value))) (h : List Ob) (hh : okH m h) : okH m (⟨ty, sz, ver, sR l, bx, live, mp⟩ :: h) := by
  rw [okH_cons]
  refine ⟨fun r hr x hx => ?_, hh⟩
  have := sR_ok l m
  rw [List.all_eq_true] at this
  exact List.all_eq_true.1 (this r hr) x hx
theorem okH_em (m ty sz ver : Nat) (bx live : Bool) (mp : Option (List (Int × Value))) (h : List Ob) (hh : okH m h) : okH m (⟨ty, sz, ver, [], bx, live, mp⟩ :: h) := by
  rw [okH_cons]
  exact ⟨fun r hr => by simp at hr, hh⟩
def tOb {α : Type} [Rw α] (ty n : Nat) (l : List α) : Ob := ⟨ty, n, 0, tR l, false, true, none⟩
theorem fillT {α : Type} (z : α) (l : List α) (k : Nat) (h : k < l.length) : (l.take k ++ List.replicate (l.length - k) z).set k l[k] = l.take (k + 1) ++ List.replicate (l.length - (k + 1)) z := by
  have e : l.length - k = (l.length - (k + 1)) + 1 := by omega
  rw [e, List.replicate_succ, List.set_append_right _ _ (by simp; omega)]
  have : k - (l.take k).length = 0 := by simp; omega
  rw [this, List.take_succ_eq_append_getElem h, List.set_cons_zero, List.append_assoc]
  rfl
@[simp] theorem pur2_agg (h : List Ob) (cs : List X) : pur2 h (.agg cs) = .agg (cs.map (purN h 2)) := rfl
@[simp] theorem pu_pre (F : Fun) : F.pu.pre = F.pre := rfl
@[simp] theorem pu_res (F : Fun) (xs : List X) : F.pu.res xs = (pur2 (F.res xs).2 (F.res xs).1, []) := rfl
@[simp] theorem pur2_osl (h : List Ob) (k ver : Nat) : pur2 h (.osl k ver) = purN h 3 (.osl k ver) := rfl
theorem rn2_I (h : List Ob) (ks : List Nat) (n : Int) : rn2 h ks (I n) = I n := rfl
theorem rn2_B (h : List Ob) (ks : List Nat) (b : Bool) : rn2 h ks (B b) = B b := rfl
def deU : X → Int
  | .v (.int _ n) => n
  | _ => 0
theorem deU_v (k : IntKind) (n : Int) : deU (.v (.int k n)) = n := rfl
def deB : X → Bool
  | .v (.bool b) => b
  | _ => false
theorem deB_v (b : Bool) : deB (.v (.bool b)) = b := rfl
theorem takeS {α : Type} (l : List α) (k : Nat) (h : k < l.length) : l.take (k + 1) = l.take k ++ [l[k]] := by rw [List.take_succ_eq_append_getElem h]
theorem w64n {k : Nat} (h : k < 4611686018427387904) : IntKind.i64.wrap ((k : Int) + 1) = (k : Int) + 1 := w64 (by omega) (by omega)
attribute [simp] deA_agg dec_rX deT_tR tR_length tR_get tR_getE tR_inj tR_pur tR_sh tR_rb tR_ok tR_mf tR_append tR_eq_nil deU_v deB_v deS_Sx deSs_sl
/-- lists of numbers whose order is kept -/
def rng (lo hi x : Int) : Bool := decide (lo ≤ x) && decide (x ≤ hi)
end Go.Abs
