/-
  What is said here: the flat text of a configuration, as a function. Condition: none.
-/
import Derived.Test.YtbiakbagcdghlaaDoorG1v
namespace Go.Proofs
open Go.Abs
set_option linter.unusedSimpArgs false
set_option linter.unnecessarySimpa false
set_option linter.unusedVariables false
set_option maxHeartbeats 8000000
set_option maxRecDepth 20000

def nlB : ByteArray := ⟨#[10]⟩
def hdT (c : Cfg) : ByteArray := ⟨#[99, 111, 110, 102, 105, 103, 32]⟩ ++ c.name ++ ⟨#[10, 100, 101, 102, 97, 117, 108, 116, 32]⟩ ++ numB c.dflt.toNat ++ ⟨#[10]⟩
def cT : List Cls → ByteArray
  | [] => emB
  | x :: l => (lineC x ++ nlB) ++ cT l
def fT : List Fil → ByteArray
  | [] => emB
  | x :: l => (lineF x ++ nlB) ++ fT l
theorem em_r (a : ByteArray) : a ++ emB = a := by apply ba_ext; simp [ByteArray.data_append, emB]
theorem em_l (a : ByteArray) : emB ++ a = a := by apply ba_ext; simp [ByteArray.data_append, emB]
theorem cT_snoc (l : List Cls) (x : Cls) : cT (l ++ [x]) = cT l ++ (lineC x ++ nlB) := by
  induction l with
  | nil => simp [cT, em_l, em_r]
  | cons y l ih => simp only [List.cons_append, cT, ih, ba_assoc]
theorem fT_snoc (l : List Fil) (x : Fil) : fT (l ++ [x]) = fT l ++ (lineF x ++ nlB) := by
  induction l with
  | nil => simp [fT, em_l, em_r]
  | cons y l ih => simp only [List.cons_append, fT, ih, ba_assoc]
theorem lineC_size {x : Cls} (h : okN x = true) : (lineC x).size ≤ 1000 := by
  have := flat_size (txts x) rfl (txts_size h)
  rw [flat_eq (txts x) rfl] at this
  exact this
theorem lineF_size {x : Fil} (h : okF x = true) : (lineF x).size ≤ 1000000 := by
  have := flat_sizeF (fTx x) rfl (fun t ht => by have := fTx_size (okF_s h) t ht; omega)
  rw [flat_eqF (fTx x) rfl] at this
  exact this
theorem nl_size : nlB.size = 1 := rfl
theorem cT_size : ∀ (l : List Cls), (∀ x ∈ l, okN x = true) → (cT l).size ≤ 1001 * l.length
  | [], _ => by simp [cT, emB, ByteArray.size]
  | x :: l, h => by
    have h1 := lineC_size (h x List.mem_cons_self)
    have h2 := cT_size l fun y hy => h y (List.mem_cons_of_mem _ hy)
    simp only [cT, ba_sz, nl_size, List.length_cons]
    omega
theorem fT_size : ∀ (l : List Fil), (∀ x ∈ l, okF x = true) → (fT l).size ≤ 1000001 * l.length
  | [], _ => by simp [fT, emB, ByteArray.size]
  | x :: l, h => by
    have h1 := lineF_size (h x List.mem_cons_self)
    have h2 := fT_size l fun y hy => h y (List.mem_cons_of_mem _ hy)
    simp only [fT, ba_sz, nl_size, List.length_cons]
    omega
def txT (c : Cfg) : ByteArray := hdT c ++ cT c.cls ++ fT c.fil
def ftOk (c : Cfg) : Bool := stOk c && c.fil.all okF
def ftR (c : Cfg) : X := if ftOk c = true then .tup [.v (.string (txT c)), B true] else .tup [.v (.string emB), B false]
theorem stOk_s {c : Cfg} (h : stOk c = true) : c.cls.length ≤ 24 ∧ c.fil.length ≤ 16 ∧ (0 ≤ c.dflt ∧ c.dflt ≤ 1000000000) ∧ ∀ x ∈ c.cls, okN x = true := by
  simp only [stOk, rng, Bool.and_eq_true, decide_eq_true_eq, List.all_eq_true] at h
  exact ⟨h.1.1.1.1.2, h.1.1.1.2, h.1.1.2, h.1.2⟩
theorem hdT_size {c : Cfg} (hn : c.name.size ≤ 1048576) (h : 0 ≤ c.dflt ∧ c.dflt ≤ 1000000000) : (hdT c).size ≤ 1050000 := by
  have := numB_size c.dflt.toNat (by omega)
  unfold hdT
  simp only [ba_sz, show (ByteArray.mk #[99, 111, 110, 102, 105, 103, 32]).size = 7 from rfl, show (ByteArray.mk #[10, 100, 101, 102, 97, 117, 108, 116, 32]).size = 9 from rfl, show (ByteArray.mk #[10]).size = 1 from rfl]
  omega
end Go.Proofs
