/-
  What is proved here: contracts of both EventsText and of the law. Condition: none.
-/
import Derived.Test.YtecpfgnkiifnpaaDoorTxC
import Derived.Test.YtecpfgnkiifnpaaDoorE1n
namespace Go.Proofs
open Go.Abs
set_option linter.unusedSimpArgs false
set_option linter.unnecessarySimpa false
set_option linter.unusedVariables false
set_option maxHeartbeats 8000000
set_option maxRecDepth 20000
def ens : List ByteArray := [⟨#[]⟩, ⟨#[105, 110]⟩, ⟨#[102, 117, 108, 108]⟩, ⟨#[108, 111, 115, 116]⟩, ⟨#[111, 117, 116]⟩]
def enX : List X := ens.map fun b => .v (.string b)
def K2 : List (Nat × List X) := [(0, enX), (7, powX)]
theorem hK2 : ∀ p ∈ K, p ∈ K2 := by
  intro p hp
  unfold K at hp
  rw [List.mem_singleton] at hp
  subst hp
  exact List.mem_cons_of_mem _ List.mem_cons_self
/-! ### several numbers with blanks between -/
def spJ : List ByteArray → ByteArray := fun l => joinB l spB
def F63 : Fun := ⟨fun xs => xs = [.sl (iR (deIs (xs.getD 0 .top) : List Int))] ∧ (fun (l : List Int) => (l.length ≤ 8 ∧ (∀ n ∈ l, 0 ≤ n ∧ n ≤ 1000000000))) (deIs (xs.getD 0 .top) : List Int), fun xs => (fun (l : List Int) => ((.v (.string (joinB (l.map fun n => decB n.toNat) spB)), []) : X × List Ob)) (deIs (xs.getD 0 .top) : List Int)⟩
theorem F63_in {xs : List X} (h : F63.pre xs) : ∃ (l : List Int), xs = [.sl (iR l)] ∧ (l.length ≤ 8 ∧ (∀ n ∈ l, 0 ≤ n ∧ n ≤ 1000000000)) := ⟨_, h.1, h.2⟩
theorem F63_res (l : List Int) : F63.res [.sl (iR l)] = (.v (.string (joinB (l.map fun n => decB n.toNat) spB)), []) := by simp [F63]
theorem F63_mk (l : List Int) (h : l.length ≤ 8 ∧ (∀ n ∈ l, 0 ≤ n ∧ n ≤ 1000000000)) : F63.pre [.sl (iR l)] := by simpa [F63] using h
theorem join_size : ∀ (l : List ByteArray), (∀ t ∈ l, t.size ≤ 64) → (joinB l spB).size ≤ 65 * l.length
  | [], _ => by simp [joinB, Lib.join_nil, ByteArray.size]
  | [x], h => by rw [join_one']; have := h x (by simp); simp; omega
  | x :: y :: l, h => by
    rw [join_sp, ByteArray.size_append, ByteArray.size_append]
    have h1 := h x (by simp)
    have h2 := join_size (y :: l) fun t ht => h t (List.mem_cons_of_mem _ ht)
    have h3 : spB.size = 1 := rfl
    simp only [List.length_cons] at h2 ⊢
    omega
theorem c63 : GenCA K Tryd.prog 63 F63 := by
  refine contractA Tryd.mix K [(62, F62), (86, F86)] [] (by simp [c62, c86]) (by simp) Tryd.func63 rfl (by decide) ?_
  intro xs hxs
  obtain ⟨l, rfl, hp⟩ := F63_in hxs
  rw [F63_res]
  refine ⟨by rw [Tryd.ntmps63]; simp, ?_⟩
  obtain ⟨h8, hr⟩ := hp
  have hts : ∀ t ∈ l.map (fun n => decB n.toNat), t.size ≤ 64 := by
    intro t ht
    obtain ⟨n, hn, rfl⟩ := List.mem_map.1 ht
    have := hr n hn
    have := decB_size n.toNat (by omega)
    omega
  have hj := join_size _ hts
  have hj' : (joinB (l.map fun n => decB n.toNat) spB).size ≤ 140737488355328 := by
    have e : (l.map fun n : Int => decB n.toNat).length = l.length := by simp
    omega
  simp -implicitDefEqProofs [Tryd.f63, List.lookup_cons, eS, eMake]
  refine ⟨by omega, by omega, ?_⟩
  refine loopP_inv (fun k : Nat => ⟨23, tl [(3, .osl 0 0), (9, .sl (iR l)), (10, I l.length), (11, I k)], [strOb ((l.map fun n => decB n.toNat).take k)]⟩) (fun k => k ≤ l.length) (fun k => l.length - k) 0 (Nat.zero_le _) ?_ ?_
  · exact Wk.tl (by simp [hold, upd, tl_cons])
  intro k hk
  by_cases h : k < l.length
  · have hw1 := w64n (show k < 4611686018427387904 by omega)
    have hrk := hr l[k] (List.getElem_mem h)
    have hrk2 : l[k] ≤ 9223372036854775807 := by omega
    have hT : (l.map fun n => decB n.toNat).take (k + 1) = (l.map fun n => decB n.toNat).take k ++ [decB l[k].toNat] := by rw [takeS _ k (by simpa using h)]; simp
    simp -implicitDefEqProofs [List.lookup_cons, eS, h, strOb, F62, hrk, hrk2, eAppend, eBuildSlice, srcRows, srcOk, chunk]
    refine ⟨by omega, by omega, k + 1, by omega, by omega, ?_⟩
    rw [sR_snoc, ← hT]
    refine Wk.tlP [0] (by simp [pickOk, -List.all_eq_true, sR_ok, ok0]) ?_ ?_
    · simp [pickObs]
    · simp [hold, upd, tl_cons, rn1, rn0, hw1]
  · have e : k = l.length := by omega
    subst e
    rw [show (l.map fun n => decB n.toNat).take l.length = l.map fun n => decB n.toNat from List.take_of_length_le (by simp)]
    have h9 : l.length ≤ 1048576 := by omega
    unfold spB at hj' ⊢
    simp -implicitDefEqProofs [List.lookup_cons, eS, strOb, F86, h9, hj']
    refine fin_pure (by simp) ?_
    simp -implicitDefEqProofs [fS, rn0, pickObs, deI]
/-! ### the text of an event -/
def evB (e : Evt) : ByteArray := decB e.tick.toNat ++ spB ++ ens.getD e.kind.toNat emB ++ spB ++ (decB e.cls.toNat ++ spB ++ decB e.pkt.toNat ++ spB ++ decB e.size.toNat) ++ ⟨#[10]⟩
def evsB : List Evt → ByteArray
  | [] => emB
  | e :: l => evB e ++ evsB l
theorem ba_nil_r (a : ByteArray) : a ++ emB = a := by apply ba_ext; simp [ByteArray.data_append, emB]
theorem ba_nil_l (a : ByteArray) : emB ++ a = a := by apply ba_ext; simp [ByteArray.data_append, emB]
theorem evsB_snoc (l : List Evt) (e : Evt) : evsB (l ++ [e]) = evsB l ++ evB e := by
  induction l with
  | nil => simp [evsB, ba_nil_l, ba_nil_r]
  | cons x l ih => simp only [List.cons_append, evsB, ih, ba_assoc]
def okEv (e : Evt) : Prop := 0 ≤ e.tick ∧ e.tick ≤ 1000000 ∧ 1 ≤ e.kind ∧ e.kind ≤ 4 ∧ 0 ≤ e.cls ∧ e.cls ≤ 999 ∧ 1 ≤ e.pkt ∧ e.pkt ≤ 100000 ∧ 1 ≤ e.size ∧ e.size ≤ 1500
theorem okEv_of {e : Evt} (h : e.ok = true) : okEv e := by
  rw [Evt.ok_iff] at h
  obtain ⟨a, b, c, d, e1, f, g, i, j⟩ := h
  unfold okEv
  split at j <;> omega
theorem ens_size (k : Nat) : (ens.getD k emB).size ≤ 4 := by
  match k with
  | 0 => decide
  | 1 => decide
  | 2 => decide
  | 3 => decide
  | 4 => decide
  | k + 5 => simp [ens, emB]; decide
theorem evB_size {e : Evt} (h : okEv e) : (evB e).size ≤ 120 := by
  obtain ⟨a, b, c, d, e1, f, g, i, j, k⟩ := h
  have h1 := decB_size e.tick.toNat (by omega)
  have h2 := decB_size e.cls.toNat (by omega)
  have h3 := decB_size e.pkt.toNat (by omega)
  have h4 := decB_size e.size.toNat (by omega)
  have h5 := ens_size e.kind.toNat
  have h6 : (ByteArray.mk #[10]).size = 1 := rfl
  have h7 : spB.size = 1 := rfl
  unfold evB
  simp only [ba_sz, h6, h7]
  omega
theorem evsB_size : ∀ (l : List Evt), (∀ e ∈ l, okEv e) → (evsB l).size ≤ 120 * l.length
  | [], _ => by simp [evsB, emB, ByteArray.size]
  | e :: l, h => by
    have h1 := evB_size (h e List.mem_cons_self)
    have h2 := evsB_size l fun x hx => h x (List.mem_cons_of_mem _ hx)
    simp only [evsB, ba_sz, List.length_cons]
    omega
theorem join3 (a b c : ByteArray) : joinB [a, b, c] spB = a ++ spB ++ b ++ spB ++ c := by
  simp only [join_sp, join_one', ba_assoc]
end Go.Proofs
