/-
  What is proved here: the text of a list of events is read back as that list, in plain words. Condition: none.
-/
import Derived.Test.YtecpfgnkiifnpaaDoorEV2n
import Derived.Test.YtecpfgnkiifnpaaDoorPE0
import Derived.Test.YtecpfgnkiifnpaaDoorFPb
namespace Go.Proofs
open Go.Abs Go.Flat
set_option linter.unusedSimpArgs false
set_option linter.unnecessarySimpa false
set_option linter.unusedVariables false
/-- a line of an event, without its end -/
def evL (e : Evt) : List UInt8 := Lib.decDigits e.tick.toNat ++ 32 :: (bL (ens.getD e.kind.toNat emB) ++ 32 :: (Lib.decDigits e.cls.toNat ++ 32 :: (Lib.decDigits e.pkt.toNat ++ 32 :: Lib.decDigits e.size.toNat)))
def evW (e : Evt) : List ByteArray := [decB e.tick.toNat, ens.getD e.kind.toNat emB, decB e.cls.toNat, decB e.pkt.toNat, decB e.size.toNat]
theorem bL_dec (n : Nat) : bL (decB n) = Lib.decDigits n := rfl
theorem bL_app (a b : ByteArray) : bL (a ++ b) = bL a ++ bL b := by simp [bL, ByteArray.data_append]
theorem evB_L (e : Evt) : bL (evB e) = evL e ++ [10] := by
  unfold evB evL
  simp only [bL_app, bL_dec, show bL spB = [32] from rfl, show bL ⟨#[10]⟩ = [10] from rfl]
  simp [List.append_assoc]
theorem dec_no (n : Nat) (c : UInt8) (h : c.toNat < 48) : ∀ x ∈ Lib.decDigits n, x ≠ c := by
  intro x hx e
  have := dec_mem n x hx
  rw [e] at this
  omega
theorem ens_no {k : Nat} (h : k ≤ 4) : (∀ x ∈ bL (ens.getD k emB), x ≠ 32) ∧ (∀ x ∈ bL (ens.getD k emB), x ≠ 10) := by
  match k, h with
  | 0, _ => decide
  | 1, _ => decide
  | 2, _ => decide
  | 3, _ => decide
  | 4, _ => decide
theorem evL_words {e : Evt} (h : okEv e) : splitB 32 (ofL (evL e)) = evW e := by
  obtain ⟨a, b, c, d, e1, f, g, i, j, k⟩ := h
  have hk := (ens_no (k := e.kind.toNat) (by omega)).1
  unfold splitB evL
  rw [bL_ofL, splitL_cut 32 _ _ (dec_no _ 32 (by decide)), splitL_cut 32 _ _ hk, splitL_cut 32 _ _ (dec_no _ 32 (by decide)), splitL_cut 32 _ _ (dec_no _ 32 (by decide)), splitL_one 32 _ (dec_no _ 32 (by decide))]
  rfl
theorem evL_no10 {e : Evt} (h : okEv e) : ∀ x ∈ evL e, x ≠ 10 := by
  obtain ⟨a, b, c, d, e1, f, g, i, j, k⟩ := h
  have hk := (ens_no (k := e.kind.toNat) (by omega)).2
  intro x hx
  unfold evL at hx
  simp only [List.mem_append, List.mem_cons] at hx
  have d10 : ∀ n, x ∈ Lib.decDigits n → x ≠ 10 := fun n hn => dec_no n 10 (by decide) x hn
  have e32 : x = 32 → x ≠ 10 := fun e => by rw [e]; decide
  rcases hx with hx | hx | hx | hx | hx | hx | hx | hx | hx
  · exact d10 _ hx
  · exact e32 hx
  · exact hk x hx
  · exact e32 hx
  · exact d10 _ hx
  · exact e32 hx
  · exact d10 _ hx
  · exact e32 hx
  · exact d10 _ hx
theorem evs_lines : ∀ (l : List Evt), (∀ e ∈ l, okEv e) → splitL 10 (bL (evsB l)) = l.map evL ++ [[]]
  | [], _ => rfl
  | e :: l, h => by
    have ih := evs_lines l fun x hx => h x (by simp [hx])
    show splitL 10 (bL (evB e ++ evsB l)) = _
    rw [bL_app, evB_L, List.append_assoc, List.singleton_append, splitL_cut 10 _ _ (evL_no10 (h e (by simp))), ih]
    rfl
theorem evs_split (l : List Evt) (h : ∀ e ∈ l, okEv e) : splitB 10 (evsB l) = l.map (fun e => ofL (evL e)) ++ [⟨#[]⟩] := by
  unfold splitB
  rw [evs_lines l h, List.map_append, List.map_map]
  rfl
/-- the kind of a name: the last that fits, or nothing -/
def kindW (w : ByteArray) : Int := if w = ⟨#[111, 117, 116]⟩ then 4 else if w = ⟨#[108, 111, 115, 116]⟩ then 3 else if w = ⟨#[102, 117, 108, 108]⟩ then 2 else if w = ⟨#[105, 110]⟩ then 1 else 0
theorem kindW_ens {k : Nat} (h1 : 1 ≤ k) (h : k ≤ 4) : kindW (ens.getD k emB) = (k : Int) := by
  match k, h1, h with
  | 1, _, _ => decide
  | 2, _, _ => decide
  | 3, _, _ => decide
  | 4, _, _ => decide
def atI (w : ByteArray) : Option Int := match Lib.atoiAll (bL w) with
  | .ok v => some v
  | _ => none
/-- a line's words, as the program reads them -/
def pEvI : List ByteArray → Option Evt
  | [a, k, c, p, z] => match atI a with
    | none => none
    | some a => match atI c with
      | none => none
      | some c => match atI p with
        | none => none
        | some p => match atI z with
          | none => none
          | some z => some ⟨a, kindW k, c, p, z⟩
  | _ => none
/-- as the reference reads them -/
def pEvS : List ByteArray → Option Evt
  | [a, k, c, p, z] => some ⟨rdNum (bL a), kindW k, rdNum (bL c), rdNum (bL p), rdNum (bL z)⟩
  | _ => none
theorem atI_dec {n : Nat} (h : n ≤ 1000000000) : atI (decB n) = some (n : Int) := by
  unfold atI
  rw [bL_dec, atoi_dec n h]
theorem pEvI_W {e : Evt} (h : okEv e) : pEvI (evW e) = some e := by
  obtain ⟨a, b, c, d, e1, f, g, i, j, k⟩ := h
  obtain ⟨t, kd, cl, pk, sz⟩ := e
  dsimp only at a b c d e1 f g i j k
  unfold evW pEvI
  simp only [atI_dec (show t.toNat ≤ 1000000000 by omega), atI_dec (show cl.toNat ≤ 1000000000 by omega), atI_dec (show pk.toNat ≤ 1000000000 by omega), atI_dec (show sz.toNat ≤ 1000000000 by omega), kindW_ens (show 1 ≤ kd.toNat by omega) (show kd.toNat ≤ 4 by omega), Int.toNat_of_nonneg a, Int.toNat_of_nonneg e1, Int.toNat_of_nonneg (show 0 ≤ pk by omega), Int.toNat_of_nonneg (show 0 ≤ sz by omega), Int.toNat_of_nonneg (show 0 ≤ kd by omega)]
theorem pEvS_W {e : Evt} (h : okEv e) : pEvS (evW e) = some e := by
  obtain ⟨a, b, c, d, e1, f, g, i, j, k⟩ := h
  obtain ⟨t, kd, cl, pk, sz⟩ := e
  dsimp only at a b c d e1 f g i j k
  unfold evW pEvS
  simp only [bL_dec, rdNum_dec _ (show t.toNat ≤ 1000000000 by omega), rdNum_dec _ (show cl.toNat ≤ 1000000000 by omega), rdNum_dec _ (show pk.toNat ≤ 1000000000 by omega), rdNum_dec _ (show sz.toNat ≤ 1000000000 by omega), kindW_ens (show 1 ≤ kd.toNat by omega) (show kd.toNat ≤ 4 by omega), Int.toNat_of_nonneg a, Int.toNat_of_nonneg e1, Int.toNat_of_nonneg (show 0 ≤ pk by omega), Int.toNat_of_nonneg (show 0 ≤ sz by omega), Int.toNat_of_nonneg (show 0 ≤ kd by omega)]
/-- all lines -/
def mapO (f : List ByteArray → Option Evt) : List ByteArray → Option (List Evt)
  | [] => some []
  | w :: ws => match f (splitB 32 w) with
    | none => none
    | some e => (mapO f ws).map fun l => e :: l
theorem mapO_ev {f : List ByteArray → Option Evt} (hf : ∀ e, okEv e → f (evW e) = some e) : ∀ (l : List Evt), (∀ e ∈ l, okEv e) → mapO f (l.map fun e => ofL (evL e)) = some l
  | [], _ => rfl
  | e :: l, h => by
    have he := h e (by simp)
    simp only [List.map_cons, mapO]
    rw [evL_words he, hf e he, mapO_ev hf l fun x hx => h x (by simp [hx])]
    rfl
def peF (f : List ByteArray → Option Evt) (s : ByteArray) : Option (List Evt) :=
  if 81 < (splitB 10 s).length then none else match mapO f ((splitB 10 s).take ((splitB 10 s).length - 1)) with
  | none => none
  | some l => if evsOk l = true ∧ evsB l = s then some l else none
theorem peF_of {f : List ByteArray → Option Evt} (hf : ∀ e, okEv e → f (evW e) = some e) {l : List Evt} {s : ByteArray} (h1 : evsOk l = true) (h2 : evsB l = s) : peF f s = some l := by
  obtain ⟨h80, hall⟩ := evs_all h1
  have hs := evs_split l hall
  rw [h2] at hs
  unfold peF
  rw [hs]
  have hl : (l.map (fun e => ofL (evL e)) ++ [(⟨#[]⟩ : ByteArray)]).length = l.length + 1 := by simp
  rw [hl, if_neg (by omega), Nat.add_sub_cancel, List.take_left' (by simp), mapO_ev hf l hall]
  dsimp only
  rw [if_pos ⟨h1, h2⟩]
theorem peF_some {f : List ByteArray → Option Evt} {l : List Evt} {s : ByteArray} (h : peF f s = some l) : evsOk l = true ∧ evsB l = s := by
  unfold peF at h
  split at h
  · cases h
  · revert h
    cases mapO f ((splitB 10 s).take ((splitB 10 s).length - 1)) with
    | none => intro h; cases h
    | some m =>
      intro h
      dsimp only at h
      split at h
      · rename_i hc
        injection h with h
        subst h
        exact hc
      · cases h
/-- both readings agree -/
theorem pe_same (s : ByteArray) : peF pEvI s = peF pEvS s := by
  cases h1 : peF pEvI s with
  | some l =>
    obtain ⟨a, b⟩ := peF_some h1
    exact (peF_of (f := pEvS) (fun e => pEvS_W) a b).symm
  | none =>
    cases h2 : peF pEvS s with
    | none => rfl
    | some l =>
      obtain ⟨a, b⟩ := peF_some h2
      rw [peF_of (f := pEvI) (fun e => pEvI_W) a b] at h1
      cases h1
end Go.Proofs
