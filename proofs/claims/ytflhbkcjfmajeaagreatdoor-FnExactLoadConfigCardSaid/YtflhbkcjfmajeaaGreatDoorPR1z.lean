/-
  What is proved here: the contract of the printer's line. Condition: none.
-/
import Derived.Test.YtflhbkcjfmajeaaGreatDoorPWs
import Derived.Test.YtflhbkcjfmajeaaGreatDoorTXz
import Derived.Test.YtflhbkcjfmajeaaGreatDoorLIz
import Derived.Test.YtflhbkcjfmajeaaGreatDoorAbs26
import Derived.Test.YtflhbkcjfmajeaaGreatDoorAbsE
namespace Go.Proofs
open Go.Abs
set_option linter.unusedSimpArgs false
set_option linter.unnecessarySimpa false
set_option linter.unusedVariables false
set_option maxHeartbeats 8000000
set_option maxRecDepth 20000

theorem repB_ind (lv : Nat) : repB ⟨#[32, 32]⟩ lv = indB lv := by
  apply ba_ext2
  show (Lib.repeatL [32, 32] lv).toArray = (List.replicate (2 * lv) (32 : UInt8)).toArray
  congr 1
  induction lv with
  | zero => rfl
  | succ n ih =>
    rw [show 2 * (n + 1) = 2 * n + 1 + 1 by omega, List.replicate_succ, List.replicate_succ, ← ih]
    rfl
def nilX : X := .v (.slice none 0 0)
def boxP (c : Cfg) (a b f l : X) : Ob := ⟨79, 8, 0, [[.v (.string c.name), .sl (tR c.cls), .sl (tR c.fil), I c.dflt, a, b, f, l]], true, true, none⟩
def sOb (l : List ByteArray) (v : Nat) : Ob := ⟨9, 1, v, sR l, false, true, none⟩
def nOb (l : List Int) (v : Nat) : Ob := ⟨3, 1, v, iR l, false, true, none⟩
def cOfB (b : Ob) : Cfg := match b.rows with
  | [[n, x, y, d, _, _, _, _]] => ⟨deS n, deT x, deT y, deI d⟩
  | _ => ⟨⟨#[]⟩, [], [], 0⟩
def unS (ob : Ob) : List ByteArray := ob.rows.map fun r => deS (r.getD 0 .top)
def unN (ob : Ob) : List Int := ob.rows.map fun r => deI (r.getD 0 .top)
@[simp] theorem cOfB_box (c : Cfg) (a b f l : X) : cOfB (boxP c a b f l) = c := by simp [cOfB, boxP]
@[simp] theorem unS_ob (l : List ByteArray) (v : Nat) : unS (sOb l v) = l := by unfold unS sOb sR; rw [List.map_map]; exact (List.map_congr_left fun _ _ => rfl).trans (List.map_id l)
@[simp] theorem unN_ob (l : List Int) (v : Nat) : unN (nOb l v) = l := by unfold unN nOb iR; rw [List.map_map]; exact (List.map_congr_left fun _ _ => rfl).trans (List.map_id l)
theorem nI_back (l : List Nat) : (nI l).map Int.toNat = l := by simp [nI, Function.comp_def]
/-- as the printer is handed over, lines and order there -/
def obF (c : Cfg) (s : PS) : List Ob := [boxP c (.osl 1 0) (.osl 2 0) (.osl 3 0) (.osl 4 0), sOb s.lines 0, nOb (nI s.order) 0, nOb s.first 0, nOb s.last 0]
/-- as it is handed back: lines laid anew, order as said -/
def obG (c : Cfg) (s : PS) (v : Nat) : List Ob := [boxP c (.osl 1 1) (.osl 2 v) (.osl 3 0) (.osl 4 0), sOb s.lines 1, nOb (nI s.order) v, nOb s.first 0, nOb s.last 0]
/-- nothing written yet -/
def obN (c : Cfg) (f l : List Int) : List Ob := [boxP c nilX nilX (.osl 1 0) (.osl 2 0), nOb f 0, nOb l 0]
/-- one line written -/
def obN1 (c : Cfg) (f l : List Int) (x : ByteArray) : List Ob := [boxP c (.osl 3 0) nilX (.osl 1 0) (.osl 2 0), nOb f 0, nOb l 0, sOb [x] 0]
def psF (obs : List Ob) : PS := match obs with
  | [_, ls, o, f, l] => ⟨unS ls, (unN o).map Int.toNat, unN f, unN l⟩
  | _ => ⟨[], [], [], []⟩
@[simp] theorem psF_ob (c : Cfg) (s : PS) : psF (obF c s) = s := by simp [psF, obF, nI_back]
def hdO (obs : List Ob) : Ob := obs.getD 0 ⟨0, 0, 0, [], false, false, none⟩
def addLn (s : PS) (x : ByteArray) : PS := ⟨s.lines ++ [x], s.order, s.first, s.last⟩
def lnX (xs : List X) : ByteArray := indB (deI (xs.getD 1 .top)).toNat ++ deS (xs.getD 2 .top)
def MLine : MFun := ⟨[true, false, false], fun xs obs => ∃ (c : Cfg) (lv : Nat) (t : ByteArray), xs = [.optr 0 0 0 0, I lv, .v (.string t)] ∧ lv ≤ 9 ∧ t.size ≤ 2097152 ∧ ((∃ s : PS, obs = obF c s ∧ s.lines.length ≤ 100000) ∨ ∃ f l, obs = obN c f l),
  fun xs obs => (.tup [], if obs.length = 5 then obG (cOfB (hdO obs)) (addLn (psF obs) (lnX xs)) 0 else obN1 (cOfB (hdO obs)) (unN (obs.getD 1 ⟨0, 0, 0, [], false, false, none⟩)) (unN (obs.getD 2 ⟨0, 0, 0, [], false, false, none⟩)) (lnX xs))⟩
theorem lnX_eq (lv : Nat) (t : ByteArray) : lnX [.optr 0 0 0 0, I lv, .v (.string t)] = indB lv ++ t := by
  show indB (deI (I (lv : Int))).toNat ++ t = _
  rw [show deI (I (lv : Int)) = lv from rfl, Int.toNat_natCast]
theorem mLine_F (c : Cfg) (s : PS) (lv : Nat) (t : ByteArray) : MLine.res [.optr 0 0 0 0, I lv, .v (.string t)] (obF c s) = (.tup [], obG c (addLn s (indB lv ++ t)) 0) := by
  show (X.tup [], if (obF c s).length = 5 then obG (cOfB (boxP c (.osl 1 0) (.osl 2 0) (.osl 3 0) (.osl 4 0))) (addLn (psF (obF c s)) (lnX _)) 0 else _) = _
  rw [if_pos (show (obF c s).length = 5 from rfl), cOfB_box, psF_ob, lnX_eq]
theorem mLine_N (c : Cfg) (f l : List Int) (lv : Nat) (t : ByteArray) : MLine.res [.optr 0 0 0 0, I lv, .v (.string t)] (obN c f l) = (.tup [], obN1 c f l (indB lv ++ t)) := by
  show (X.tup [], if (obN c f l).length = 5 then _ else obN1 (cOfB (boxP c nilX nilX (.osl 1 0) (.osl 2 0))) (unN (nOb f 0)) (unN (nOb l 0)) (lnX _)) = _
  rw [if_neg (show ¬ (obN c f l).length = 5 by simp [obN]), cOfB_box, unN_ob, unN_ob, lnX_eq]
theorem n85 : GenNA K Tryz.prog 85 MLine := by
  refine contractNA Tryz.mix K [(107, F107)] [] [] (by simp [c107]) (by simp) (by simp) Tryz.func85 rfl (by decide) ?_
  rintro xs obs us ⟨c, lv, t, rfl, hlv, ht, (⟨s, rfl, hs⟩ | ⟨f, l, rfl⟩)⟩ hu
  · obtain ⟨u0, u1, u2, u3, u4, rfl⟩ : ∃ u0 u1 u2 u3 u4, us = [u0, u1, u2, u3, u4] := by
      match us, hu with
      | [a, b, c, d, e], _ => exact ⟨a, b, c, d, e, rfl⟩
    rw [mLine_F]
    refine ⟨⟨by rw [Tryz.ntmps85]; simp, by simp, fun k ob hob => ?_⟩, ?_⟩
    · match k, hob with
      | 0, hob => simp [obF] at hob; subst hob; exact ⟨_, rfl, rfl, rfl, rfl, rfl⟩
      | 1, hob => simp [obF] at hob; subst hob; exact ⟨_, rfl, rfl, rfl, rfl, rfl⟩
      | 2, hob => simp [obF] at hob; subst hob; exact ⟨_, rfl, rfl, rfl, rfl, rfl⟩
      | 3, hob => simp [obF] at hob; subst hob; exact ⟨_, rfl, rfl, rfl, rfl, rfl⟩
      | 4, hob => simp [obF] at hob; subst hob; exact ⟨_, rfl, rfl, rfl, rfl, rfl⟩
      | k + 5, hob => simp [obF] at hob
    have e1 := repB_ind lv
    have e2 := indB_size lv
    have e3 : (lv : Int) ≤ 1048576 := by omega
    have e4 : (ByteArray.mk #[32, 32]).size ≤ 64 := by decide
    have e5 : (indB lv).size + t.size ≤ 9223372036854775807 := by omega
    simp -implicitDefEqProofs [Tryz.f85, List.lookup_cons, and_assoc, pick_and, pick_or, if_and, if_or, F107, obF, boxP, sOb, nOb, e1, hlv]
    refine drawP_x _ [(5, 0), (6, 0), (7, 0), (8, 0), (9, 0), (1, 0), (2, 0), (3, 0), (4, 0), (10, 1), (0, 0), (11, 2), (12, 2), (13, 2)] [9, 10, 13] (by decide) ?_
    simp -implicitDefEqProofs [List.lookup_cons, and_assoc, pick_and, pick_or, if_and, if_or, F107, obF, boxP, sOb, nOb, e1, hlv, e3, e4, e5, OpOk, eBuildSlice, eAppend, srcRows, srcOk, chunk]
    refine ⟨by omega, by omega, finN [0, 1, 2, 3, 4] [0, 1, 0, 0, 0] (by simp [pickOkN]) (by simp [upd, tl_cons]) ?_⟩
    simp [obG, boxP, sOb, nOb, addLn, one, sR]
  · obtain ⟨u0, u1, u2, rfl⟩ : ∃ u0 u1 u2, us = [u0, u1, u2] := by
      match us, hu with
      | [a, b, c], _ => exact ⟨a, b, c, rfl⟩
    rw [mLine_N]
    refine ⟨⟨by rw [Tryz.ntmps85]; simp, by simp, fun k ob hob => ?_⟩, ?_⟩
    · match k, hob with
      | 0, hob => simp [obN] at hob; subst hob; exact ⟨_, rfl, rfl, rfl, rfl, rfl⟩
      | 1, hob => simp [obN] at hob; subst hob; exact ⟨_, rfl, rfl, rfl, rfl, rfl⟩
      | 2, hob => simp [obN] at hob; subst hob; exact ⟨_, rfl, rfl, rfl, rfl, rfl⟩
      | k + 3, hob => simp [obN] at hob
    have e1 := repB_ind lv
    have e2 := indB_size lv
    have e3 : (lv : Int) ≤ 1048576 := by omega
    have e4 : (ByteArray.mk #[32, 32]).size ≤ 64 := by decide
    have e5 : (indB lv).size + t.size ≤ 9223372036854775807 := by omega
    simp -implicitDefEqProofs [Tryz.f85, List.lookup_cons, and_assoc, pick_and, pick_or, if_and, if_or, F107, obN, boxP, sOb, nOb, nilX, e1, hlv]
    refine drawP_x _ [(5, 0), (6, 0), (7, 0), (8, 0), (9, 0), (1, 0), (2, 0), (3, 0), (4, 0), (10, 1), (0, 0), (11, 2), (12, 2), (13, 2)] [9, 10, 13] (by decide) ?_
    simp -implicitDefEqProofs [List.lookup_cons, and_assoc, pick_and, pick_or, if_and, if_or, F107, obN, boxP, sOb, nOb, nilX, e1, hlv, e3, e4, e5, OpOk, eBuildSlice, eAppend, srcRows, srcOk, chunk]
    refine finN [0, 1, 2, 4] [] (by simp [pickOkN]) (by simp [upd, tl_cons]) ?_
    simp [obN1, boxP, sOb, nOb, nilX, one, sR]
end Go.Proofs
