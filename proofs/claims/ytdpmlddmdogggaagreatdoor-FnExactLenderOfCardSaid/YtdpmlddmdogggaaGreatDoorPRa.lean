/-
  What is proved here: the contract of the printer's line. Condition: none.
  What is proved here: the contract of the printer's part, that calls itself. Condition: none.
  What is proved here: the contract of the printer's part where nothing is in order yet. Condition: none.
-/
import Derived.Test.YtdpmlddmdogggaaGreatDoorPWs
import Derived.Test.YtdpmlddmdogggaaGreatDoorTXj
import Derived.Test.YtdpmlddmdogggaaGreatDoorLBN
import Derived.Test.YtdpmlddmdogggaaGreatDoorAbs26
import Derived.Test.YtdpmlddmdogggaaGreatDoorAbsE
set_option linter.unusedVariables false
set_option linter.unusedSimpArgs false
set_option linter.unnecessarySimpa false
set_option maxHeartbeats 16000000
set_option maxRecDepth 20000
namespace Go.Proofs
open Go.Abs
theorem repB_ind (lv : Nat) : repB ⟨#[32, 32]⟩ lv = indB lv := by
  apply ba_ext2
  show (Lib.repeatL [32, 32] lv).toArray = (List.replicate (2 * lv) (32 : UInt8)).toArray
  congr 1
  induction lv with
  | zero => rfl
  | succ n ih =>
    rw [show 2 * (n + 1) = 2 * n + 1 + 1 by omega, List.replicate_succ, List.replicate_succ, ← ih]
    rfl
def nilX : X := .v (.slice none 0 0)
def boxP (c : Cfg) (a b f l : X) : Ob := ⟨117, 8, 0, [[.v (.string c.name), .sl (tR c.cls), .sl (tR c.fil), I c.dflt, a, b, f, l]], true, true, none⟩
def sOb (l : List ByteArray) (v : Nat) : Ob := ⟨9, 1, v, sR l, false, true, none⟩
def nOb (l : List Int) (v : Nat) : Ob := ⟨3, 1, v, iR l, false, true, none⟩
def cOfB (b : Ob) : Cfg := match b.rows with
  | [[n, x, y, d, _, _, _, _]] => ⟨deS n, deT x, deT y, deI d⟩
  | _ => ⟨⟨#[]⟩, [], [], 0⟩
def unS (ob : Ob) : List ByteArray := ob.rows.map fun r => deS (r.getD 0 .top)
def unN (ob : Ob) : List Int := ob.rows.map fun r => deI (r.getD 0 .top)
@[simp] theorem cOfB_box (c : Cfg) (a b f l : X) : cOfB (boxP c a b f l) = c := by simp [cOfB, boxP]
@[simp] theorem unS_ob (l : List ByteArray) (v : Nat) : unS (sOb l v) = l := by unfold unS sOb sR; rw [List.map_map]; exact (List.map_congr_left fun _ _ => rfl).trans (List.map_id l)
@[simp] theorem unN_ob (l : List Int) (v : Nat) : unN (nOb l v) = l := by unfold unN nOb iR; rw [List.map_map]; exact (List.map_congr_left fun _ _ => rfl).trans (List.map_id l)
theorem nI_back (l : List Nat) : (nI l).map Int.toNat = l := by simp [nI, Function.comp_def]
def obF (c : Cfg) (s : PS) : List Ob := [boxP c (.osl 1 0) (.osl 2 0) (.osl 3 0) (.osl 4 0), sOb s.lines 0, nOb (nI s.order) 0, nOb s.first 0, nOb s.last 0]
def obG (c : Cfg) (s : PS) (v : Nat) : List Ob := [boxP c (.osl 1 1) (.osl 2 v) (.osl 3 0) (.osl 4 0), sOb s.lines 1, nOb (nI s.order) v, nOb s.first 0, nOb s.last 0]
def obN (c : Cfg) (f l : List Int) : List Ob := [boxP c nilX nilX (.osl 1 0) (.osl 2 0), nOb f 0, nOb l 0]
def obN1 (c : Cfg) (f l : List Int) (x : ByteArray) : List Ob := [boxP c (.osl 3 0) nilX (.osl 1 0) (.osl 2 0), nOb f 0, nOb l 0, sOb [x] 0]
def psF (obs : List Ob) : PS := match obs with
  | [_, ls, o, f, l] => ⟨unS ls, (unN o).map Int.toNat, unN f, unN l⟩
  | _ => ⟨[], [], [], []⟩
@[simp] theorem psF_ob (c : Cfg) (s : PS) : psF (obF c s) = s := by simp [psF, obF, nI_back]
def hdO (obs : List Ob) : Ob := obs.getD 0 ⟨0, 0, 0, [], false, false, none⟩
def addLn (s : PS) (x : ByteArray) : PS := ⟨s.lines ++ [x], s.order, s.first, s.last⟩
def lnX (xs : List X) : ByteArray := indB (deI (xs.getD 1 .top)).toNat ++ deS (xs.getD 2 .top)
def MLine : MFun := ⟨[true, false, false], fun xs obs => ∃ (c : Cfg) (lv : Nat) (t : ByteArray), xs = [.optr 0 0 0 0, I lv, .v (.string t)] ∧ lv ≤ 9 ∧ t.size ≤ 2097152 ∧ ((∃ s : PS, obs = obF c s ∧ s.lines.length ≤ 100000) ∨ ∃ f l, obs = obN c f l),
  fun xs obs => (.tup [], if obs.length = 5 then obG (cOfB (hdO obs)) (addLn (psF obs) (lnX xs)) 0 else obN1 (cOfB (hdO obs)) (unN (obs.getD 1 ⟨0, 0, 0, [], false, false, none⟩)) (unN (obs.getD 2 ⟨0, 0, 0, [], false, false, none⟩)) (lnX xs))⟩
theorem lnX_eq (lv : Nat) (t : ByteArray) : lnX [.optr 0 0 0 0, I lv, .v (.string t)] = indB lv ++ t := by
  show indB (deI (I (lv : Int))).toNat ++ t = _
  rw [show deI (I (lv : Int)) = lv from rfl, Int.toNat_natCast]
theorem mLine_F (c : Cfg) (s : PS) (lv : Nat) (t : ByteArray) : MLine.res [.optr 0 0 0 0, I lv, .v (.string t)] (obF c s) = (.tup [], obG c (addLn s (indB lv ++ t)) 0) := by
  show (X.tup [], if (obF c s).length = 5 then obG (cOfB (boxP c (.osl 1 0) (.osl 2 0) (.osl 3 0) (.osl 4 0))) (addLn (psF (obF c s)) (lnX _)) 0 else _) = _
  rw [if_pos (show (obF c s).length = 5 from rfl), cOfB_box, psF_ob, lnX_eq]
theorem mLine_N (c : Cfg) (f l : List Int) (lv : Nat) (t : ByteArray) : MLine.res [.optr 0 0 0 0, I lv, .v (.string t)] (obN c f l) = (.tup [], obN1 c f l (indB lv ++ t)) := by
  show (X.tup [], if (obN c f l).length = 5 then _ else obN1 (cOfB (boxP c nilX nilX (.osl 1 0) (.osl 2 0))) (unN (nOb f 0)) (unN (nOb l 0)) (lnX _)) = _
  rw [if_neg (show ¬ (obN c f l).length = 5 by simp [obN]), cOfB_box, unN_ob, unN_ob, lnX_eq]
theorem n152 : GenNA K Tryz.prog 152 MLine := by
  refine contractNA Tryz.mix K [(179, F179)] [] [] (by simp [c179]) (by simp) (by simp) Tryz.func152 rfl (by decide) ?_
  rintro xs obs us ⟨c, lv, t, rfl, hlv, ht, (⟨s, rfl, hs⟩ | ⟨f, l, rfl⟩)⟩ hu
  · obtain ⟨u0, u1, u2, u3, u4, rfl⟩ : ∃ u0 u1 u2 u3 u4, us = [u0, u1, u2, u3, u4] := by
      match us, hu with
      | [a, b, c, d, e], _ => exact ⟨a, b, c, d, e, rfl⟩
    rw [mLine_F]
    refine ⟨⟨by rw [Tryz.ntmps152]; simp, by simp, fun k ob hob => ?_⟩, ?_⟩
    · match k, hob with
      | 0, hob => simp [obF] at hob; subst hob; exact ⟨_, rfl, rfl, rfl, rfl, rfl⟩
      | 1, hob => simp [obF] at hob; subst hob; exact ⟨_, rfl, rfl, rfl, rfl, rfl⟩
      | 2, hob => simp [obF] at hob; subst hob; exact ⟨_, rfl, rfl, rfl, rfl, rfl⟩
      | 3, hob => simp [obF] at hob; subst hob; exact ⟨_, rfl, rfl, rfl, rfl, rfl⟩
      | 4, hob => simp [obF] at hob; subst hob; exact ⟨_, rfl, rfl, rfl, rfl, rfl⟩
      | k + 5, hob => simp [obF] at hob
    have e1 := repB_ind lv
    have e2 := indB_size lv
    have e3 : (lv : Int) ≤ 1048576 := by omega
    have e4 : (ByteArray.mk #[32, 32]).size ≤ 64 := by decide
    have e5 : (indB lv).size + t.size ≤ 9223372036854775807 := by omega
    simp -implicitDefEqProofs [Tryz.f152, List.lookup_cons, eS, F179, obF, boxP, sOb, nOb, e1, hlv]
    refine drawP_x _ [(5, 0), (6, 0), (7, 0), (8, 0), (9, 0), (1, 0), (2, 0), (3, 0), (4, 0), (10, 1), (0, 0), (11, 2), (12, 2), (13, 2)] [9, 10, 13] (by decide) ?_
    simp -implicitDefEqProofs [List.lookup_cons, eS, F179, obF, boxP, sOb, nOb, e1, hlv, e3, e4, e5, OpOk, eBuildSlice, eAppend, srcRows, srcOk, chunk]
    refine ⟨by omega, by omega, finN [0, 1, 2, 3, 4] [0, 1, 0, 0, 0] (by simp [pickOkN]) (by simp [upd, tl_cons]) ?_⟩
    simp [obG, boxP, sOb, nOb, addLn, one, sR]
  · obtain ⟨u0, u1, u2, rfl⟩ : ∃ u0 u1 u2, us = [u0, u1, u2] := by
      match us, hu with
      | [a, b, c], _ => exact ⟨a, b, c, rfl⟩
    rw [mLine_N]
    refine ⟨⟨by rw [Tryz.ntmps152]; simp, by simp, fun k ob hob => ?_⟩, ?_⟩
    · match k, hob with
      | 0, hob => simp [obN] at hob; subst hob; exact ⟨_, rfl, rfl, rfl, rfl, rfl⟩
      | 1, hob => simp [obN] at hob; subst hob; exact ⟨_, rfl, rfl, rfl, rfl, rfl⟩
      | 2, hob => simp [obN] at hob; subst hob; exact ⟨_, rfl, rfl, rfl, rfl, rfl⟩
      | k + 3, hob => simp [obN] at hob
    have e1 := repB_ind lv
    have e2 := indB_size lv
    have e3 : (lv : Int) ≤ 1048576 := by omega
    have e4 : (ByteArray.mk #[32, 32]).size ≤ 64 := by decide
    have e5 : (indB lv).size + t.size ≤ 9223372036854775807 := by omega
    simp -implicitDefEqProofs [Tryz.f152, List.lookup_cons, eS, F179, obN, boxP, sOb, nOb, nilX, e1, hlv]
    refine drawP_x _ [(5, 0), (6, 0), (7, 0), (8, 0), (9, 0), (1, 0), (2, 0), (3, 0), (4, 0), (10, 1), (0, 0), (11, 2), (12, 2), (13, 2)] [9, 10, 13] (by decide) ?_
    simp -implicitDefEqProofs [List.lookup_cons, eS, F179, obN, boxP, sOb, nOb, nilX, e1, hlv, e3, e4, e5, OpOk, eBuildSlice, eAppend, srcRows, srcOk, chunk]
    refine finN [0, 1, 2, 4] [] (by simp [pickOkN]) (by simp [upd, tl_cons]) ?_
    simp [obN1, boxP, sOb, nOb, nilX, one, sR]
end Go.Proofs
namespace Go.Proofs
open Go.Abs
def MPart (n : Nat) : MFun := ⟨[true, false, false], fun xs obs => ∃ (c : Cfg) (s : PS) (i lv : Nat), xs = [.optr 0 0 0 0, I i, I lv] ∧ obs = obF c s ∧ okC c ∧ isCfg c = true ∧ i < c.cls.length ∧ 9 ≤ n + dp c.cls i ∧ lv = dp c.cls i ∧ s.first.length = c.cls.length ∧ s.last.length = c.cls.length ∧ s.lines.length + size c.cls i ≤ 1000 ∧ s.order.length + (walk c.cls i).length ≤ 1000,
  fun xs obs => (.tup [], obG (cOfB (hdO obs)) (partN (cOfB (hdO obs)) (n - 1) (deI (xs.getD 1 .top)).toNat (deI (xs.getD 2 .top)).toNat (psF obs)) 1)⟩
theorem mPart_res (n : Nat) (c : Cfg) (s : PS) (i lv : Nat) : (MPart n).res [.optr 0 0 0 0, I i, I lv] (obF c s) = (.tup [], obG c (partN c (n - 1) i lv s) 1) := by
  show (X.tup [], obG (cOfB (boxP c (.osl 1 0) (.osl 2 0) (.osl 3 0) (.osl 4 0))) (partN (cOfB (boxP c (.osl 1 0) (.osl 2 0) (.osl 3 0) (.osl 4 0))) (n - 1) (deI (I (i : Int))).toNat (deI (I (lv : Int))).toNat (psF (obF c s))) 1) = _
  rw [cOfB_box, psF_ob, show deI (I (i : Int)) = i from rfl, show deI (I (lv : Int)) = lv from rfl, Int.toNat_natCast, Int.toNat_natCast]
theorem lnP (c : Cfg) (L : List ByteArray) (O : List Nat) (F A : List Int) (lv : Nat) (t : ByteArray) (h1 : lv ≤ 9) (h2 : t.size ≤ 2097152) (h3 : L.length ≤ 100000) : MLine.pre [.optr 0 0 0 0, I lv, .v (.string t)] [⟨117, 8, 0, [[.v (.string c.name), .sl (tR c.cls), .sl (tR c.fil), I c.dflt, .osl 1 0, .osl 2 0, .osl 3 0, .osl 4 0]], true, true, none⟩, ⟨9, 1, 0, sR L, false, true, none⟩, ⟨3, 1, 0, iR (nI O), false, true, none⟩, ⟨3, 1, 0, iR F, false, true, none⟩, ⟨3, 1, 0, iR A, false, true, none⟩] := ⟨c, lv, t, rfl, h1, h2, .inl ⟨⟨L, O, F, A⟩, rfl, h3⟩⟩
theorem lnR (c : Cfg) (L L' : List ByteArray) (O : List Nat) (F A : List Int) (lv : Nat) (t : ByteArray) (h : L ++ [indB lv ++ t] = L') : MLine.res [.optr 0 0 0 0, I lv, .v (.string t)] [⟨117, 8, 0, [[.v (.string c.name), .sl (tR c.cls), .sl (tR c.fil), I c.dflt, .osl 1 0, .osl 2 0, .osl 3 0, .osl 4 0]], true, true, none⟩, ⟨9, 1, 0, sR L, false, true, none⟩, ⟨3, 1, 0, iR (nI O), false, true, none⟩, ⟨3, 1, 0, iR F, false, true, none⟩, ⟨3, 1, 0, iR A, false, true, none⟩] = (.tup [], [⟨117, 8, 0, [[.v (.string c.name), .sl (tR c.cls), .sl (tR c.fil), I c.dflt, .osl 1 1, .osl 2 0, .osl 3 0, .osl 4 0]], true, true, none⟩, ⟨9, 1, 1, sR L', false, true, none⟩, ⟨3, 1, 0, iR (nI O), false, true, none⟩, ⟨3, 1, 0, iR F, false, true, none⟩, ⟨3, 1, 0, iR A, false, true, none⟩]) := by
  subst h
  exact mLine_F c ⟨L, O, F, A⟩ lv t
theorem lnM : MLine.mu = [true, false, false] := rfl
theorem ptP (n : Nat) (c : Cfg) (s : PS) (i : Nat) (lv : Nat) (h1 : okC c) (h2 : isCfg c = true) (h3 : i < c.cls.length) (h4 : 9 ≤ n + dp c.cls i) (h5 : lv + 1 = dp c.cls i) (h6 : s.first.length = c.cls.length) (h7 : s.last.length = c.cls.length) (h8 : s.lines.length + size c.cls i ≤ 1000) (h9 : s.order.length + (walk c.cls i).length ≤ 1000) : (MPart n).pre [.optr 0 0 0 0, I i, I ((lv : Int) + 1)] [⟨117, 8, 0, [[.v (.string c.name), .sl (tR c.cls), .sl (tR c.fil), I c.dflt, .osl 1 0, .osl 2 0, .osl 3 0, .osl 4 0]], true, true, none⟩, ⟨9, 1, 0, sR s.lines, false, true, none⟩, ⟨3, 1, 0, iR (nI s.order), false, true, none⟩, ⟨3, 1, 0, iR s.first, false, true, none⟩, ⟨3, 1, 0, iR s.last, false, true, none⟩] := ⟨c, s, i, lv + 1, by simp, rfl, h1, h2, h3, h4, h5, h6, h7, h8, h9⟩
theorem ptR (n : Nat) (c : Cfg) (s t : PS) (i : Nat) (lv : Nat) (h : partN c (n - 1) i (lv + 1) s = t) : (MPart n).res [.optr 0 0 0 0, I i, I ((lv : Int) + 1)] [⟨117, 8, 0, [[.v (.string c.name), .sl (tR c.cls), .sl (tR c.fil), I c.dflt, .osl 1 0, .osl 2 0, .osl 3 0, .osl 4 0]], true, true, none⟩, ⟨9, 1, 0, sR s.lines, false, true, none⟩, ⟨3, 1, 0, iR (nI s.order), false, true, none⟩, ⟨3, 1, 0, iR s.first, false, true, none⟩, ⟨3, 1, 0, iR s.last, false, true, none⟩] = (.tup [], [⟨117, 8, 0, [[.v (.string c.name), .sl (tR c.cls), .sl (tR c.fil), I c.dflt, .osl 1 1, .osl 2 1, .osl 3 0, .osl 4 0]], true, true, none⟩, ⟨9, 1, 1, sR t.lines, false, true, none⟩, ⟨3, 1, 1, iR (nI t.order), false, true, none⟩, ⟨3, 1, 0, iR t.first, false, true, none⟩, ⟨3, 1, 0, iR t.last, false, true, none⟩]) := by
  subst h
  have e : ((lv + 1 : Nat) : Int) = (lv : Int) + 1 := by simp
  rw [← e]
  exact mPart_res n c s i (lv + 1)
theorem ptM (n : Nat) : (MPart n).mu = [true, false, false] := rfl
theorem szL : (ByteArray.mk #[32, 108, 105, 109, 105, 116, 32]).size = 7 := rfl
theorem szS : (ByteArray.mk #[59]).size = 1 := rfl
theorem szO : (ByteArray.mk #[32, 123]).size = 2 := rfl
theorem szC : (ByteArray.mk #[125]).size = 1 := rfl
theorem oA (O : List Nat) (i : Nat) (O' : List Nat) (h : O ++ [i] = O') : iR (nI O) ++ [[I (i : Int)]] = iR (nI O') := by
  subst h
  rw [nI_one i, nI_app]
theorem mPart : ∀ n, GenNA K Tryz.prog 153 (MPart n)
  | 0 => by
    refine contractNA Tryz.mix K [] [] [] (by simp) (by simp) (by simp) Tryz.func153 rfl (by decide) ?_
    rintro xs obs us ⟨c, s, i, lv, rfl, rfl, ho, hg, hi, h9, hlv, h1, h2, h3, h4⟩ hu
    have T := tree_of (c := c) (by rw [← isCfg_eq]; exact hg)
    have := dp_le T hi
    omega
  | n + 1 => by
    refine contractNA Tryz.mix K [(175, F175), (180, F180), (181, F181), (182, F182)] [] [(152, MLine), (153, MPart n)] (by simp [c175, c180, c181, c182]) (by simp) (by simp [n152, mPart n]) Tryz.func153 rfl (by decide) ?_
    rintro xs obs us ⟨c, s, i, lv, rfl, rfl, ho, hg, hi, h9, hlv, hf, hl, hsz, how⟩ hu
    obtain ⟨u0, u1, u2, u3, u4, rfl⟩ : ∃ u0 u1 u2 u3 u4, us = [u0, u1, u2, u3, u4] := by
      match us, hu with
      | [a, b, c, d, e], _ => exact ⟨a, b, c, d, e, rfl⟩
    rw [mPart_res]
    have T := tree_of (c := c) (by rw [← isCfg_eq]; exact hg)
    have hdp := dp_le T hi
    have hdpp := dp_pos (l := c.cls) i
    have hI : okI c (i : Int) := ⟨ho, by omega, by omega⟩
    have hoC : okC ⟨c.name, c.cls, c.fil, c.dflt⟩ := ho
    have hIC : okI ⟨c.name, c.cls, c.fil, c.dflt⟩ (i : Int) := hI
    obtain ⟨hd, hl0, hl60⟩ := cfg_hd hg i hi
    rw [atC_eq hi] at hd hl0 hl60
    have hds := headB_size hd
    have hns := numB_size c.cls[i].lim.toNat (by omega)
    have hl9 : c.cls[i].lim ≤ 1000000000 := by omega
    have hlv9 : lv ≤ 9 := by omega
    have hif : i < s.first.length := by omega
    have hil : i < s.last.length := by omega
    have hszp := size_pos c.cls i
    have hwp : 1 ≤ (walk c.cls i).length := by rw [walk_eq T hi]; simp
    obtain ⟨o1, ho1⟩ : ∃ o1, s.order ++ [i] = o1 := ⟨_, rfl⟩
    have hO := oA s.order i o1 ho1
    have hol : s.order.length ≤ 1000 := by omega
    refine ⟨⟨by rw [Tryz.ntmps153]; simp, by simp, fun k ob hob => ?_⟩, ?_⟩
    · match k, hob with
      | 0, hob => simp [obF] at hob; subst hob; exact ⟨_, rfl, rfl, rfl, rfl, rfl⟩
      | 1, hob => simp [obF] at hob; subst hob; exact ⟨_, rfl, rfl, rfl, rfl, rfl⟩
      | 2, hob => simp [obF] at hob; subst hob; exact ⟨_, rfl, rfl, rfl, rfl, rfl⟩
      | 3, hob => simp [obF] at hob; subst hob; exact ⟨_, rfl, rfl, rfl, rfl, rfl⟩
      | 4, hob => simp [obF] at hob; subst hob; exact ⟨_, rfl, rfl, rfl, rfl, rfl⟩
      | k + 5, hob => simp [obF] at hob
    by_cases hlf : leafB c.cls i = true
    · -- a leaf
      have hP : partN c (n + 1 - 1) i lv s = leafP c i lv s := by
        cases n with
        | zero => rfl
        | succ m => simp [partN, hlf]
      obtain ⟨l1, hl1⟩ : ∃ l1, s.lines ++ [indB lv ++ (headB c.cls[i] ++ ⟨#[32, 108, 105, 109, 105, 116, 32]⟩ ++ numB c.cls[i].lim.toNat ++ ⟨#[59]⟩)] = l1 := ⟨_, rfl⟩
      have hts : (headB c.cls[i] ++ ⟨#[32, 108, 105, 109, 105, 116, 32]⟩ ++ numB c.cls[i].lim.toNat ++ ⟨#[59]⟩).size ≤ 2097152 := by
        simp only [ByteArray.size_append, show (ByteArray.mk #[32, 108, 105, 109, 105, 116, 32]).size = 7 from rfl, show (ByteArray.mk #[59]).size = 1 from rfl]
        omega
      have j1 := lnP c s.lines o1 s.first s.last lv _ hlv9 hts (by omega)
      have j2 := lnR c s.lines l1 o1 s.first s.last lv _ hl1
      have hll : l1.length = s.lines.length + 1 := by rw [← hl1]; simp
      rw [hP]
      simp -implicitDefEqProofs [Tryz.f153, List.lookup_cons, eS, F175, F180, F181, F182, obF, boxP, sOb, nOb, hi, ho, hoC, hI, hIC, hlf, hd, hl0, hl9, hO, j1, j2, lnM, pickOkN, nI_len, ba_sz, szL, szS, OpOk, eBuildSlice, eAppend, srcRows, srcOk, chunk]
      refine ⟨by omega, by omega, ?_⟩
      refine drawP_x _ [(0, 0), (1, 0), (2, 0), (3, 0), (4, 0), (5, 0), (6, 0), (7, 0), (8, 0), (9, 0), (10, 0)] [10] (by decide) ?_
      simp -implicitDefEqProofs [List.lookup_cons, eS, F175, F180, F181, F182, obF, boxP, sOb, nOb, hi, ho, hoC, hI, hIC, hlf, hd, hl0, hl9, hO, j1, j2, lnM, pickOkN, nI_len, ba_sz, szL, szS, OpOk, eBuildSlice, eAppend, srcRows, srcOk, chunk]
      repeat refine ⟨by omega, ?_⟩
      refine drawP_x _ [(0, 0), (1, 0), (2, 0), (3, 0), (4, 0), (5, 0), (6, 0), (7, 0), (8, 0), (9, 0), (10, 0), (11, 0)] [11] (by decide) ?_
      simp -implicitDefEqProofs [List.lookup_cons, eS, F175, F180, F181, F182, obF, boxP, sOb, nOb, hi, ho, hoC, hI, hIC, hlf, hd, hl0, hl9, hO, j1, j2, lnM, pickOkN, nI_len, ba_sz, szL, szS, OpOk, eBuildSlice, eAppend, srcRows, srcOk, chunk, hif, hil]
      refine drawP_x _ [(0, 0), (1, 0), (2, 0), (3, 0), (4, 0), (5, 0), (6, 0), (7, 0), (8, 0), (9, 0), (10, 0), (11, 0)] [11] (by decide) ?_
      simp -implicitDefEqProofs [List.lookup_cons, eS, F175, F180, F181, F182, obF, boxP, sOb, nOb, hi, ho, hoC, hI, hIC, hlf, hd, hl0, hl9, hO, j1, j2, lnM, pickOkN, nI_len, ba_sz, szL, szS, OpOk, eBuildSlice, eAppend, srcRows, srcOk, chunk, hif, hil]
      refine finN [0, 1, 2, 3, 4] [0, 1, 1, 0, 0] (by simp [pickOkN]) (by simp [upd, tl_cons]) ?_
      simp [obG, boxP, sOb, nOb, one, leafP, ho1, hll]
      rw [← hl1]
      unfold lnL
      rw [atC_eq hi]
    · -- one with children
      have hkn : ∃ k, k ∈ kids c.cls i c.cls.length := by
        rcases hks : kids c.cls i c.cls.length with _ | ⟨k, ks⟩
        · exact absurd (leaf_kids.2 hks) hlf
        · exact ⟨k, by simp⟩
      obtain ⟨k0, hk0⟩ := hkn
      have hd0 := dp_kid T hi (mem_kids.1 hk0).1 (mem_kids.1 hk0).2
      have hd8 := dp_le T (mem_kids.1 hk0).1
      obtain ⟨m, rfl⟩ : ∃ m, n = m + 1 := ⟨n - 1, by omega⟩
      have hroom := fold_room T (n := m) (lv := lv) hi (by omega) (openP c i lv s)
      have hmem : ∀ k ∈ kids c.cls i c.cls.length, k < c.cls.length ∧ dp c.cls k = dp c.cls i + 1 := fun k hk => ⟨(mem_kids.1 hk).1, dp_kid T hi (mem_kids.1 hk).1 (mem_kids.1 hk).2⟩
      have hseq := size_eq T hi
      rw [if_neg hlf] at hseq
      have hweq : (walk c.cls i).length = 1 + ((kids c.cls i c.cls.length).map fun k => (walk c.cls k).length).sum := by rw [walk_eq T hi, List.length_cons, List.length_flatMap]; omega
      have hP : partN c (m + 1 + 1 - 1) i lv s = closeP i lv ((kids c.cls i c.cls.length).foldl (fun t k => partN c m k (lv + 1) t) (openP c i lv s)) := by
        show partN c (m + 1) i lv s = _
        simp only [partN, hlf, if_false, Bool.false_eq_true]
      have hst := sum_take_le (kids c.cls i c.cls.length)
      have hkl := kids_len c.cls i c.cls.length
      rw [hP]
      obtain ⟨l1, hl1⟩ : ∃ l1, s.lines ++ [indB lv ++ (headB c.cls[i] ++ ⟨#[32, 123]⟩)] = l1 := ⟨_, rfl⟩
      have hts : (headB c.cls[i] ++ ⟨#[32, 123]⟩).size ≤ 2097152 := by
        simp only [ByteArray.size_append, szO]
        omega
      have j1 := lnP c s.lines o1 s.first s.last lv _ hlv9 hts (by omega)
      have j2 := lnR c s.lines l1 o1 s.first s.last lv _ hl1
      have hll : l1.length = s.lines.length + 1 := by rw [← hl1]; simp
      obtain ⟨s0, hs0⟩ : ∃ s0, openP c i lv s = s0 := ⟨_, rfl⟩
      have e0 : s0.lines = l1 := by rw [← hs0, ← hl1]; simp only [openP, lnO]; rw [atC_eq hi]
      have e1 : s0.order = o1 := by rw [← hs0, ← ho1]; rfl
      have e2 : s0.first = s.first.set i (l1.length : Int) := by rw [← hs0, hll]; simp only [openP]; simp
      have e3 : s0.last = s.last := by rw [← hs0]; rfl
      rw [hs0] at hroom ⊢
      generalize hK : kids c.cls i c.cls.length = ks at hroom hmem hseq hweq hst hkl ⊢
      have hnl := nI_len ks
      have hf2 : s0.first.length = c.cls.length := by rw [e2]; simp [hf]
      have hl2 : s0.last.length = c.cls.length := by rw [e3, hl]
      have ho2 : s0.order.length = s.order.length + 1 := by rw [e1, ← ho1]; simp
      have hs0l : s0.lines.length = l1.length := by rw [e0]
      have hlim := cfg_lim hg
      simp -implicitDefEqProofs [Tryz.f153, List.lookup_cons, eS, F175, F180, F181, F182, obF, boxP, sOb, nOb, hi, ho, hoC, hI, hIC, hlf, hd, hl0, hl9, hO, j1, j2, lnM, pickOkN, nI_len, ba_sz, szL, szS, OpOk, eBuildSlice, eAppend, srcRows, srcOk, chunk, szO]
      refine ⟨by omega, by omega, ?_⟩
      repeat refine ⟨by omega, ?_⟩
      refine drawP_x _ [(0, 0), (1, 0), (2, 0), (3, 0), (4, 0), (5, 0), (6, 0), (7, 0), (8, 0), (9, 0), (10, 0), (11, 0)] [11] (by decide) ?_
      simp -implicitDefEqProofs [List.lookup_cons, eS, F175, F180, F181, F182, obF, boxP, sOb, nOb, hi, ho, hoC, hI, hIC, hlf, hd, hl0, hl9, hO, j1, j2, lnM, pickOkN, nI_len, ba_sz, szL, szS, OpOk, eBuildSlice, eAppend, srcRows, srcOk, chunk, szO, hif, hil, hK, iOb]
      refine loopP_inv (fun k : Nat => ⟨103, tl [(0, .optr 0 0 0 0), (1, I i), (2, I lv), (77, .osl 5 0), (78, I ks.length), (79, I k), (1000, .pin 0 0 u0), (1003, .pin 3 0 u3), (1004, .pin 4 0 u4)], obF c ((ks.take k).foldl (fun t k => partN c m k (lv + 1) t) s0) ++ [⟨3, 1, 0, iR (nI ks), false, true, none⟩]⟩) (fun k => k ≤ ks.length) (fun k => ks.length - k) 0 (Nat.zero_le _) ?_ ?_
      · refine Wk.tlPN [0, 1, 2, 3, 4, 7] (by simp [pickOkN]) ?_ ?_
        · simp [obF, boxP, sOb, nOb, e0, e1, e2, e3]
        · simp [hold, upd, tl_cons]
      intro k hk
      obtain ⟨r1, r2, r3, r4⟩ := hroom k hk
      by_cases h : k < ks.length
      · obtain ⟨m1, m2⟩ := hmem ks[k] (List.getElem_mem h)
        have hw := w64n (show k < 4611686018427387904 by omega)
        have hwl := w64n (show lv < 4611686018427387904 by omega)
        have hsum := sum_take ks (size c.cls) k h
        have hsum2 := sum_take ks (fun k => (walk c.cls k).length) k h
        have hle1 := hst (size c.cls) (k + 1)
        have hle2 := hst (fun k => (walk c.cls k).length) (k + 1)
        have hft := fold_take (f := fun t k => partN c m k (lv + 1) t) ks s0 k h
        obtain ⟨q, hq⟩ : ∃ q, (ks.take k).foldl (fun t k => partN c m k (lv + 1) t) s0 = q := ⟨_, rfl⟩
        rw [hq] at r1 r2 r3 r4 hft ⊢
        obtain ⟨q', hq'⟩ : ∃ q', partN c m ks[k] (lv + 1) q = q' := ⟨_, rfl⟩
        rw [hq'] at hft
        have p1 := ptP (m + 1) c q ks[k] lv ho hg m1 (by omega) (by omega) (by omega) (by omega) (by omega) (by omega)
        have p2 := ptR (m + 1) c q q' ks[k] lv hq'
        simp -implicitDefEqProofs [List.lookup_cons, eS, F175, F180, F181, F182, obF, boxP, sOb, nOb, hi, ho, hoC, hI, hIC, hlf, hd, hl0, hl9, hO, lnM, pickOkN, nI_len, ba_sz, szL, szS, OpOk, eBuildSlice, eAppend, srcRows, srcOk, chunk, h, hnl, nI_get, p1, p2, ptM, hwl]
        refine ⟨k + 1, by omega, by omega, ?_⟩
        rw [hft]
        refine Wk.tlPN [0, 1, 2, 3, 4, 5] (by simp [pickOkN]) ?_ ?_
        · simp [obF, boxP, sOb, nOb]
        · simp [hold, upd, tl_cons, hw]
      · have e : k = ks.length := by omega
        subst e
        rw [List.take_length] at r1 r2 r3 r4 ⊢
        obtain ⟨q, hq⟩ : ∃ q, ks.foldl (fun t k => partN c m k (lv + 1) t) s0 = q := ⟨_, rfl⟩
        rw [hq] at r1 r2 r3 r4 ⊢
        have hle1 := hst (size c.cls) ks.length
        obtain ⟨l2, hl2'⟩ : ∃ l2, q.lines ++ [indB lv ++ ⟨#[125]⟩] = l2 := ⟨_, rfl⟩
        have j3 := lnP c q.lines q.order q.first q.last lv ⟨#[125]⟩ hlv9 (by rw [szC]; omega) (by omega)
        have j4 := lnR c q.lines l2 q.order q.first q.last lv _ hl2'
        have hll2 : l2.length = q.lines.length + 1 := by rw [← hl2']; simp
        have hqa : i < q.last.length := by omega
        simp -implicitDefEqProofs [List.lookup_cons, eS, F175, F180, F181, F182, obF, boxP, sOb, nOb, hi, ho, hoC, hI, hIC, hlf, hd, hl0, hl9, hO, lnM, pickOkN, nI_len, ba_sz, szL, szS, OpOk, eBuildSlice, eAppend, srcRows, srcOk, chunk, hnl, j3, j4]
        refine drawP_x _ [(0, 0), (1, 0), (2, 0), (3, 0), (4, 0), (5, 0), (6, 0), (7, 0), (8, 0), (9, 0), (10, 0), (11, 0)] [11] (by decide) ?_
        simp -implicitDefEqProofs [List.lookup_cons, eS, F175, F180, F181, F182, obF, boxP, sOb, nOb, hi, ho, hoC, hI, hIC, hlf, hd, hl0, hl9, hO, lnM, pickOkN, nI_len, ba_sz, szL, szS, OpOk, eBuildSlice, eAppend, srcRows, srcOk, chunk, hqa]
        refine finN [0, 1, 2, 3, 4] [0, 1, 1, 0, 0] (by simp [pickOkN]) (by simp [upd, tl_cons]) ?_
        simp [obG, boxP, sOb, nOb, one, closeP, hll2]
        rw [← hl2']
        rfl
end Go.Proofs
namespace Go.Proofs
open Go.Abs
def obO (c : Cfg) (s : PS) : List Ob := [boxP c (.osl 1 0) nilX (.osl 2 0) (.osl 3 0), sOb s.lines 0, nOb s.first 0, nOb s.last 0]
def obO1 (c : Cfg) (s : PS) : List Ob := [boxP c (.osl 1 1) (.osl 4 0) (.osl 2 0) (.osl 3 0), sOb s.lines 1, nOb s.first 0, nOb s.last 0, nOb (nI s.order) 0]
def psO (obs : List Ob) : PS := match obs with
  | [_, ls, f, l] => ⟨unS ls, [], unN f, unN l⟩
  | _ => ⟨[], [], [], []⟩
theorem psO_ob (c : Cfg) (s : PS) (h : s.order = []) : psO (obO c s) = s := by
  obtain ⟨a, b, d, e⟩ := s
  simp only at h
  subst h
  show PS.mk (unS (sOb a 0)) [] (unN (nOb d 0)) (unN (nOb e 0)) = _
  rw [unS_ob, unN_ob, unN_ob]
def MPartO : MFun := ⟨[true, false, false], fun xs obs => ∃ (c : Cfg) (s : PS) (i lv : Nat), xs = [.optr 0 0 0 0, I i, I lv] ∧ obs = obO c s ∧ s.order = [] ∧ okC c ∧ isCfg c = true ∧ i < c.cls.length ∧ lv = dp c.cls i ∧ s.first.length = c.cls.length ∧ s.last.length = c.cls.length ∧ s.lines.length + size c.cls i ≤ 1000,
  fun xs obs => (.tup [], obO1 (cOfB (hdO obs)) (partN (cOfB (hdO obs)) 8 (deI (xs.getD 1 .top)).toNat (deI (xs.getD 2 .top)).toNat (psO obs)))⟩
theorem mPartO_res (c : Cfg) (s : PS) (i lv : Nat) (h : s.order = []) : MPartO.res [.optr 0 0 0 0, I i, I lv] (obO c s) = (.tup [], obO1 c (partN c 8 i lv s)) := by
  show (X.tup [], obO1 (cOfB (boxP c (.osl 1 0) nilX (.osl 2 0) (.osl 3 0))) (partN (cOfB (boxP c (.osl 1 0) nilX (.osl 2 0) (.osl 3 0))) 8 (deI (I (i : Int))).toNat (deI (I (lv : Int))).toNat (psO (obO c s)))) = _
  rw [cOfB_box, psO_ob c s h, show deI (I (i : Int)) = i from rfl, show deI (I (lv : Int)) = lv from rfl, Int.toNat_natCast, Int.toNat_natCast]
theorem mPartO : GenNA K Tryz.prog 153 MPartO := by
  refine contractNA Tryz.mix K [(175, F175), (180, F180), (181, F181), (182, F182)] [] [(152, MLine), (153, MPart 8)] (by simp [c175, c180, c181, c182]) (by simp) (by simp [n152, mPart 8]) Tryz.func153 rfl (by decide) ?_
  rintro xs obs us ⟨c, s, i, lv, rfl, rfl, hso, ho, hg, hi, hlv, hf, hl, hsz⟩ hu
  obtain ⟨u0, u1, u2, u3, rfl⟩ : ∃ u0 u1 u2 u3, us = [u0, u1, u2, u3] := by
    match us, hu with
    | [a, b, c, d], _ => exact ⟨a, b, c, d, rfl⟩
  rw [mPartO_res _ _ _ _ hso]
  have T := tree_of (c := c) (by rw [← isCfg_eq]; exact hg)
  have hdp := dp_le T hi
  have hdpp := dp_pos (l := c.cls) i
  have hI : okI c (i : Int) := ⟨ho, by omega, by omega⟩
  have hoC : okC ⟨c.name, c.cls, c.fil, c.dflt⟩ := ho
  have hIC : okI ⟨c.name, c.cls, c.fil, c.dflt⟩ (i : Int) := hI
  obtain ⟨hd, hl0, hl60⟩ := cfg_hd hg i hi
  rw [atC_eq hi] at hd hl0 hl60
  have hds := headB_size hd
  have hns := numB_size c.cls[i].lim.toNat (by omega)
  have hl9 : c.cls[i].lim ≤ 1000000000 := by omega
  have hlv9 : lv ≤ 9 := by omega
  have hif : i < s.first.length := by omega
  have hil : i < s.last.length := by omega
  have hszp := size_pos c.cls i
  have h9 : 9 ≤ 8 + 1 + dp c.cls i := by omega
  have hwl24 := walk_len T hi
  have hlim0 := cfg_lim hg
  have how : s.order.length + (walk c.cls i).length ≤ 1000 := by rw [hso]; simp; omega
  have hwp : 1 ≤ (walk c.cls i).length := by rw [walk_eq T hi]; simp
  obtain ⟨o1, ho1⟩ : ∃ o1, s.order ++ [i] = o1 := ⟨_, rfl⟩
  have hO : [[I (i : Int)]] = iR (nI o1) := by rw [← ho1, hso]; rfl
  have ho1l : o1.length = 1 := by rw [← ho1, hso]; rfl
  have hol : s.order.length ≤ 1000 := by rw [hso]; simp
  refine ⟨⟨by rw [Tryz.ntmps153]; simp, by simp, fun k ob hob => ?_⟩, ?_⟩
  · match k, hob with
    | 0, hob => simp [obO] at hob; subst hob; exact ⟨_, rfl, rfl, rfl, rfl, rfl⟩
    | 1, hob => simp [obO] at hob; subst hob; exact ⟨_, rfl, rfl, rfl, rfl, rfl⟩
    | 2, hob => simp [obO] at hob; subst hob; exact ⟨_, rfl, rfl, rfl, rfl, rfl⟩
    | 3, hob => simp [obO] at hob; subst hob; exact ⟨_, rfl, rfl, rfl, rfl, rfl⟩
    | k + 4, hob => simp [obO] at hob
  by_cases hlf : leafB c.cls i = true
  · -- a leaf
    have hP : partN c 8 i lv s = leafP c i lv s := by simp [partN, hlf]
    obtain ⟨l1, hl1⟩ : ∃ l1, s.lines ++ [indB lv ++ (headB c.cls[i] ++ ⟨#[32, 108, 105, 109, 105, 116, 32]⟩ ++ numB c.cls[i].lim.toNat ++ ⟨#[59]⟩)] = l1 := ⟨_, rfl⟩
    have hts : (headB c.cls[i] ++ ⟨#[32, 108, 105, 109, 105, 116, 32]⟩ ++ numB c.cls[i].lim.toNat ++ ⟨#[59]⟩).size ≤ 2097152 := by
      simp only [ByteArray.size_append, show (ByteArray.mk #[32, 108, 105, 109, 105, 116, 32]).size = 7 from rfl, show (ByteArray.mk #[59]).size = 1 from rfl]
      omega
    have j1 := lnP c s.lines o1 s.first s.last lv _ hlv9 hts (by omega)
    have j2 := lnR c s.lines l1 o1 s.first s.last lv _ hl1
    have hll : l1.length = s.lines.length + 1 := by rw [← hl1]; simp
    rw [hP]
    simp -implicitDefEqProofs [Tryz.f153, List.lookup_cons, eS, F175, F180, F181, F182, obO, obF, boxP, sOb, nOb, nilX, hi, ho, hoC, hI, hIC, hlf, hd, hl0, hl9, hO, j1, j2, lnM, pickOkN, nI_len, ba_sz, szL, szS, OpOk, eBuildSlice, eAppend, srcRows, srcOk, chunk]
    refine ⟨fun r hr => iR_one hr, by omega, by omega, ?_⟩
    refine drawP_x _ [(0, 0), (1, 0), (2, 0), (3, 0), (4, 0), (5, 0), (6, 0), (7, 0), (8, 0), (9, 0), (10, 0)] [10] (by decide) ?_
    simp -implicitDefEqProofs [List.lookup_cons, eS, F175, F180, F181, F182, obO, obF, boxP, sOb, nOb, nilX, hi, ho, hoC, hI, hIC, hlf, hd, hl0, hl9, hO, j1, j2, lnM, pickOkN, nI_len, ba_sz, szL, szS, OpOk, eBuildSlice, eAppend, srcRows, srcOk, chunk]
    repeat refine ⟨by omega, ?_⟩
    refine drawP_x _ [(0, 0), (1, 0), (2, 0), (3, 0), (4, 0), (5, 0), (6, 0), (7, 0), (8, 0), (9, 0), (10, 0), (11, 0)] [11] (by decide) ?_
    simp -implicitDefEqProofs [List.lookup_cons, eS, F175, F180, F181, F182, obO, obF, boxP, sOb, nOb, nilX, hi, ho, hoC, hI, hIC, hlf, hd, hl0, hl9, hO, j1, j2, lnM, pickOkN, nI_len, ba_sz, szL, szS, OpOk, eBuildSlice, eAppend, srcRows, srcOk, chunk, hif, hil]
    refine drawP_x _ [(0, 0), (1, 0), (2, 0), (3, 0), (4, 0), (5, 0), (6, 0), (7, 0), (8, 0), (9, 0), (10, 0), (11, 0)] [11] (by decide) ?_
    simp -implicitDefEqProofs [List.lookup_cons, eS, F175, F180, F181, F182, obO, obF, boxP, sOb, nOb, nilX, hi, ho, hoC, hI, hIC, hlf, hd, hl0, hl9, hO, j1, j2, lnM, pickOkN, nI_len, ba_sz, szL, szS, OpOk, eBuildSlice, eAppend, srcRows, srcOk, chunk, hif, hil]
    refine finN [0, 1, 2, 3, 6] [0, 1, 0, 0, 0] (by simp [pickOkN]) (by simp [upd, tl_cons]) ?_
    simp [obO1, boxP, sOb, nOb, one, leafP, ho1, hll]
    rw [← hl1]
    unfold lnL
    rw [atC_eq hi]
  · -- one with children
    have hkn : ∃ k, k ∈ kids c.cls i c.cls.length := by
      rcases hks : kids c.cls i c.cls.length with _ | ⟨k, ks⟩
      · exact absurd (leaf_kids.2 hks) hlf
      · exact ⟨k, by simp⟩
    obtain ⟨k0, hk0⟩ := hkn
    have hd0 := dp_kid T hi (mem_kids.1 hk0).1 (mem_kids.1 hk0).2
    have hd8 := dp_le T (mem_kids.1 hk0).1
    obtain ⟨m, hm7⟩ : ∃ m, m = 7 := ⟨7, rfl⟩
    have hroom := fold_room T (n := m) (lv := lv) hi (by omega) (openP c i lv s)
    have hmem : ∀ k ∈ kids c.cls i c.cls.length, k < c.cls.length ∧ dp c.cls k = dp c.cls i + 1 := fun k hk => ⟨(mem_kids.1 hk).1, dp_kid T hi (mem_kids.1 hk).1 (mem_kids.1 hk).2⟩
    have hseq := size_eq T hi
    rw [if_neg hlf] at hseq
    have hweq : (walk c.cls i).length = 1 + ((kids c.cls i c.cls.length).map fun k => (walk c.cls k).length).sum := by rw [walk_eq T hi, List.length_cons, List.length_flatMap]; omega
    have hP : partN c 8 i lv s = closeP i lv ((kids c.cls i c.cls.length).foldl (fun t k => partN c m k (lv + 1) t) (openP c i lv s)) := by
      subst hm7
      show partN c (7 + 1) i lv s = _
      simp only [partN, hlf, if_false, Bool.false_eq_true]
    have hst := sum_take_le (kids c.cls i c.cls.length)
    have hkl := kids_len c.cls i c.cls.length
    rw [hP]
    obtain ⟨l1, hl1⟩ : ∃ l1, s.lines ++ [indB lv ++ (headB c.cls[i] ++ ⟨#[32, 123]⟩)] = l1 := ⟨_, rfl⟩
    have hts : (headB c.cls[i] ++ ⟨#[32, 123]⟩).size ≤ 2097152 := by
      simp only [ByteArray.size_append, szO]
      omega
    have j1 := lnP c s.lines o1 s.first s.last lv _ hlv9 hts (by omega)
    have j2 := lnR c s.lines l1 o1 s.first s.last lv _ hl1
    have hll : l1.length = s.lines.length + 1 := by rw [← hl1]; simp
    obtain ⟨s0, hs0⟩ : ∃ s0, openP c i lv s = s0 := ⟨_, rfl⟩
    have e0 : s0.lines = l1 := by rw [← hs0, ← hl1]; simp only [openP, lnO]; rw [atC_eq hi]
    have e1 : s0.order = o1 := by rw [← hs0, ← ho1]; rfl
    have e2 : s0.first = s.first.set i (l1.length : Int) := by rw [← hs0, hll]; simp only [openP]; simp
    have e3 : s0.last = s.last := by rw [← hs0]; rfl
    rw [hs0] at hroom ⊢
    generalize hK : kids c.cls i c.cls.length = ks at hroom hmem hseq hweq hst hkl ⊢
    have hnl := nI_len ks
    have hf2 : s0.first.length = c.cls.length := by rw [e2]; simp [hf]
    have hl2 : s0.last.length = c.cls.length := by rw [e3, hl]
    have ho2 : s0.order.length = s.order.length + 1 := by rw [e1, ← ho1]; simp
    have hs0l : s0.lines.length = l1.length := by rw [e0]
    have hlim := cfg_lim hg
    simp -implicitDefEqProofs [Tryz.f153, List.lookup_cons, eS, F175, F180, F181, F182, obO, obF, boxP, sOb, nOb, nilX, hi, ho, hoC, hI, hIC, hlf, hd, hl0, hl9, hO, j1, j2, lnM, pickOkN, nI_len, ba_sz, szL, szS, OpOk, eBuildSlice, eAppend, srcRows, srcOk, chunk, szO]
    refine ⟨fun r hr => iR_one hr, by omega, by omega, ?_⟩
    repeat refine ⟨by omega, ?_⟩
    refine drawP_x _ [(0, 0), (1, 0), (2, 0), (3, 0), (4, 0), (5, 0), (6, 0), (7, 0), (8, 0), (9, 0), (10, 0), (11, 0)] [11] (by decide) ?_
    simp -implicitDefEqProofs [List.lookup_cons, eS, F175, F180, F181, F182, obO, obF, boxP, sOb, nOb, nilX, hi, ho, hoC, hI, hIC, hlf, hd, hl0, hl9, hO, j1, j2, lnM, pickOkN, nI_len, ba_sz, szL, szS, OpOk, eBuildSlice, eAppend, srcRows, srcOk, chunk, szO, hif, hil, hK, iOb]
    refine loopP_inv (fun k : Nat => ⟨103, tl [(0, .optr 0 0 0 0), (1, I i), (2, I lv), (77, .osl 5 0), (78, I ks.length), (79, I k), (1000, .pin 0 0 u0), (1002, .pin 3 0 u2), (1003, .pin 4 0 u3)], obF c ((ks.take k).foldl (fun t k => partN c m k (lv + 1) t) s0) ++ [⟨3, 1, 0, iR (nI ks), false, true, none⟩]⟩) (fun k => k ≤ ks.length) (fun k => ks.length - k) 0 (Nat.zero_le _) ?_ ?_
    · refine Wk.tlPN [0, 1, 6, 2, 3, 7] (by simp [pickOkN]) ?_ ?_
      · simp [obO, obF, boxP, sOb, nOb, nilX, e0, e1, e2, e3]
      · simp [hold, upd, tl_cons]
    intro k hk
    obtain ⟨r1, r2, r3, r4⟩ := hroom k hk
    by_cases h : k < ks.length
    · obtain ⟨m1, m2⟩ := hmem ks[k] (List.getElem_mem h)
      have hw := w64n (show k < 4611686018427387904 by omega)
      have hwl := w64n (show lv < 4611686018427387904 by omega)
      have hsum := sum_take ks (size c.cls) k h
      have hsum2 := sum_take ks (fun k => (walk c.cls k).length) k h
      have hle1 := hst (size c.cls) (k + 1)
      have hle2 := hst (fun k => (walk c.cls k).length) (k + 1)
      have hft := fold_take (f := fun t k => partN c m k (lv + 1) t) ks s0 k h
      obtain ⟨q, hq⟩ : ∃ q, (ks.take k).foldl (fun t k => partN c m k (lv + 1) t) s0 = q := ⟨_, rfl⟩
      rw [hq] at r1 r2 r3 r4 hft ⊢
      obtain ⟨q', hq'⟩ : ∃ q', partN c m ks[k] (lv + 1) q = q' := ⟨_, rfl⟩
      rw [hq'] at hft
      have p1 := ptP 8 c q ks[k] lv ho hg m1 (by omega) (by omega) (by omega) (by omega) (by omega) (by omega)
      have p2 := ptR 8 c q q' ks[k] lv (by subst hm7; exact hq')
      simp -implicitDefEqProofs [List.lookup_cons, eS, F175, F180, F181, F182, obO, obF, boxP, sOb, nOb, nilX, hi, ho, hoC, hI, hIC, hlf, hd, hl0, hl9, hO, lnM, pickOkN, nI_len, ba_sz, szL, szS, OpOk, eBuildSlice, eAppend, srcRows, srcOk, chunk, h, hnl, nI_get, p1, p2, ptM, hwl]
      refine ⟨k + 1, by omega, by omega, ?_⟩
      rw [hft]
      refine Wk.tlPN [0, 1, 2, 3, 4, 5] (by simp [pickOkN]) ?_ ?_
      · simp [obF, boxP, sOb, nOb]
      · simp [hold, upd, tl_cons, hw]
    · have e : k = ks.length := by omega
      subst e
      rw [List.take_length] at r1 r2 r3 r4 ⊢
      obtain ⟨q, hq⟩ : ∃ q, ks.foldl (fun t k => partN c m k (lv + 1) t) s0 = q := ⟨_, rfl⟩
      rw [hq] at r1 r2 r3 r4 ⊢
      have hle1 := hst (size c.cls) ks.length
      obtain ⟨l2, hl2'⟩ : ∃ l2, q.lines ++ [indB lv ++ ⟨#[125]⟩] = l2 := ⟨_, rfl⟩
      have j3 := lnP c q.lines q.order q.first q.last lv ⟨#[125]⟩ hlv9 (by rw [szC]; omega) (by omega)
      have j4 := lnR c q.lines l2 q.order q.first q.last lv _ hl2'
      have hll2 : l2.length = q.lines.length + 1 := by rw [← hl2']; simp
      have hqa : i < q.last.length := by omega
      simp -implicitDefEqProofs [List.lookup_cons, eS, F175, F180, F181, F182, obO, obF, boxP, sOb, nOb, nilX, hi, ho, hoC, hI, hIC, hlf, hd, hl0, hl9, hO, lnM, pickOkN, nI_len, ba_sz, szL, szS, OpOk, eBuildSlice, eAppend, srcRows, srcOk, chunk, hnl, j3, j4]
      refine drawP_x _ [(0, 0), (1, 0), (2, 0), (3, 0), (4, 0), (5, 0), (6, 0), (7, 0), (8, 0), (9, 0), (10, 0), (11, 0)] [11] (by decide) ?_
      simp -implicitDefEqProofs [List.lookup_cons, eS, F175, F180, F181, F182, obO, obF, boxP, sOb, nOb, nilX, hi, ho, hoC, hI, hIC, hlf, hd, hl0, hl9, hO, lnM, pickOkN, nI_len, ba_sz, szL, szS, OpOk, eBuildSlice, eAppend, srcRows, srcOk, chunk, hqa]
      refine finN [0, 1, 3, 4, 2] [0, 1, 0, 0, 0] (by simp [pickOkN]) (by simp [upd, tl_cons]) ?_
      simp [obO1, boxP, sOb, nOb, one, closeP, hll2]
      rw [← hl2']
      rfl
end Go.Proofs
