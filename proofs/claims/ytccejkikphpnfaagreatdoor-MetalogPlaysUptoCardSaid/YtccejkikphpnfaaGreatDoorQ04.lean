
/- How slices that come in are opened, whatever their elements: a list of plain things, each laid in so many cells. -/
import Derived.Test.YtccejkikphpnfaaGreatDoorQ03
import Derived.Carry
import Derived.ChangeOld
namespace Go.Proofs.YtccejkikphpnfaaGreatDoor
set_option linter.unusedSimpArgs false
set_option linter.unusedVariables false
set_option maxRecDepth 100000
open Go.ChangeShapes Go.WideShapes Go.ChangeAt Go.RowKit
/-- What the document's reader is, in the mind: what is left, or what is wrong. -/
def absR (l : List UInt8) (at_ : Nat) (e : Int) : RS := if e = 0 then ⟨l.drop at_, 0⟩ else ⟨[], e⟩
/-- The block br holds the bytes (they lie in block F), the place, and what is wrong. -/
structure Rf (w : World) (br : Nat) (F : Option Nat) (s : RS) : Prop where
 ex : ∃ a c l at_ e, w.heap[br]? = some (.cells #[.slice a l.length c, .int .i64 (at_ : Nat), .int .i64 e] 149 (0, 0)) ∧ Vw w a l.length c 1 (bvs l) ∧ blk a = F ∧ at_ ≤ l.length ∧ l.length ≤ 100000000 ∧ s = absR l at_ e
 ne : F ≠ some br
/-- What take leaves. -/
def RfTook (w : World) (br : Nat) (F : Option Nat) (n : Nat) (s : RS) (e : Ending) (w' : World) : Prop :=
 ∃ a c b, e = .returned (.tuple #[.slice a (takeS n s).1.length c, .bool b]) ∧ Vw w' a (takeS n s).1.length c 1 (bvs (takeS n s).1) ∧ Rf w' br F (takeS n s).2 ∧ Upd (fun k => k = br) w w'
set_option maxHeartbeats 1000000 in
theorem rftake_any (br : Nat) (F : Option Nat) (s : RS) (n : Int) (w : World) (hr : Rf w br F s) (hn0 : s.e = 0 → 0 ≤ n) (hn1 : n ≤ 1000000000000) :
  Calls Tryz.prog 161 #[.pointer (some ⟨br, 0, none⟩), .int .i64 n] w (RfTook w br F n.toNat s) := by
 obtain ⟨⟨a, c, l, p, e0, hh, hv, hb, hp, hlm, rfl⟩, hne⟩ := hr
 have hc0 : w.cell? ⟨br, 0, none⟩ = some (.slice a l.length c) := by rw [cell_of_row _ _ _ _ _ _ hh]; rfl
 have hc1 : w.cell? ⟨br, 1, none⟩ = some (.int .i64 p) := by rw [cell_of_row _ _ _ _ _ _ hh]; rfl
 have hc2 : w.cell? ⟨br, 2, none⟩ = some (.int .i64 e0) := by rw [cell_of_row _ _ _ _ _ _ hh]; rfl
 have hf0 : w.frozen? ⟨br, 1, none⟩ = false := by simp [World.frozen?, hh]
 have hf2 : w.frozen? ⟨br, 2, none⟩ = false := by simp [World.frozen?, hh]
 have hcap := hv.cap
 have hlc := hv.le
 unfold maxLen at hcap
 by_cases he : e0 = 0
 ·subst he
  have hn0 : 0 ≤ n := hn0 rfl
  obtain ⟨k, rfl⟩ := Int.eq_ofNat_of_zero_le hn0
  have hs1 : IntKind.i64.wrap ((l.length : Int) - p) = (l.length : Int) - p := IntWalk.i64_in _ (by omega)
  have hs2 : IntKind.i64.wrap ((p : Int) + k) = (p : Int) + k := IntWalk.i64_in _ (by omega)
  by_cases hk : (l.length : Int) - p < k
  ·have e1 : takeS (k : Int).toNat (absR l p 0) = ([], ⟨[], 4⟩) := by
    have : l.length - p < k := by omega
    simp [takeS, absR, this]
   have E1 := Lib.hid e1; clear e1
   go_enter Tryz.func161, Tryz.ntmps161
   go_wp2_with fail
   go_quiet (fail)
   go_wp2_with fail
   go_ret2
   unfold RfTook
   rw [E1.out]
   refine ⟨none, 0, false, rfl, Vw.nl _ _, ⟨⟨a, c, l, p, 4, ?_, ?_, hb, hp, hlm, rfl⟩, hne⟩, (Upd.drewN (fun k => k = br) w _).trans (Upd.setCell (S := fun k => k = br) _ rfl _)⟩
   ·rw [setCell_heap 2 _ (show (w.drewN _).heap[br]? = _ from hh)]; rfl
   ·refine hv.upd ((Upd.drewN (fun k => k = br) w _).trans (Upd.setCell (S := fun k => k = br) _ rfl _)) (fun j hj e => ?_)
    rw [e] at hj; exact hne (hb.symm.trans hj)
  ·have hle : p + k ≤ l.length := by omega
   have hs3 : IntKind.i64.wrap ((p : Int) + k - k) = (p : Int) := by rw [IntWalk.i64_in _ (by omega)]; omega
   have e1 : takeS (k : Int).toNat (absR l p 0) = ((l.drop p).take k, ⟨l.drop (p + k), 0⟩) := by
    have : ¬ l.length - p < k := by omega
    simp [takeS, absR, this]
   have hl1 : ((l.drop p).take k).length = k := by simp; omega
   have v1 := hv.part p (p + k) c (by omega) hle (Nat.le_refl _) (by omega)
   have hk2 : p + k - p = k := by omega
   rw [hk2] at v1
   have fin : ∀ (nq nq2 m c2 : Nat) (y : Int) (a2 : Option Addr), m = k → c2 = c - p → y = (p : Int) + k → a2 = (if c = p then a else a.map (·.add (p * 1))) → RfTook w br F (k : Int).toNat (absR l p 0) (.returned (.tuple #[.slice a2 m c2, .bool true])) ((((w.drewN nq).setCell ⟨br, 1, none⟩ (.int .i64 y))).drewN nq2) := by
    intro nq nq2 m c2 y a2 hm hc2 hy ha2
    rw [hm, hc2, hy]
    rw [← ha2] at v1
    have hU : Upd (fun k => k = br) w ((((w.drewN nq).setCell ⟨br, 1, none⟩ (.int .i64 ((p : Int) + k)))).drewN nq2) :=
     ((Upd.drewN (fun k => k = br) w nq).trans (Upd.setCell (S := fun k => k = br) _ rfl _)).trans (Upd.drewN _ _ nq2)
    have hnb : ∀ j, blk a = some j → ¬ j = br := fun j hj e => by rw [e] at hj; exact hne (hb.symm.trans hj)
    have hb2 : blk a2 = blk a := by
     rw [ha2]; split
     ·rfl
     ·cases a with
      | none => rfl
      | some x => simp only [blk, Option.map_some, Addr.add]; split <;> rfl
    unfold RfTook
    rw [e1]
    simp only [hl1]
    refine ⟨a2, c - p, true, rfl, ?_, ⟨⟨a, c, l, p + k, 0, ?_, hv.upd hU hnb, hb, hle, hlm, by simp [absR]⟩, hne⟩, hU⟩
    ·have := v1.upd hU (fun j hj => hnb j (hb2 ▸ hj))
     simpa [bvs, List.map_take, List.map_drop] using this
    ·show ((w.drewN nq).setCell ⟨br, 1, none⟩ (.int .i64 ((p : Int) + k))).heap[br]? = _
     rw [setCell_heap 1 _ (show (w.drewN _).heap[br]? = _ from hh)]; simp
   have HF := Lib.hid fin
   have hpc : (p : Int) ≤ c := by omega
   clear fin v1 e1 hl1
   by_cases hcp : c = p
   ·have hk0 : k = 0 := by omega
    subst hk0
    subst hcp
    go_enter Tryz.func161, Tryz.ntmps161
    go_wp2_with fail
    go_quiet (fail)
    go_wp2_with fail
    go_quiet (fail)
    go_wp2_with fail
    go_ret2
    exact HF.out _ _ _ _ _ a rfl (by simp) (by simp) (by simp)
   ·go_enter Tryz.func161, Tryz.ntmps161
    go_wp2_with fail
    go_quiet (fail)
    go_wp2_with fail
    go_quiet (fail)
    go_wp2_with fail
    go_ret2
    exact HF.out _ _ _ _ _ _ hk2 rfl rfl (by rw [if_neg hcp]; simp)
 ·have hb1 : (e0 == 0) = false := by simpa using he
  have hb2 : (e0 != 0) = true := by simpa using he
  have e1 : takeS n.toNat (absR l p e0) = ([], absR l p e0) := by simp [takeS, absR, he]
  have E1 := Lib.hid e1; clear e1
  go_enter Tryz.func161, Tryz.ntmps161
  go_wp2_with fail
  go_quiet (fail)
  go_wp2_with fail
  go_ret2
  unfold RfTook
  rw [E1.out]
  exact ⟨none, 0, false, by simp, by exact Vw.nl _ _, ⟨⟨a, c, l, p, e0, hh, hv.upd (Upd.drewN (fun _ => False) w _) (fun _ _ h => h), hb, hp, hlm, rfl⟩, hne⟩, Upd.drewN _ _ _⟩
/-- What a reading of the document's leaves. -/
def RfRead (w : World) (br : Nat) (F : Option Nat) (s' : RS) (v : Value) (e : Ending) (w' : World) : Prop :=
 e = .returned v ∧ Rf w' br F s' ∧ Upd (fun k => k = br) w w'
theorem Rf.err {w : World} {br : Nat} {F : Option Nat} {s : RS} (h : Rf w br F s) : w.cell? ⟨br, 2, none⟩ = some (.int .i64 s.e) := by
 obtain ⟨⟨a, c, l, p, e, hh, hv, hb, hp, hlm, rfl⟩, hne⟩ := h
 have he : (absR l p e).e = e := by unfold absR; split <;> simp_all
 rw [cell_of_row _ _ _ _ _ _ hh, he]; rfl
theorem Rf.thaw {w : World} {br : Nat} {F : Option Nat} {s : RS} (h : Rf w br F s) (o : Nat) : w.frozen? ⟨br, o, none⟩ = false := by
 obtain ⟨⟨a, c, l, p, e, hh, hv, hb, hp, hlm, rfl⟩, hne⟩ := h
 simp [World.frozen?, hh]
theorem Rf.len {w : World} {br : Nat} {F : Option Nat} {s : RS} (h : Rf w br F s) : s.l.length ≤ 100000000 := by
 obtain ⟨⟨a, c, l, p, e, hh, hv, hb, hp, hlm, rfl⟩, hne⟩ := h
 unfold absR; split <;> simp; omega
theorem Rf.upd {S : Nat → Prop} {w w' : World} {br : Nat} {F : Option Nat} {s : RS} (h : Rf w br F s) (hU : Upd S w w') (h1 : ¬ S br) (h2 : ∀ k, F = some k → ¬ S k) : Rf w' br F s := by
 obtain ⟨⟨a, c, l, p, e, hh, hv, hb, hp, hlm, rfl⟩, hne⟩ := h
 exact ⟨⟨a, c, l, p, e, (hU.block br (lt_of_heap hh) h1).trans hh, hv.upd hU (fun k hk => h2 k (hb ▸ hk)), hb, hp, hlm, rfl⟩, hne⟩
/-- Something is wrong from now on. -/
theorem Rf.fail {w : World} {br : Nat} {F : Option Nat} {s : RS} (h : Rf w br F s) (e' : Int) (he' : e' ≠ 0) : Rf (w.setCell ⟨br, 2, none⟩ (.int .i64 e')) br F ⟨[], e'⟩ := by
 obtain ⟨⟨a, c, l, p, e, hh, hv, hb, hp, hlm, rfl⟩, hne⟩ := h
 refine ⟨⟨a, c, l, p, e', ?_, hv.upd (Upd.setCell (S := fun k => k = br) w rfl _) (fun j hj x => ?_), hb, hp, hlm, by simp [absR, he']⟩, hne⟩
 ·rw [setCell_heap 2 _ hh]; rfl
 ·rw [x] at hj; exact hne (hb.symm.trans hj)
theorem or_low (b : UInt8) (m : Nat) (h : m < 2 ^ 56) : Value.int IntKind.u64 (bits BinOp.or IntKind.u64 (IntKind.u64.wrap ((m : Int) * 2 ^ 8)) (IntKind.u64.wrap (b.toNat : Int))) = Value.int IntKind.u64 ((b.toNat + 256 * m : Nat) : Int) := by
 have hb := b.toNat_lt
 generalize b.toNat = n at *
 have e1 : IntKind.u64.wrap (n : Int) = n := by simp [IntKind.wrap, IntKind.bits, IntKind.signed]; omega
 have e3 : IntKind.u64.wrap ((m : Int) * 2 ^ 8) = ((m * 2 ^ 8 : Nat) : Int) := by
  simp only [IntKind.wrap, IntKind.bits, IntKind.signed]
  simp
  omega
 rw [e1, e3, u64_or_nat _ n (by omega) (by omega), Nat.or_comm, or_high n m 8 (by omega)]
 congr 2
 omega
theorem rfnum_any (br : Nat) (F : Option Nat) (s : RS) (n : Int) (w : World) (hr : Rf w br F s) :
  Calls Tryz.prog 147 #[.pointer (some ⟨br, 0, none⟩), .int .i64 n] w (RfRead w br F (takeS (heldN n) s).2 (.int .u64 (leN (takeS (heldN n) s).1))) := by
 have hN : max 1 (min n 8) = (heldN n : Int) := by unfold heldN; omega
 have h8 : heldN n ≤ 8 := by unfold heldN; omega
 generalize heldN n = k at *
 have HN := Lib.hid hN; clear hN
 go_enter Tryz.func147, Tryz.ntmps147
 go_wp2_with fail
 rw [HN.out]
 refine (rftake_any br F s k w hr (fun _ => by omega) (by omega)).mono ?_
 simp only [Int.toNat_natCast]
 rintro e w1 ⟨a, c, b, rfl, hv, hR, hU⟩
 have hlen : (takeS k s).1.length ≤ 8 := by
  unfold takeS; split
  ·simp
  ·split <;> simp; omega
 generalize (takeS k s).1 = t at *
 generalize (takeS k s).2 = s' at *
 go_wp2_with fail
 go_loop [7, 8] (fun v i => ∃ j : Nat, j ≤ t.length ∧ i = .int .i64 ((j : Int) - 1) ∧ v = .int .u64 (leN (t.drop j))) (fun _ i => (intOf i + 1).toNat)
 case atStart => exact ⟨t.length, Nat.le_refl _, rfl, by simp [leN]⟩
 case round =>
  obtain ⟨j, hj, rfl, rfl⟩ := hrel
  by_cases hlt : 0 < j
  ·obtain ⟨i, rfl⟩ : ∃ i, j = i + 1 := ⟨j - 1, by omega⟩
   obtain ⟨b, off, rfl, hcell⟩ := hv.at (by omega) (by decide)
   have hce := hcell i _ (bvs_get t i (by omega))
   have hd : leN (t.drop i) = t[i].toNat + 256 * leN (t.drop (i + 1)) := by
    rw [List.drop_eq_getElem_cons (by omega : i < t.length), leN]
   have hsm : leN (t.drop (i + 1)) < 2 ^ 56 := by
    have h1 := leN_lt (t.drop (i + 1))
    have h2 : (t.drop (i + 1)).length ≤ 7 := by simp; omega
    have h3 : (256 : Nat) ^ (t.drop (i + 1)).length ≤ 256 ^ 7 := Nat.pow_le_pow_right (by decide) h2
    omega
   have hi1 : ((i + 1 : Nat) : Int) - 1 = i := by omega
   rw [hi1]
   have HD := Lib.hid hd
   have HS := Lib.hid hsm
   clear hd hsm hi1
   go_wp2_with fail
   go_round
   case rel => exact ⟨i, by omega, by go_num, by rw [HD.out]; exact or_low _ _ HS.out⟩
   case measure => first | (simp [intOf]; done) | (simp [intOf]; omega)
  ·obtain rfl : j = 0 := by omega
   go_wp2_with fail
   go_ret
   exact ⟨by simp, hR, hU⟩
theorem intV_eq (s : RS) : intV s = if (takeS 4 s).2.e ≠ 0 then 0 else (leN (takeS 4 s).1 : Int) - 1 := by
 unfold intV takeS
 by_cases h : s.e = 0
 ·by_cases h4 : 4 ≤ s.l.length
  ·have : ¬ s.l.length < 4 := by omega
   simp [h, h4, this]
  ·have : s.l.length < 4 := by omega
   simp [h, h4, this]
 ·simp [h]
theorem rfint_any (br : Nat) (F : Option Nat) (s : RS) (w : World) (hr : Rf w br F s) :
  Calls Tryz.prog 110 #[.pointer (some ⟨br, 0, none⟩)] w (RfRead w br F (takeS 4 s).2 (.int .i64 (intV s))) := by
 go_enter Tryz.func110, Tryz.ntmps110
 go_wp2_with fail
 refine (rfnum_any br F s 4 w hr).mono ?_
 rw [show heldN 4 = 4 from rfl]
 rintro e w1 ⟨rfl, hR, hU⟩
 have hlt := leN_lt (takeS 4 s).1
 have hl4 : (takeS 4 s).1.length ≤ 4 := by
  unfold takeS; split
  ·simp
  ·split <;> simp; omega
 have hlt4 : leN (takeS 4 s).1 < 4294967296 := by
  have : (256 : Nat) ^ (takeS 4 s).1.length ≤ 256 ^ 4 := Nat.pow_le_pow_right (by decide) hl4
  omega
 clear hlt hl4
 have hV := intV_eq s
 generalize intV s = iv at *
 generalize (takeS 4 s).1 = t at *
 generalize (takeS 4 s).2 = s1 at *
 generalize leN t = m at *
 have hc := hR.err
 by_cases he : s1.e = 0
 ·have hb : (s1.e != 0) = false := by simp [he]
  rw [if_neg (by simp [he])] at hV
  have HV := Lib.hid hV
  have hw : IntKind.i64.wrap (m : Int) = m := IntWalk.i64_in _ (by omega)
  clear hV he
  go_wp2_with fail
  go_ret
  exact ⟨by rw [HV.out]; rfl, hR, hU⟩
 ·have hb : (s1.e != 0) = true := by simp [he]
  rw [if_pos he] at hV
  have HV := Lib.hid hV
  clear hV he
  go_wp2_with fail
  go_ret
  exact ⟨by rw [HV.out]; rfl, hR, hU⟩
theorem rftext_any (br : Nat) (F : Option Nat) (s : RS) (w : World) (hr : Rf w br F s) :
  Calls Tryz.prog 148 #[.pointer (some ⟨br, 0, none⟩)] w (RfRead w br F (textS s).2 (.string (str (textS s).1))) := by
 go_enter Tryz.func148, Tryz.ntmps148
 go_wp2_with fail
 refine (rfint_any br F s w hr).mono ?_
 rintro e w1 ⟨rfl, hR, hU⟩
 have hd1 : textS s = if (takeS 4 s).2.e ≠ 0 then ([], (takeS 4 s).2) else if intV s < 0 then ([], ⟨[], 5⟩) else takeS (intV s).toNat (takeS 4 s).2 := rfl
 have hnil : (takeS 4 s).2.e ≠ 0 → (takeS 4 s).2.l = [] ∨ (takeS 4 s).2 = s := by
  unfold takeS; split
  ·intro _; exact .inr rfl
  ·split
   ·intro _; exact .inl rfl
   ·intro h; exact absurd rfl h
 have hbd := intV_bd s
 generalize (takeS 4 s).2 = s1 at *
 generalize intV s = n at *
 have hbd1 := hbd.1
 have hbd2 : n ≤ 4294967296 := by omega
 have hc := hR.err
 have hfz := hR.thaw 2
 clear hbd hnil
 by_cases he : s1.e = 0
 ·have hb : (s1.e == 0) = true := by simp [he]
  by_cases hn : n < 0
  ·have hd : textS s = ([], ⟨[], 5⟩) := by rw [hd1, if_neg (by simp [he]), if_pos hn]
   have HD := Lib.hid hd
   have hR2 := hR.fail 5 (by decide)
   clear hd hd1 he
   go_wp2_with fail
   refine (rftake_any br F ⟨[], 5⟩ n _ hR2 (fun h => by cases h) (by omega)).mono ?_
   rintro e w2 ⟨a, c, b, rfl, hv, hR3, hU2⟩
   have e1 : takeS n.toNat ⟨[], 5⟩ = ([], ⟨[], 5⟩) := by simp [takeS]
   rw [e1] at hv hR3
   simp only [e1]
   have hconv := hv.conv
   simp only [List.length_nil] at hconv
   go_wp2_with fail
   go_ret
   unfold RfRead
   rw [HD.out]
   exact ⟨rfl, hR3, (hU.trans (Upd.setCell (S := fun k => k = br) w1 rfl _)).trans hU2⟩
  ·have hd : textS s = takeS n.toNat s1 := by rw [hd1, if_neg (by simp [he]), if_neg hn]
   have HD := Lib.hid hd
   clear hd hd1
   have he' := Lib.hid he; clear he
   go_wp2_with fail
   refine (rftake_any br F s1 n w1 hR (fun _ => by omega) (by omega)).mono ?_
   rintro e w2 ⟨a, c, b, rfl, hv, hR2, hU2⟩
   have hconv := hv.conv
   generalize hT : (takeS n.toNat s1).1 = t at *
   have HT := Lib.hid hT
   clear hT
   go_wp2_with fail
   go_ret
   unfold RfRead
   rw [HD.out, HT.out]
   exact ⟨rfl, hR2, hU.trans hU2⟩
 ·have hb : (s1.e == 0) = false := by simp [he]
  have hd : textS s = ([], s1) := by rw [hd1, if_pos he]
  have HD := Lib.hid hd
  have e1 : takeS n.toNat s1 = ([], s1) := by simp [takeS, he]
  have he' := Lib.hid he
  have E1 := Lib.hid e1
  clear hd hd1 he e1
  go_wp2_with fail
  refine (rftake_any br F s1 n w1 hR (fun h => absurd h he'.out) (by omega)).mono ?_
  rintro e w2 ⟨a, c, b, rfl, hv, hR2, hU2⟩
  rw [E1.out] at hv hR2
  simp only [E1.out]
  have hconv := hv.conv
  simp only [List.length_nil] at hconv
  go_wp2_with fail
  go_ret
  unfold RfRead
  rw [HD.out]
  exact ⟨rfl, hR2, hU.trans hU2⟩
theorem rfbool_any (br : Nat) (F : Option Nat) (s : RS) (w : World) (hr : Rf w br F s) :
  Calls Tryz.prog 111 #[.pointer (some ⟨br, 0, none⟩)] w (RfRead w br F (boolS s).2 (.bool (boolS s).1)) := by
 go_enter Tryz.func111, Tryz.ntmps111
 go_wp2_with fail
 refine (rfnum_any br F s 1 w hr).mono ?_
 rw [show heldN 1 = 1 from rfl]
 rintro e w1 ⟨rfl, hR, hU⟩
 have hd1 : boolS s = if (takeS 1 s).2.e = 0 ∧ 1 < leN (takeS 1 s).1 then (false, ⟨[], 5⟩) else (leN (takeS 1 s).1 == 1, (takeS 1 s).2) := rfl
 have hz : (takeS 1 s).2.e ≠ 0 → leN (takeS 1 s).1 = 0 := by
  unfold takeS; split
  ·intro _; rfl
  ·split
   ·intro _; rfl
   ·intro h; exact absurd rfl h
 generalize (takeS 1 s).2 = s1 at *
 generalize leN (takeS 1 s).1 = n at *
 have hc := hR.err
 have hfz := hR.thaw 2
 by_cases he : s1.e = 0
 ·have hb : (s1.e == 0) = true := by simp [he]
  by_cases hn : 1 < n
  ·have hn1 : (1 : Int) < (n : Int) := by omega
   have hd : boolS s = (false, ⟨[], 5⟩) := by rw [hd1, if_pos ⟨he, hn⟩]
   have HD := Lib.hid hd
   have hR2 := hR.fail 5 (by decide)
   have hfin : Upd (fun k => k = br) w (w1.setCell ⟨br, 2, none⟩ (.int .i64 5)) := hU.trans (Upd.setCell (S := fun k => k = br) w1 rfl _)
   clear hd hd1 he hz
   go_wp2_with fail
   go_ret
   unfold RfRead
   rw [HD.out]
   exact ⟨rfl, hR2, hfin⟩
  ·have hn1 : ¬ (1 : Int) < (n : Int) := by omega
   have hd : boolS s = (n == 1, s1) := by rw [hd1, if_neg (fun h => hn h.2)]
   have HD := Lib.hid hd
   have hq : ((n : Int) == 1) = (n == 1) := by rw [Bool.eq_iff_iff]; simp; omega
   have HQ := Lib.hid hq
   clear hd hd1 he hq hz
   go_wp2_with fail
   go_ret
   unfold RfRead
   rw [HD.out, ← HQ.out]
   exact ⟨rfl, hR, hU⟩
 ·have hb : (s1.e == 0) = false := by simp [he]
  have hd : boolS s = (false, s1) := by rw [hd1, if_neg (fun h => he h.1), hz he]; rfl
  have HD := Lib.hid hd
  clear hd hd1 he hz
  go_wp2_with fail
  go_ret
  unfold RfRead
  rw [HD.out]
  exact ⟨rfl, hR, hU⟩
/-- One more cell of a row of the call's own. -/
theorem ownsRow_more {w : World} {e : TypeId} {g n c : Nat} {xs : List Value} (h : w.ownsRow 0 e 1 (.slice (some ⟨g, 0, none⟩) n c) n xs) (hn : n < c) (u : Value) :
  (w.setCell ⟨g, n, none⟩ u).ownsRow 0 e 1 (.slice (some ⟨g, 0, none⟩) (n + 1) c) (n + 1) (xs ++ [u]) := by
 rcases h.2 with ⟨hv, _⟩ | ⟨g', cap, cur, hv, hbg, hg, hnc, hcm, hcs, htake⟩
 ·cases hv
 ·simp only [Value.slice.injEq, Option.some.injEq, Addr.mk.injEq, and_true, true_and] at hv
  obtain ⟨rfl, rfl⟩ := hv
  simp only [Nat.mul_one] at *
  refine ⟨by rw [List.length_append, h.1]; simp, .inr ⟨g, c, cur.setIfInBounds n u, rfl, hbg, setCell_heap n u hg, hn, hcm, by simpa using hcs, ?_⟩⟩
  rw [← htake, Nat.mul_one]
  have hl : n < cur.toList.length := by rw [Array.length_toList]; omega
  rw [Array.toList_setIfInBounds]
  rw [List.take_succ_eq_append_getElem (by simpa using hl), List.take_set_of_le (Nat.le_refl n)]
  simp
theorem ownsRow_cell {w : World} {e : TypeId} {g n c : Nat} {xs : List Value} (h : w.ownsRow 0 e 1 (.slice (some ⟨g, 0, none⟩) n c) n xs) (j : Nat) (hj : j < c) : ∃ v, w.cell? ⟨g, j, none⟩ = some v ∧ w.frozen? ⟨g, j, none⟩ = false := by
 rcases h.2 with ⟨hv, _⟩ | ⟨g', cap, cur, hv, hbg, hg, hnc, hcm, hcs, htake⟩
 ·cases hv
 ·simp only [Value.slice.injEq, Option.some.injEq, Addr.mk.injEq, and_true, true_and] at hv
  obtain ⟨rfl, rfl⟩ := hv
  rw [cell_of_row _ _ _ _ _ _ hg]
  exact ⟨cur[j]'(by omega), by simp, by simp [World.frozen?, hg]⟩
/-- A copy with three more behind it. -/
def OwnedB (w : World) (l : List UInt8) (f : UInt8) (e : Ending) (w' : World) : Prop :=
 ∃ g, e = .returned (.slice (some ⟨g, 0, none⟩) l.length (l.length + 3)) ∧ w'.ownsRow 0 5 1 (.slice (some ⟨g, 0, none⟩) (l.length + 3) (l.length + 3)) (l.length + 3) (bvs (l ++ [f, f, f])) ∧ Upd (fun _ => False) w w' ∧ w.heap.size ≤ g
set_option maxRecDepth 100000 in
set_option maxHeartbeats 1000000 in
theorem ownB_any (a : Option Addr) (c : Nat) (l : List UInt8) (f : UInt8) (w : World) (hv : Vw w a l.length c 1 (bvs l)) (hl : l.length ≤ 100000000) :
  Calls Tryz.prog 34 #[.slice a l.length c, .int .u8 (f.toNat : Int)] w (OwnedB w l f) := by
 obtain ⟨i0, hi, hz0, hz1, hz2⟩ := info_parts infoU8
 have hs3 : IntKind.i64.wrap ((l.length : Int) + 3) = (l.length : Int) + 3 := IntWalk.i64_in _ (by omega)
 go_enter Tryz.func34, Tryz.ntmps34
 go_wp2_with (at_make; refine wpList_make_own w rfl (.const (.int .i64 0)) (.tmp 10) 33 rfl 0 5 i0 (.int .u8 0) 1 Tryz.underlying33 hi hz0 hz1 .i64 .i64 ((l.length : Int) + 3) (l.length + 3) rfl rfl (by omega) ?_ ?_ (Nat.zero_le _) ?_)
 ·rw [hz2]; omega
 ·unfold maxLen; omega
 intro w1 hown1 hg1
 have hU1 : Upd (fun _ => False) w w1 := Upd.grown hg1 (fun k hk => by cases hk)
 have hv1 := hv.upd hU1 (fun _ _ h => h)
 have hsrc := hv1.src (P := Tryz.prog) (t := 33) Tryz.underlying33 (bvs_cells l)
 clear hg1 hv
 go_wp2_with (at_builtin; refine wpList_fits _ rfl (.tmp 12) (.tmp 13) 33 33 rfl 5 i0 1 Tryz.underlying33 hi hz1 (some ⟨w.heap.size, 0, none⟩) 0 (l.length + 3) [] rfl hown1 (.slice a l.length c) l.length (bvs l) rfl hsrc ?_ ?_)
 ·omega
 intro w2 hown2 hg2
 try simp only [Nat.zero_add, List.nil_append] at hown2
 have hU2 : Upd (fun _ => False) w w2 := hU1.next (Upd.grown (S := fun k => k = w.heap.size) hg2 (fun k hk => by simpa [blk] using hk.symm)) (fun i hi h => by omega)
 generalize hg : w.heap.size = g at *
 have HG := Lib.hid hg
 clear hg hown1 hU1 hg2 hsrc hv1
 have hq : (l.length : Int) + 3 = ((l.length + 3 : Nat) : Int) := by omega
 have HQ := Lib.hid hq; clear hq
 go_wp2_with fail
 go_loopw [7] (fun i wr => ∃ j : Nat, j ≤ 3 ∧ i = .int .i64 ((l.length + j : Nat) : Int) ∧ wr.ownsRow 0 5 1 (.slice (some ⟨g, 0, none⟩) (l.length + j) (l.length + 3)) (l.length + j) (bvs (l ++ List.replicate j f)) ∧ Upd (fun _ => False) w wr) (fun i _ => (l.length + 3) - (intOf i).toNat)
 case atStart => exact ⟨0, by omega, rfl, by simpa using hown2, hU2⟩
 case round =>
  obtain ⟨j, hj, rfl, hown, hU⟩ := hrel
  clear hown2 hU2
  by_cases hlt : j < 3
  ·obtain ⟨v, hce, hfr⟩ := ownsRow_cell hown (l.length + j) (by omega)
   have hown' := ownsRow_more hown (by omega) (.int .u8 (f.toNat : Int))
   have hU' : Upd (fun _ => False) w (wr.setCell ⟨g, l.length + j, none⟩ (.int .u8 (f.toNat : Int))) := hU.next (Upd.setCell (S := fun k => k = g) wr rfl _) (fun i hi h => by have := HG.out; omega)
   have hI : ((l.length + j : Nat) : Int) < ((l.length : Nat) : Int) + 3 := by omega
   have hI2 : ((l.length + j : Nat) : Int).toNat = l.length + j := by omega
   have H1 := Lib.hid hown'
   have H2 := Lib.hid hU'
   clear hown' hU'
   go_wp2_with fail
   go_roundw
   case rel =>
    refine ⟨j + 1, by omega, by go_num, ?_, H2.out⟩
    have := H1.out
    simpa [bvs, bv, List.replicate_succ', ← List.append_assoc, Nat.add_assoc] using this
   case measure => simp [intOf]; omega
  ·obtain rfl : j = 3 := by omega
   go_wp2_with fail
   go_ret
   exact ⟨g, rfl, by simpa using hown, hU, by have := HG.out; omega⟩
/-! Lists of bytes held against each other -/
theorem eqlB_any (x y : UInt8) (w : World) : Calls Tryz.prog 114 #[.int .u8 (x.toNat : Int), .int .u8 (y.toNat : Int)] w fun e w' => e = .returned (.bool (x == y)) ∧ w = w' := by
 have h : ((x.toNat : Int) == (y.toNat : Int)) = (x == y) := by
  rw [Bool.eq_iff_iff]; simp [← UInt8.toNat_inj]; omega
 have H := Lib.hid h; clear h
 go_enter Tryz.func114, Tryz.ntmps114
 go_wp2
 go_ret
 exact ⟨by rw [← H.out]; rfl, rfl⟩
set_option maxRecDepth 100000 in
set_option maxHeartbeats 1000000 in
theorem sameB_any (a a2 : Option Addr) (c c2 : Nat) (l k : List UInt8) (w : World) (hv : Vw w a l.length c 1 (bvs l)) (hv2 : Vw w a2 k.length c2 1 (bvs k)) :
  Calls Tryz.prog 113 #[.slice a l.length c, .slice a2 k.length c2, .func (.func 114) #[] #[]] w fun e w' => e = .returned (.bool (l == k)) ∧ Upd (fun _ => False) w w' := by
 have hcap := hv.cap
 have hlc := hv.le
 have hcap2 := hv2.cap
 have hlc2 := hv2.le
 unfold maxLen at hcap hcap2
 by_cases hlen : l.length = k.length
 ·have hb : ((l.length : Int) != (k.length : Int)) = false := by simp [hlen]
  have HL := Lib.hid hlen
  clear hlen
  go_enter Tryz.func113, Tryz.ntmps113
  go_wp2_with fail
  go_loopw [7] (fun i wr => ∃ j : Nat, j ≤ l.length ∧ i = .int .i64 (j : Int) ∧ Upd (fun _ => False) w wr ∧ Hid (l.take j = k.take j)) (fun i _ => l.length - (intOf i).toNat)
  case atStart => exact ⟨0, Nat.zero_le _, rfl, Upd.refl _ _, rfl⟩
  case round =>
   obtain ⟨j, hj, rfl, hU, hE⟩ := hrel
   have hvr := hv.upd hU (fun _ _ h => h)
   have hvr2 := hv2.upd hU (fun _ _ h => h)
   by_cases hlt : j < l.length
   ·have hlt2 : j < k.length := by have := HL.out; omega
    obtain ⟨b, off, rfl, hcell⟩ := hvr.at (by omega) (by decide)
    obtain ⟨b2, off2, rfl, hcell2⟩ := hvr2.at (by omega) (by decide)
    have hce := hcell j _ (bvs_get l j hlt)
    have hce2 := hcell2 j _ (bvs_get k j hlt2)
    have hI : (j : Int) < (l.length : Int) := by omega
    have hI2 : (j : Int) < (k.length : Int) := by omega
    have hI0 : (0 : Int) ≤ (j : Int) := by omega
    by_cases hxy : l[j] = k[j]
    ·have hbe : (l[j] == k[j]) = true := by simpa using hxy
     have HX := Lib.hid hxy; clear hxy
     go_wp2_with fail
     go_quiet ((go_at_call 114; exact Calls.quiet_of_same ((eqlB_any _ _ _).mono fun e w' h => ⟨h.1, h.2.symm⟩)))
     go_wp2_with fail
     go_roundw
     case rel => exact ⟨j + 1, by omega, by go_num, hU.trans (Upd.drewN _ _ _), by show _ = _; rw [take_succ_get l j hlt, take_succ_get k j hlt2, hE.out, HX.out]⟩
     case measure => simp [intOf]; omega
    ·have hbe : (l[j] == k[j]) = false := by simpa using hxy
     have hne : (l == k) = false := by
      cases h : l == k
      ·rfl
      ·have e := eq_of_beq h
       exact absurd (by subst e; rfl) hxy
     have HNE := Lib.hid hne; clear hne hxy
     go_wp2_with fail
     go_quiet ((go_at_call 114; exact Calls.quiet_of_same ((eqlB_any _ _ _).mono fun e w' h => ⟨h.1, h.2.symm⟩)))
     go_wp2_with fail
     go_ret
     exact ⟨by rw [HNE.out]; rfl, hU.trans (Upd.drewN _ _ _)⟩
   ·have hI : ¬ (j : Int) < (l.length : Int) := by omega
    have heq : (l == k) = true := by
     have := hE.out
     rw [List.take_of_length_le (by omega), List.take_of_length_le (by have := HL.out; omega)] at this
     simpa using this
    have HE := Lib.hid heq; clear heq
    go_wp2_with fail
    go_ret
    exact ⟨by rw [HE.out]; rfl, hU⟩
 ·have hb : ((l.length : Int) != (k.length : Int)) = true := by simp; omega
  have hne : (l == k) = false := by
   cases h : l == k
   ·rfl
   ·exact absurd (by rw [eq_of_beq h]) hlen
  have HNE := Lib.hid hne; clear hne hlen
  go_enter Tryz.func113, Tryz.ntmps113
  go_wp2_with fail
  go_ret
  exact ⟨by rw [HNE.out]; rfl, Upd.refl _ _⟩
theorem plainB_any (a a2 : Option Addr) (c c2 : Nat) (l k : List UInt8) (w : World) (hv : Vw w a l.length c 1 (bvs l)) (hv2 : Vw w a2 k.length c2 1 (bvs k)) :
  Calls Tryz.prog 72 #[.slice a l.length c, .slice a2 k.length c2] w fun e w' => e = .returned (.bool (l == k)) ∧ Upd (fun _ => False) w w' := by
 go_enter Tryz.func72, Tryz.ntmps72
 go_wp2_with (go_at_call 113; refine (sameB_any a a2 c c2 l k w hv hv2).mono ?_; rintro e w1 ⟨rfl, hU⟩)
 go_ret
 exact ⟨rfl, hU⟩
/-- The copy, and the room behind it, are as they were. -/
theorem keptB_any (g : Nat) (a2 : Option Addr) (c2 : Nat) (l : List UInt8) (f : UInt8) (w : World) (hl : l.length ≤ 100000000)
  (hown : w.ownsRow 0 5 1 (.slice (some ⟨g, 0, none⟩) (l.length + 3) (l.length + 3)) (l.length + 3) (bvs (l ++ [f, f, f]))) (hv2 : Vw w a2 l.length c2 1 (bvs l)) :
  Calls Tryz.prog 36 #[.slice (some ⟨g, 0, none⟩) l.length (l.length + 3), .slice a2 l.length c2, .int .u8 (f.toNat : Int)] w fun e w' => e = .returned (.bool true) ∧ Upd (fun _ => False) w w' := by
 have hv := Vw.of_own hown
 have hp := hv.pre l.length (by omega)
 have hp' : Vw w (some ⟨g, 0, none⟩) l.length (l.length + 3) 1 (bvs l) := by simpa [bvs] using hp
 have hs3 : IntKind.i64.wrap ((l.length : Int) + 3) = (l.length : Int) + 3 := IntWalk.i64_in _ (by omega)
 have hcells : ∀ j, l.length ≤ j → j < l.length + 3 → w.cell? ⟨g, j, none⟩ = some (.int .u8 (f.toNat : Int)) := by
  intro j h1 h2
  have := hv.cell _ rfl j (.int .u8 (f.toNat : Int)) (by
   simp only [bvs, List.map_append]
   rw [List.getElem?_append_right (by simpa using h1)]
   obtain ⟨i, rfl⟩ : ∃ i, j = l.length + i := ⟨j - l.length, by omega⟩
   match i, h2 with
   | 0, _ => simp [bv]
   | 1, _ => simp [bv]
   | 2, _ => simp [bv]
   | i + 3, h => exact absurd h (by omega))
  unfold Addr.add at this
  split at this
  ·rename_i h; subst h; exact this
  ·simpa using this
 have HC := Lib.hid hcells
 clear hcells hp hv hown
 have hq : (l.length : Int) + 3 = ((l.length + 3 : Nat) : Int) := by omega
 have HQ := Lib.hid hq; clear hq
 go_enter Tryz.func36, Tryz.ntmps36
 go_wp2_with fail
 refine (plainB_any (some ⟨g, 0, none⟩) a2 (l.length + 3) c2 l l w hp' hv2).mono ?_
 rintro e w1 ⟨rfl, hU⟩
 have hr : (l == l) = true := by simp
 go_wp2_with fail
 go_loop [8] (fun i => ∃ j : Nat, j ≤ 3 ∧ i = .int .i64 ((l.length + j : Nat) : Int)) (fun i => (l.length + 3) - (intOf i).toNat)
 case atStart => exact ⟨0, by omega, rfl⟩
 case round =>
  obtain ⟨j, hj, rfl⟩ := hrel
  by_cases hlt : j < 3
  ·have hc := HC.out (l.length + j) (by omega) (by omega)
   have hc1 : w1.cell? ⟨g, l.length + j, none⟩ = some (.int .u8 (f.toNat : Int)) := by
    rw [hU.cell (World.block_lt_of_cell? w _ hc) (fun h => h)]; exact hc
   have hI : ((l.length + j : Nat) : Int) < ((l.length : Nat) : Int) + 3 := by omega
   have hI2 : ((l.length + j : Nat) : Int).toNat = l.length + j := by omega
   clear hc hp' hv2
   go_wp2_with fail
   go_round
   case rel => exact ⟨j + 1, by omega, by go_num⟩
   case measure => simp [intOf]; omega
  ·obtain rfl : j = 3 := by omega
   go_wp2_with fail
   go_ret
   exact ⟨rfl, hU⟩
/-- 'same.Bytes'. -/
theorem sBytes_any (a a2 : Option Addr) (c c2 : Nat) (l k : List UInt8) (w : World) (hv : Vw w a l.length c 1 (bvs l)) (hv2 : Vw w a2 k.length c2 1 (bvs k)) :
  Calls Tryz.prog 15 #[.slice a l.length c, .slice a2 k.length c2] w fun e w' => e = .returned (.bool (l == k)) ∧ w = w' := by
 have h1 := hv.conv
 have h2 := hv2.conv
 go_enter Tryz.func15, Tryz.ntmps15
 go_wp2_with fail
 go_ret
 exact ⟨rfl, rfl⟩
theorem Frame.own : ownKnob Tryz.prog.godebug = none := by kernel_rfl
theorem Frame.laidOut : laidOutB Tryz.prog = true := by kernel_rfl
theorem trodAll_below {H : Type} {enc : TypeId × Value → H} {P : Program} (hl : laidOutB P = true) {W W' : World} (hb : Below W.heap.size W W') :
  ∀ (ts : List TypeId) (vs : List Value) (ds : List (DataW H)) (ps : List MemPlace), (ts.all fun t => P.readableRec t && decide (t < P.types.size)) = true →
   DataW.TrodAll enc P W 0 (fun _ => true) true ts vs ds ps → DataW.TrodAll enc P W' 0 (fun b => decide (b < W.heap.size)) true ts vs ds ps := by
 intro ts
 induction ts with
 | nil =>
  intro vs ds ps _ h
  obtain ⟨rfl, rfl, rfl⟩ := trodAll_nil h
  exact trodAll_mk0
 | cons t ts ih =>
  intro vs ds ps hr h
  obtain ⟨v, vs', d, ds', p, p', rfl, rfl, rfl, h1, h2⟩ := trodAll_cons h
  simp only [List.all_cons, Bool.and_eq_true, decide_eq_true_eq] at hr
  have lt : ∀ x ∈ p, x.block < W.heap.size := by obtain ⟨m, hm⟩ := h1; exact DataW.trod_lt m _ _ _ hm
  exact trodAll_cons_mk (Below.trod hl hr.1.1 hr.1.2 h1 hb lt) (ih vs' ds' p' (by simpa [List.all_eq_true] using hr.2) h2)
theorem Addr.add_add (a : Addr) (m r : Nat) : (a.add m).add r = a.add (m + r) := by
 unfold Addr.add
 by_cases h1 : m = 0 <;> by_cases h2 : r = 0 <;> simp_all [Nat.add_assoc]
theorem flatMap_length {X : Type} (dec : X → List Value) (k : Nat) (hk : ∀ x, (dec x).length = k) (xs : List X) : (xs.flatMap dec).length = xs.length * k := by
 induction xs with
 | nil => simp
 | cons x xs ih => rw [List.flatMap_cons, List.length_append, hk, ih, List.length_cons, Nat.succ_mul, Nat.add_comm]
theorem flatMap_get {X : Type} (dec : X → List Value) (k : Nat) (hk : ∀ x, (dec x).length = k) : ∀ (xs : List X) (i r : Nat), r < k → (xs.flatMap dec)[i * k + r]? = (xs[i]?).bind fun x => (dec x)[r]? := by
 intro xs
 induction xs with
 | nil => intro i r _; simp
 | cons x xs ih =>
  intro i r hr
  cases i with
  | zero =>
   rw [List.flatMap_cons, Nat.zero_mul, Nat.zero_add, List.getElem?_append_left (by rw [hk]; exact hr)]
   simp
  | succ i =>
   rw [List.flatMap_cons, List.getElem?_append_right (by rw [hk, Nat.succ_mul]; omega), hk, Nat.succ_mul, show i * k + k + r - k = i * k + r from by omega, ih i r hr]
   simp
theorem cells?_get {w : World} {base : Nat} {a : Addr} {n : Nat} {cs : List Value} (h : w.cells? base a n = some cs) : cs.length = n ∧ ∀ r, r < n → w.cell? (a.add r) = cs[r]? := by
 unfold World.cells? at h
 split at h
 ·have h1 := mapM_some_length h
  refine ⟨by simpa using h1, fun r hr => ?_⟩
  have := mapM_some_get h r r (by simp [hr])
  exact this
 ·cases h
end Go.Proofs.YtccejkikphpnfaaGreatDoor
