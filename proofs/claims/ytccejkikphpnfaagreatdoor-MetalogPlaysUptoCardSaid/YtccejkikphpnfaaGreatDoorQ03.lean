
/- The walks of the document's writer (rickref01). -/
import Derived.Test.YtccejkikphpnfaaGreatDoorQ02
namespace Go.Proofs.YtccejkikphpnfaaGreatDoor
set_option linter.unusedSimpArgs false
set_option linter.unusedVariables false
set_option maxRecDepth 100000
open Go.ChangeShapes Go.WideShapes Go.ChangeAt Go.RowKit
/-- A new slice of bytes, the call's own; nothing that was there has changed. -/
def MadeB (w : World) (l : List UInt8) (nil : Bool) (e : Ending) (w' : World) : Prop :=
 ∃ a c, e = .returned (.slice a l.length c) ∧ w'.ownsRow 0 5 1 (.slice a l.length c) l.length (bvs l) ∧ Upd (fun _ => False) w w' ∧ (∀ g, blk a = some g → w.heap.size ≤ g) ∧ (a = none ↔ nil = true)
theorem clone_any (a : Option Addr) (c : Nat) (l : List UInt8) (w : World) (hv : Vw w a l.length c 1 (bvs l)) (hl : l.length ≤ 100000000) :
  Calls Tryz.prog 84 #[.slice a l.length c] w (MadeB w l a.isNone) := by
 obtain ⟨i0, hi, hz0, hz1, hz2⟩ := info_parts infoU8
 cases a with
 | none =>
  have hc := hv.nil rfl
  have hn : l.length = 0 := by have := hv.le; omega
  have hl0 : l = [] := List.eq_nil_of_length_eq_zero hn
  subst hl0 hc
  go_enter Tryz.func84, Tryz.ntmps84
  go_wp2_with fail
  go_ret
  exact ⟨none, 0, rfl, World.ownsRow_nil _ _ _ _, Upd.refl _ _, (fun g h => by cases h), (by simp)⟩
 | some x =>
  have hsrc := hv.src (P := Tryz.prog) (t := 33) Tryz.underlying33 (bvs_cells l)
  go_enter Tryz.func84, Tryz.ntmps84
  go_wp2_with (at_builtin; refine wpList_app _ rfl (.tmp 5) (.tmp 6) 33 33 rfl 5 i0 (.int .u8 0) 1 1 Tryz.underlying33 hi hz0 hz1 hz2 rfl (some ⟨w.heap.size, 0, none⟩) 0 0 [] rfl (World.ownsRow_made w #[] 0 (Nat.zero_le _) (Nat.zero_le _) (by simp)) (.slice (some x) l.length c) l.length (bvs l) rfl ?_ ?_ ?_ ?_)
  ·exact (hv.upd (Upd.alloc (fun _ => False) w _) (fun _ _ h => h)).src (P := Tryz.prog) (t := 33) Tryz.underlying33 (bvs_cells l)
  ·unfold maxLen; omega
  ·omega
  intro a2 c2 w2 hown hg hat hnil
  go_wp2_with fail
  go_ret
  simp only [Nat.zero_add, List.nil_append] at *
  refine ⟨a2, c2, rfl, hown, ?_, ?_, ?_⟩
  ·exact (Upd.alloc (fun _ => False) w (.cells #[] 5)).next (Upd.grown (S := fun k => k = w.heap.size) hg (fun k hk => by simpa [blk] using hk.symm)) (fun i hi h => by omega)
  ·intro g hg'
   rcases hat with h | h
   ·rw [h] at hg'; simp [blk] at hg'; omega
   ·rw [h] at hg'; simp at hg'; omega
  ·simp [hnil]
theorem bytes_any (bw : Nat) (T : TypeId) (a : Option Addr) (c : Nat) (l : List UInt8) (w : World) (hw : Wr w bw T a c l) (hl : l.length ≤ 100000000) :
  Calls Tryz.prog 48 #[.pointer (some ⟨bw, 0, none⟩)] w (MadeB w l a.isNone) := by
 have hc : w.cell? ⟨bw, 0, none⟩ = some (.slice a l.length c) := by rw [cell_of_row _ _ _ _ _ _ hw.here]; rfl
 go_enter Tryz.func48, Tryz.ntmps48
 go_wp2_with fail
 refine (clone_any a c l w (Vw.of_own hw.own) hl).mono ?_
 rintro e w' ⟨a', c', rfl, hrest⟩
 go_wp2_with fail
 go_ret
 exact ⟨a', c', rfl, hrest⟩
/-- A reader: the block br holds the slice of what is left, and what is wrong; the bytes lie in block F. -/
structure Rd (w : World) (br : Nat) (F : Option Nat) (l : List UInt8) (e : Int) : Prop where
 ex : ∃ a c, w.heap[br]? = some (.cells #[.slice a l.length c, .int .i64 e] 169 (0, 0)) ∧ Vw w a l.length c 1 (bvs l) ∧ (blk a = none ∨ blk a = F)
 ne : F ≠ some br
/-- What a reader is, in the mind. -/
structure RS where
 l : List UInt8
 e : Int
def takeS (n : Nat) (s : RS) : List UInt8 × RS := if s.e ≠ 0 then ([], s) else if s.l.length < n then ([], ⟨[], 4⟩) else (s.l.take n, ⟨s.l.drop n, 0⟩)
theorem wrong_any (br : Nat) (F : Option Nat) (l : List UInt8) (e0 e : Int) (w : World) (hr : Rd w br F l e0) :
  Calls Tryz.prog 141 #[.pointer (some ⟨br, 0, none⟩), .int .i64 e] w fun x w' => x = .returned (.tuple #[]) ∧ Rd w' br F [] e ∧ Upd (fun k => k = br) w w' := by
 obtain ⟨⟨a, c, hh, hv, hb⟩, hne⟩ := hr
 have hc0 : w.cell? ⟨br, 0, none⟩ = some (.slice a l.length c) := by rw [cell_of_row _ _ _ _ _ _ hh]; rfl
 have hc1 : w.cell? ⟨br, 1, none⟩ = some (.int .i64 e0) := by rw [cell_of_row _ _ _ _ _ _ hh]; rfl
 have hf0 : w.frozen? ⟨br, 0, none⟩ = false := by simp [World.frozen?, hh]
 have hf1 : w.frozen? ⟨br, 1, none⟩ = false := by simp [World.frozen?, hh]
 go_enter Tryz.func141, Tryz.ntmps141
 go_wp2_with fail
 go_end0
 refine ⟨rfl, ⟨⟨none, 0, ?_, Vw.nl _ _, .inl rfl⟩, hne⟩, (Upd.setCell (S := fun k => k = br) w rfl _).trans (Upd.setCell (S := fun k => k = br) _ rfl _)⟩
 rw [setCell_heap 1 _ (setCell_heap 0 _ hh)]; rfl
/-- What take leaves: the bytes that are taken (they lie in the reader's block), and the reader behind them. -/
def Took (w : World) (br : Nat) (F : Option Nat) (n : Nat) (s : RS) (e : Ending) (w' : World) : Prop :=
 ∃ a c, e = .returned (.slice a (takeS n s).1.length c) ∧ Vw w' a (takeS n s).1.length c 1 (bvs (takeS n s).1) ∧ (blk a = none ∨ blk a = F) ∧ (a = none ∨ s.e = 0 ∧ n ≤ s.l.length) ∧ Rd w' br F (takeS n s).2.l (takeS n s).2.e ∧ Upd (fun k => k = br) w w'
theorem take_any (br : Nat) (F : Option Nat) (s : RS) (n : Nat) (w : World) (hr : Rd w br F s.l s.e) (hl : s.l.length ≤ 100000000) :
  Calls Tryz.prog 129 #[.pointer (some ⟨br, 0, none⟩), .int .i64 n] w (Took w br F n s) := by
 obtain ⟨l, e0⟩ := s
 have hr0 := hr
 obtain ⟨⟨a, c, hh, hv, hb⟩, hne⟩ := hr
 simp only at hh hv hb hl
 have hc0 : w.cell? ⟨br, 0, none⟩ = some (.slice a l.length c) := by rw [cell_of_row _ _ _ _ _ _ hh]; rfl
 have hc1 : w.cell? ⟨br, 1, none⟩ = some (.int .i64 e0) := by rw [cell_of_row _ _ _ _ _ _ hh]; rfl
 have hf0 : w.frozen? ⟨br, 0, none⟩ = false := by simp [World.frozen?, hh]
 by_cases he : e0 = 0
 ·subst he
  by_cases hn : l.length < n
  ·go_enter Tryz.func129, Tryz.ntmps129
   go_wp2_with (go_at_call 141; refine (wrong_any br F l 0 4 w hr0).mono ?_; rintro e w' ⟨rfl, hR, hU⟩)
   go_ret
   have e1 : takeS n ⟨l, 0⟩ = ([], ⟨[], 4⟩) := by simp [takeS, hn]
   unfold Took
   rw [e1]
   exact ⟨none, 0, rfl, Vw.nl _ _, .inl rfl, .inl rfl, hR, hU⟩
  ·have hle : n ≤ l.length := by omega
   have hcap := hv.cap
   have hlc := hv.le
   unfold maxLen at hcap
   have e1 : takeS n ⟨l, 0⟩ = (l.take n, ⟨l.drop n, 0⟩) := by simp [takeS, hn]
   have v1 := hv.pre n hle
   have v2 := hv.post n hle
   have l1 : (l.take n).length = n := by simp; omega
   have l2 : (l.drop n).length = l.length - n := by simp
   have fin : ∀ a2, a2 = (if c = n then a else a.map (·.add (n * 1))) → Took w br F n ⟨l, 0⟩ (.returned (.slice a n c)) (w.setCell ⟨br, 0, none⟩ (.slice a2 (l.length - n) (c - n))) := by
    intro a2 ha2
    rw [← ha2] at v2
    have hnb : ∀ k, blk a = some k → k ≠ br := by
     intro k hk e
     rcases hb with h | h
     ·rw [h] at hk; cases hk
     ·exact hne (by rw [← h, hk, e])
    have hb2 : blk a2 = blk a := by
     rw [ha2]; split
     ·rfl
     ·cases a with
      | none => rfl
      | some x => simp only [blk, Option.map_some, Addr.add]; split <;> rfl
    unfold Took
    rw [e1]
    simp only [l1]
    refine ⟨a, c, rfl, ?_, hb, .inr ⟨trivial, hle⟩, ⟨⟨a2, c - n, ?_, ?_, ?_⟩, hne⟩, Upd.setCell (S := fun k => k = br) w rfl _⟩
    ·have := v1.upd (Upd.setCell (S := fun k => k = br) w (p := ⟨br, 0, none⟩) rfl (.slice a2 (l.length - n) (c - n))) (fun k hk => hnb k hk)
     simpa [bvs, List.map_take] using this
    ·rw [setCell_heap 0 _ hh, l2]; rfl
    ·have := v2.upd (Upd.setCell (S := fun k => k = br) w (p := ⟨br, 0, none⟩) rfl (.slice a2 (l.length - n) (c - n))) (fun k hk => hnb k (hb2 ▸ hk))
     rw [l2]
     simpa [bvs, List.map_drop] using this
    ·rw [hb2]; exact hb
   clear v1 v2 e1 l1 l2
   have HF := Lib.hid fin; clear fin
   by_cases hcn : c = n
   ·subst hcn
    go_enter Tryz.func129, Tryz.ntmps129
    go_wp2_with fail
    go_ret
    have := HF.out a (by simp)
    have hz : l.length - c = 0 := by omega
    rw [Nat.sub_self, hz] at this
    exact this
   ·go_enter Tryz.func129, Tryz.ntmps129
    go_wp2_with fail
    go_ret
    exact HF.out _ (by rw [if_neg hcn]; simp)
 ·have hb1 : (e0 != 0) = true := by simpa using he
  go_enter Tryz.func129, Tryz.ntmps129
  go_wp2_with fail
  go_ret
  have e1 : takeS n ⟨l, e0⟩ = ([], ⟨l, e0⟩) := by simp [takeS, he]
  unfold Took
  rw [e1]
  exact ⟨none, 0, rfl, Vw.nl _ _, .inl rfl, .inl rfl, hr0, Upd.refl _ _⟩
theorem leN_le (x k : Nat) : leN (le x k) = x % 256 ^ k := by
 induction k generalizing x with
 | zero => simp [le, leN, Nat.mod_one]
 | succ k ih =>
  rw [le, leN, ih, UInt8.toNat_ofNat', show 256 ^ (k + 1) = 256 * 256 ^ k from by rw [Nat.pow_succ, Nat.mul_comm], Nat.mod_mul]
theorem err_any (br : Nat) (F : Option Nat) (l : List UInt8) (e : Int) (w : World) (hr : Rd w br F l e) : Calls Tryz.prog 140 #[.pointer (some ⟨br, 0, none⟩)] w fun x w' => x = .returned (.int .i64 e) ∧ w = w' := by
 obtain ⟨⟨a, c, hh, hv, hb⟩, hne⟩ := hr
 have hc1 : w.cell? ⟨br, 1, none⟩ = some (.int .i64 e) := by rw [cell_of_row _ _ _ _ _ _ hh]; rfl
 go_enter Tryz.func140, Tryz.ntmps140
 go_wp2
 go_ret
 exact ⟨rfl, rfl⟩
def heldN (n : Int) : Nat := (min (max n 1) 8).toNat
/-- What a number's reading leaves. -/
def ReadN (w : World) (br : Nat) (F : Option Nat) (s' : RS) (v : Value) (e : Ending) (w' : World) : Prop :=
 e = .returned v ∧ Rd w' br F s'.l s'.e ∧ Upd (fun k => k = br) w w'
theorem rnum_any (br : Nat) (F : Option Nat) (s : RS) (n : Int) (w : World) (hr : Rd w br F s.l s.e) (hl : s.l.length ≤ 100000000) :
  Calls Tryz.prog 94 #[.pointer (some ⟨br, 0, none⟩), .int .i64 n] w (ReadN w br F (takeS (heldN n) s).2 (.int .u64 (leN (takeS (heldN n) s).1))) := by
 have hN : min (max n 1) 8 = (heldN n : Int) := by unfold heldN; omega
 have h8 : heldN n ≤ 8 := by unfold heldN; omega
 generalize heldN n = k at *
 have HN := Lib.hid hN; clear hN
 go_enter Tryz.func94, Tryz.ntmps94
 go_wp2_with fail
 refine (held_any _ _).mono ?_
 rintro e w' ⟨rfl, rfl⟩
 rw [HN.out]
 go_wp2_with fail
 refine (take_any br F s k w hr hl).mono ?_
 rintro e w1 ⟨a, c, rfl, hv, hb, hz, hR, hU⟩
 have hlen : (takeS k s).1.length ≤ 8 := by
  unfold takeS; split
  ·simp
  ·split <;> simp; omega
 generalize (takeS k s).1 = t at *
 generalize (takeS k s).2 = s' at *
 go_wp2_with fail
 go_loop [5, 13] (fun v i => ∃ j : Nat, j ≤ t.length ∧ i = .int .i64 j ∧ v = .int .u64 (leN (t.take j))) (fun _ i => t.length - (intOf i).toNat)
 case atStart => exact ⟨0, Nat.zero_le _, rfl, rfl⟩
 case round =>
  obtain ⟨j, hj, rfl, rfl⟩ := hrel
  by_cases hlt : j < t.length
  ·obtain ⟨b, off, rfl, hcell⟩ := hv.at (by omega) (by decide)
   have hce := hcell j _ (bvs_get t j hlt)
   go_wp2_with fail
   go_round
   case rel => exact ⟨j + 1, by omega, by go_num, or_step_u64 t j (by omega) hlt⟩
   case measure => simp [intOf]; omega
  ·go_wp2_with fail
   go_ret
   have e : List.take j t = t := List.take_of_length_le (by omega)
   refine ⟨?_, hR, hU⟩
   simp only [e]
   rfl
/-- The number that Int reads. -/
def intV (s : RS) : Int := if s.e = 0 ∧ 4 ≤ s.l.length then (leN (s.l.take 4) : Int) - 1 else 0
theorem rint_any (br : Nat) (F : Option Nat) (s : RS) (w : World) (hr : Rd w br F s.l s.e) (hl : s.l.length ≤ 100000000) :
  Calls Tryz.prog 98 #[.pointer (some ⟨br, 0, none⟩)] w (ReadN w br F (takeS 4 s).2 (.int .i64 (intV s))) := by
 go_enter Tryz.func98, Tryz.ntmps98
 go_wp2_with fail
 refine (take_any br F s 4 w hr hl).mono ?_
 rintro e w1 ⟨a, c, rfl, hv, hb, hz, hR, hU⟩
 by_cases hok : s.e = 0 ∧ 4 ≤ s.l.length
 ·have e1 : takeS 4 s = (s.l.take 4, ⟨s.l.drop 4, 0⟩) := by simp [takeS, hok.1]; omega
  have e2 : intV s = (leN (takeS 4 s).1 : Int) - 1 := by rw [e1]; exact if_pos hok
  have hlen : (takeS 4 s).1.length = 4 := by rw [e1]; simp; omega
  have hlt4 := leN_lt (takeS 4 s).1
  rw [hlen] at hlt4
  generalize (takeS 4 s).1 = t at *
  generalize (takeS 4 s).2 = s' at *
  obtain ⟨b, off, rfl, hcell⟩ := hv.at (by omega) (by decide)
  have hlen' : t.length ≤ 4 := by omega
  have E2 := Lib.hid e2
  clear hlen e1 e2 hok
  go_wp2_with fail
  go_loop [4, 13] (fun v i => ∃ j : Nat, j ≤ t.length ∧ i = .int .i64 j ∧ v = .int .i64 (leN (t.take j))) (fun _ i => t.length - (intOf i).toNat)
  case atStart => exact ⟨0, Nat.zero_le _, rfl, rfl⟩
  case round =>
   obtain ⟨j, hj, rfl, rfl⟩ := hrel
   by_cases hlt : j < t.length
   ·have hce := hcell j _ (bvs_get t j hlt)
    have hby := t[j].toNat_lt
    go_wp2_with fail
    go_round
    case rel => exact ⟨j + 1, by omega, by go_num, or_step_i64 t j (by omega) hlt⟩
    case measure => simp [intOf]; omega
   ·obtain rfl : j = t.length := by omega
    rw [List.take_length]
    have hlt4' : (leN t : Int) ≤ 4294967296 := by omega
    go_wp2_with fail
    go_ret
    unfold ReadN
    rw [E2.out]
    exact ⟨rfl, hR, hU⟩
 ·have e2 : intV s = 0 := if_neg hok
  have ha : a = none := by
   rcases hz with h | h
   ·exact h
   ·exact absurd h hok
  subst ha
  have E2 := Lib.hid e2
  clear hok e2
  go_wp2_with fail
  go_ret
  unfold ReadN
  rw [E2.out]
  exact ⟨rfl, hR, hU⟩
theorem takeS_len (n : Nat) (s : RS) : (takeS n s).2.l.length ≤ s.l.length := by
 unfold takeS; split
 ·exact Nat.le_refl _
 ·split <;> simp
/-- What Text reads, and what it leaves. -/
def textS (s : RS) : List UInt8 × RS :=
 if (takeS 4 s).2.e ≠ 0 then ([], (takeS 4 s).2) else if intV s < 0 then ([], ⟨[], 5⟩) else takeS (intV s).toNat (takeS 4 s).2
theorem intV_bd (s : RS) : -1 ≤ intV s ∧ intV s < 4294967296 := by
 unfold intV
 split
 ·rename_i h
  have := leN_lt (s.l.take 4)
  have e : (s.l.take 4).length = 4 := by simp; omega
  rw [e] at this
  omega
 ·omega
theorem rtext_any (br : Nat) (F : Option Nat) (s : RS) (w : World) (hr : Rd w br F s.l s.e) (hl : s.l.length ≤ 100000000) :
  Calls Tryz.prog 136 #[.pointer (some ⟨br, 0, none⟩)] w (ReadN w br F (textS s).2 (.string (str (textS s).1))) := by
 have hlen := takeS_len 4 s
 go_enter Tryz.func136, Tryz.ntmps136
 go_wp2_with fail
 refine (rint_any br F s w hr hl).mono ?_
 rintro e w1 ⟨rfl, hR, hU⟩
 have hd1 : textS s = if (takeS 4 s).2.e ≠ 0 then ([], (takeS 4 s).2) else if intV s < 0 then ([], ⟨[], 5⟩) else takeS (intV s).toNat (takeS 4 s).2 := rfl
 have hbd := intV_bd s
 generalize (takeS 4 s).2 = s1 at *
 generalize intV s = n at *
 have hbd1 := hbd.1
 have hbd2 : n ≤ 4294967296 := by omega
 clear hbd
 by_cases he : s1.e = 0
 ·have hb : (s1.e != 0) = false := by simp [he]
  by_cases hn : n < 0
  ·have hd : textS s = ([], ⟨[], 5⟩) := by rw [hd1, if_neg (by simp [he]), if_pos hn]
   have HD := Lib.hid hd
   clear hd hd1 he
   go_wp2_with fail
   refine (err_any br F s1.l s1.e w1 hR).mono ?_
   rintro e w' ⟨rfl, rfl⟩
   go_wp2_with fail
   refine (wrong_any br F s1.l s1.e 5 w1 hR).mono ?_
   rintro e w2 ⟨rfl, hR2, hU2⟩
   go_wp2_with fail
   go_ret
   unfold ReadN
   rw [HD.out]
   exact ⟨rfl, hR2, hU.trans hU2⟩
  ·have hd : textS s = takeS n.toNat s1 := by rw [hd1, if_neg (by simp [he]), if_neg hn]
   have HD := Lib.hid hd
   clear hd hd1 he
   obtain ⟨k, rfl⟩ := Int.eq_ofNat_of_zero_le (by omega : 0 ≤ n)
   go_wp2_with fail
   refine (err_any br F s1.l s1.e w1 hR).mono ?_
   rintro e w' ⟨rfl, rfl⟩
   go_wp2_with fail
   refine (take_any br F s1 k w1 hR (by omega)).mono ?_
   rintro e w2 ⟨a, c, rfl, hv, hb2, hz, hR2, hU2⟩
   have hconv := hv.conv
   generalize hT : (takeS k s1).1 = t at *
   have HT := Lib.hid hT
   clear hT
   go_wp2_with fail
   go_ret
   unfold ReadN
   rw [HD.out]
   simp only [Int.toNat_natCast]
   rw [HT.out]
   exact ⟨rfl, hR2, hU.trans hU2⟩
 ·have hb : (s1.e != 0) = true := by simp [he]
  have hd : textS s = ([], s1) := by rw [hd1, if_pos he]
  have HD := Lib.hid hd
  clear hd hd1 he
  go_wp2_with fail
  refine (err_any br F s1.l s1.e w1 hR).mono ?_
  rintro e w' ⟨rfl, rfl⟩
  go_wp2_with fail
  go_ret
  unfold ReadN
  rw [HD.out]
  exact ⟨rfl, hR, hU⟩
/-- What Bool reads, and what it leaves. -/
def boolS (s : RS) : Bool × RS :=
 if (takeS 1 s).2.e = 0 ∧ 1 < leN (takeS 1 s).1 then (false, ⟨[], 5⟩) else (leN (takeS 1 s).1 == 1, (takeS 1 s).2)
theorem rbool_any (br : Nat) (F : Option Nat) (s : RS) (w : World) (hr : Rd w br F s.l s.e) (hl : s.l.length ≤ 100000000) :
  Calls Tryz.prog 99 #[.pointer (some ⟨br, 0, none⟩)] w (ReadN w br F (boolS s).2 (.bool (boolS s).1)) := by
 go_enter Tryz.func99, Tryz.ntmps99
 go_wp2_with fail
 refine (rnum_any br F s 1 w hr hl).mono ?_
 have h1 : heldN 1 = 1 := rfl
 rw [h1]
 rintro e w1 ⟨rfl, hR, hU⟩
 have hd1 : boolS s = if (takeS 1 s).2.e = 0 ∧ 1 < leN (takeS 1 s).1 then (false, ⟨[], 5⟩) else (leN (takeS 1 s).1 == 1, (takeS 1 s).2) := rfl
 generalize (takeS 1 s).2 = s1 at *
 generalize leN (takeS 1 s).1 = n at *
 by_cases he : s1.e = 0
 ·have hb : (s1.e == 0) = true := by simp [he]
  by_cases hn : 1 < n
  ·have hn1 : (1 : Int) < (n : Int) := by omega
   have hd : boolS s = (false, ⟨[], 5⟩) := by rw [hd1, if_pos ⟨he, hn⟩]
   have HD := Lib.hid hd
   clear hd hd1 he h1
   go_wp2_with fail
   refine (err_any br F s1.l s1.e w1 hR).mono ?_
   rintro e w' ⟨rfl, rfl⟩
   go_wp2_with fail
   refine (wrong_any br F s1.l s1.e 5 w1 hR).mono ?_
   rintro e w2 ⟨rfl, hR2, hU2⟩
   go_wp2_with fail
   go_ret
   unfold ReadN
   rw [HD.out]
   exact ⟨rfl, hR2, hU.trans hU2⟩
  ·have hn1 : ¬ (1 : Int) < (n : Int) := by omega
   have hd : boolS s = (n == 1, s1) := by rw [hd1, if_neg (fun h => hn h.2)]
   have HD := Lib.hid hd
   have hq : ((n : Int) == 1) = (n == 1) := by rw [Bool.eq_iff_iff]; simp; omega
   have HQ := Lib.hid hq
   clear hd hd1 he h1 hq
   go_wp2_with fail
   refine (err_any br F s1.l s1.e w1 hR).mono ?_
   rintro e w' ⟨rfl, rfl⟩
   go_wp2_with fail
   go_ret
   unfold ReadN
   rw [HD.out, ← HQ.out]
   exact ⟨rfl, hR, hU⟩
 ·have hb : (s1.e == 0) = false := by simp [he]
  have hd : boolS s = (n == 1, s1) := by rw [hd1, if_neg (fun h => he h.1)]
  have HD := Lib.hid hd
  have hq : ((n : Int) == 1) = (n == 1) := by rw [Bool.eq_iff_iff]; simp; omega
  have HQ := Lib.hid hq
  clear hd hd1 he h1 hq
  go_wp2_with fail
  refine (err_any br F s1.l s1.e w1 hR).mono ?_
  rintro e w' ⟨rfl, rfl⟩
  go_wp2_with fail
  go_ret
  unfold ReadN
  rw [HD.out, ← HQ.out]
  exact ⟨rfl, hR, hU⟩
set_option maxHeartbeats 400000 in
theorem refNum_any (a : Option Addr) (c : Nat) (l : List UInt8) (x : Nat) (n : Int) (w : World) (hv : Vw w a l.length c 1 (bvs l)) (hx : x < 2 ^ 64) (hl : l.length ≤ 100000000) :
  Calls Tryz.prog 86 #[.slice a l.length c, .int .u64 x, .int .i64 n] w (MadeB w (l ++ le x (heldN n)) false) := by
 obtain ⟨i0, hi, hz0, hz1, hz2⟩ := info_parts infoU8
 have hN : max 1 (min n 8) = (heldN n : Int) := by unfold heldN; omega
 have h8 : heldN n ≤ 8 := by unfold heldN; omega
 have h1 : 1 ≤ heldN n := by unfold heldN; omega
 generalize heldN n = k at *
 have HN := Lib.hid hN; clear hN
 have hsrc := hv.src (P := Tryz.prog) (t := 33) Tryz.underlying33 (bvs_cells l)
 go_enter Tryz.func86, Tryz.ntmps86
 go_wp2_with (at_builtin; refine wpList_app _ rfl (.const (.slice none 0 0)) (.tmp 9) 33 33 rfl 5 i0 (.int .u8 0) 1 1 Tryz.underlying33 hi hz0 hz1 hz2 rfl none 0 0 [] rfl (World.ownsRow_nil _ _ _ _) (.slice a l.length c) l.length (bvs l) rfl hsrc ?_ ?_ ?_)
 ·unfold maxLen; omega
 ·omega
 intro a1 c1 w1 hown1 hg1 hat1 hnil1
 try simp only [Nat.zero_add, List.nil_append] at hown1
 have hU1 : Upd (fun _ => False) w w1 := Upd.grown hg1 (fun k hk => by cases hk)
 have hf1 : ∀ g, blk a1 = some g → w.heap.size ≤ g := by
  intro g hg'
  rcases hat1 with h | h
  ·rw [h] at hg'; cases hg'
  ·rw [h] at hg'; cases hg'; exact Nat.le_refl _
 clear hnil1 hat1 hg1 hsrc hv
 have HF := Lib.hid hf1; clear hf1
 go_wp2_with fail
 go_loopw [7, 8] (fun v i wr => ∃ j : Nat, j ≤ k ∧ i = .int .i64 j ∧ ∃ a' c' lj, Hid (lj = l ++ le x j) ∧ v = .slice a' lj.length c' ∧ wr.ownsRow 0 5 1 (.slice a' lj.length c') lj.length (bvs lj) ∧ Upd (fun _ => False) w wr ∧ Hid (∀ g, blk a' = some g → w.heap.size ≤ g) ∧ Hid (a' = none → j = 0)) (fun _ i _ => k - (intOf i).toNat)
 case atStart => exact ⟨0, Nat.zero_le _, rfl, a1, c1, l, (by show _ = _; simp [le]), rfl, hown1, hU1, HF, fun _ => rfl⟩
 case round =>
  obtain ⟨j, hj, rfl, a', c', lj, hlj, rfl, hown, hU, hG, hZ⟩ := hrel
  clear hown1 hU1 HF
  have hlen : lj.length ≤ 200000000 := by rw [hlj.out]; simp [le_length]; omega
  have hU' := hU.size
  by_cases hlt : j < k
  ·have hlt' : (j : Int) < max 1 (min n 8) := by rw [HN.out]; omega
   have hmul : IntKind.i64.wrap (8 * ↑j) = 8 * ↑j := IntWalk.i64_in _ (by omega)
   have h0 : (0 : Int) ≤ 8 * ↑j := by omega
   have hz : (wr.alloc (Obj.cells #[bv (UInt8.ofNat (x / 256 ^ j))] 5)).heap.size = wr.heap.size + 1 := by simp
   have hown' := hown.alloc (Obj.cells #[bv (UInt8.ofNat (x / 256 ^ j))] 5)
   have hnew : (wr.alloc (Obj.cells #[bv (UInt8.ofNat (x / 256 ^ j))] 5)).heap[wr.heap.size]? = _ := heap_alloc_new wr _
   have hUa : Upd (fun _ => False) w (wr.alloc (Obj.cells #[bv (UInt8.ofNat (x / 256 ^ j))] 5)) := hU.trans (Upd.alloc _ _ _)
   have hsr : Src Tryz.prog 1 33 (.slice (some ⟨wr.heap.size, 0, none⟩) 1 1) 1 [bv (UInt8.ofNat (x / 256 ^ j))] (wr.alloc (Obj.cells #[bv (UInt8.ofNat (x / 256 ^ j))] 5)) :=
    Src.ofSlice _ Tryz.underlying33 _ 1 1 _ rfl (World.news_of_block hnew) (fun u hu => by simp at hu; subst hu; rfl)
   have hb := (byte_of x j).symm
   simp only [hb] at hz hown' hnew hUa hsr
   have HB := Lib.hid hb; clear hb
   clear hnew hz
   go_wp2_with (at_builtin; refine wpList_app _ rfl (.tmp 18) (.tmp 25) 33 33 rfl 5 i0 (.int .u8 0) 1 1 Tryz.underlying33 hi hz0 hz1 hz2 rfl a' lj.length c' (bvs lj) rfl hown' (.slice (some ⟨wr.heap.size, 0, none⟩) 1 1) 1 _ rfl hsr ?_ ?_ ?_)
   ·unfold maxLen; omega
   ·omega
   intro a2 c2 w2 hown2 hg2 hat2 hnil2
   have hne2 : a2 ≠ none := fun e => by first | exact hnil2 e | (have := hnil2.1 e; omega)
   clear hnil2
   rw [← HB.out] at hown2
   have hown3 : w2.ownsRow 0 5 1 (.slice a2 (lj ++ [UInt8.ofNat (x / 256 ^ j)]).length c2) (lj ++ [UInt8.ofNat (x / 256 ^ j)]).length (bvs (lj ++ [UInt8.ofNat (x / 256 ^ j)])) := by
    simpa [bvs] using hown2
   have hU2 : Upd (fun _ => False) w w2 := by
    refine hUa.next (Upd.grown (S := fun k => blk a' = some k) hg2 (fun k hk => hk)) (fun i hi hs => ?_)
    have := hG.out i hs
    omega
   have hf2 : ∀ g, blk a2 = some g → w.heap.size ≤ g := by
    intro g hg'
    rcases hat2 with h | h
    ·exact hG.out g (h.symm.trans hg')
    ·have := hUa.size
     simp at this
     rw [h] at hg'; cases hg'; first | exact this | (simp; omega)
   clear hg2 hat2
   go_wp2_with fail
   go_roundw
   case rel => exact ⟨j + 1, by omega, by go_num, a2, c2, _, (by show _ = _; rw [le_snoc, ← List.append_assoc, ← hlj.out]), by simp, hown3, hU2, hf2, fun e => absurd e hne2⟩
   case measure => simp [intOf]; omega
  ·have hlt' : ¬ (j : Int) < max 1 (min n 8) := by rw [HN.out]; omega
   go_wp2_with fail
   go_ret
   obtain rfl : j = k := by omega
   have hl := hlj.out
   subst hl
   exact ⟨a', c', rfl, hown, hU, hG.out, ⟨fun e => by have := hZ.out e; omega, fun h => by cases h⟩⟩
theorem refInt_any (a : Option Addr) (c : Nat) (l : List UInt8) (v : Int) (w : World) (hv : Vw w a l.length c 1 (bvs l)) (hl : l.length ≤ 100000000) :
  Calls Tryz.prog 50 #[.slice a l.length c, .int .i64 v] w (MadeB w (l ++ i4 v) false) := by
 have hb := wrap_u64 v
 have hb2 := wrap_u64 (IntKind.u64.wrap v + 1)
 have e := i4_eq v (IntKind.u64.wrap (IntKind.u64.wrap v + 1)) (by omega) hb2.1
 obtain ⟨y, hy⟩ := Int.eq_ofNat_of_zero_le hb2.1
 have hy2 : y < 2 ^ 64 := by have := hb2.2.1; omega
 rw [hy] at e
 have HE := Lib.hid e
 have HY := Lib.hid hy
 clear hb hb2 e hy
 have h := refNum_any a c l y 4 w hv hy2 hl
 rw [show heldN 4 = 4 from rfl, show le y 4 = i4 v from HE.out] at h
 generalize l ++ i4 v = L at *
 have HH := Lib.hid h; clear h
 go_enter Tryz.func50, Tryz.ntmps50
 go_wp2_with fail
 rw [HY.out]
 refine HH.out.mono ?_
 rintro e w1 ⟨a1, c1, rfl, hrest⟩
 go_wp2_with fail
 go_ret
 exact ⟨a1, c1, rfl, hrest⟩
theorem refBool_any (a : Option Addr) (c : Nat) (l : List UInt8) (b : Bool) (w : World) (hv : Vw w a l.length c 1 (bvs l)) (hl : l.length ≤ 100000000) :
  Calls Tryz.prog 56 #[.slice a l.length c, .bool b] w (MadeB w (l ++ b1 b) false) := by
 cases b
 ·have h := refNum_any a c l 0 1 w hv (by omega) hl
  rw [show le 0 (heldN 1) = b1 false from rfl] at h
  generalize l ++ b1 false = L at *
  have HH := Lib.hid h; clear h
  go_enter Tryz.func56, Tryz.ntmps56
  go_wp2_with fail
  refine HH.out.mono ?_
  rintro e w1 ⟨a1, c1, rfl, hrest⟩
  go_wp2_with fail
  go_ret
  exact ⟨a1, c1, rfl, hrest⟩
 ·have h := refNum_any a c l 1 1 w hv (by omega) hl
  rw [show le 1 (heldN 1) = b1 true from rfl] at h
  generalize l ++ b1 true = L at *
  have HH := Lib.hid h; clear h
  go_enter Tryz.func56, Tryz.ntmps56
  go_wp2_with fail
  refine HH.out.mono ?_
  rintro e w1 ⟨a1, c1, rfl, hrest⟩
  go_wp2_with fail
  go_ret
  exact ⟨a1, c1, rfl, hrest⟩
theorem refText_any (a : Option Addr) (c : Nat) (l : List UInt8) (s : ByteArray) (w : World) (hv : Vw w a l.length c 1 (bvs l)) (hl : l.length ≤ 100000000) (hs : s.size ≤ 100000000) :
  Calls Tryz.prog 51 #[.slice a l.length c, .string s] w (MadeB w (l ++ t4 s) false) := by
 obtain ⟨i0, hi, hz0, hz1, hz2⟩ := info_parts infoU8
 go_enter Tryz.func51, Tryz.ntmps51
 go_wp2_with fail
 refine (refInt_any a c l _ w hv hl).mono ?_
 rintro e w1 ⟨a1, c1, rfl, hown, hU, hf, hnil⟩
 have hlen : (l ++ i4 s.size).length ≤ 100000004 := by simp [i4_length]; omega
 have ht : l ++ t4 s = (l ++ i4 s.size) ++ s.data.toList := by simp [t4]
 generalize l ++ i4 s.size = l1 at *
 have HT := Lib.hid ht
 have HF := Lib.hid hf
 have HN := Lib.hid hnil
 clear hf hnil ht
 go_wp2_with (at_builtin; refine wpList_app _ rfl (.tmp 8) (.tmp 9) 33 9 rfl 5 i0 (.int .u8 0) 1 1 Tryz.underlying33 hi hz0 hz1 hz2 rfl a1 l1.length c1 (bvs l1) rfl hown (.string s) s.size (bvs s.data.toList) rfl (Src.ofString w1 Tryz.underlying9 s) ?_ ?_ ?_)
 ·unfold maxLen; omega
 ·omega
 intro a2 c2 w2 hown2 hg2 hat2 hnil2
 have hne2 : a2 ≠ none := fun e => by have := (hnil2.1 e).1; have := HN.out.1 this; cases this
 clear hnil2
 have hown3 : w2.ownsRow 0 5 1 (.slice a2 (l1 ++ s.data.toList).length c2) (l1 ++ s.data.toList).length (bvs (l1 ++ s.data.toList)) := by
  simpa [bvs, size_toList] using hown2
 have hU2 : Upd (fun _ => False) w w2 := by
  refine hU.next (Upd.grown (S := fun k => blk a1 = some k) hg2 (fun k hk => hk)) (fun i hi hs => ?_)
  have := HF.out i hs
  omega
 have hf2 : ∀ g, blk a2 = some g → w.heap.size ≤ g := by
  intro g hg'
  rcases hat2 with h | h
  ·exact HF.out g (h.symm.trans hg')
  ·have := hU.size
   rw [h] at hg'; cases hg'; exact this
 clear hg2 hat2 hown2
 have HF2 := Lib.hid hf2; clear hf2
 go_wp2_with fail
 go_ret
 rw [HT.out]
 exact ⟨a2, c2, by simp [size_toList], hown3, hU2, HF2.out, ⟨fun e => absurd e hne2, fun h => by cases h⟩⟩
end Go.Proofs.YtccejkikphpnfaaGreatDoor
