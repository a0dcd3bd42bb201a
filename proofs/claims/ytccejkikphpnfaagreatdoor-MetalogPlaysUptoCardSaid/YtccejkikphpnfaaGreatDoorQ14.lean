
/- Roots and waits in general: whether they may be. -/
import Derived.Test.YtccejkikphpnfaaGreatDoorQ13
namespace Go.Proofs.YtccejkikphpnfaaGreatDoor
set_option linter.unusedSimpArgs false
set_option linter.unusedVariables false
set_option maxRecDepth 100000
open Go.ChangeShapes Go.WideShapes Go.ChangeAt Go.RowKit
/-- A bookmark. -/
structure Nm where
 name : List UInt8
 com : Int
def nmV (x : Nm) : List Value := [sv x.name, .int .i64 x.com]
theorem nmV_len (x : Nm) : (nmV x).length = 2 := rfl
theorem nm_get (l : List Nm) (i r : Nat) (hi : i < l.length) (hr : r < 2) : (l.flatMap nmV)[i * 2 + r]? = (nmV l[i])[r]? := by
 rw [flatMap_get nmV 2 nmV_len l i r hr, List.getElem?_eq_getElem hi]; rfl
def lenB (x : List UInt8) : Bool := decide (1 ≤ x.length) && decide (x.length ≤ 50)
/-- What is wrong at the i-th bookmark. -/
def badK (l : List Nm) (i : Nat) : Bool := match l[i]? with
 | none => false
 | some x => !lenB x.name || (decide (x.com < 0) || (!numB x.com || (decide (0 < i) && leS x.name ((l[i - 1]?.map (·.name)).getD []))))
def sortB (l : List Nm) : Bool := !(List.range l.length).any (badK l)
def marksB (l : List Nm) : Bool := sortB l && decide (l.length ≤ 100)
theorem wlen_any (x : List UInt8) (w : World) : Calls Tryz.prog 79 #[.int .i64 (x.length : Int), .int .i64 1, .int .i64 50] w fun e w' => e = .returned (.bool (lenB x)) ∧ w = w' := by
 have h := within_any (x.length : Int) 1 50 w
 have e : (decide ((1 : Int) ≤ (x.length : Int)) && decide ((x.length : Int) ≤ 50)) = lenB x := by
  unfold lenB
  rw [show decide ((1 : Int) ≤ (x.length : Int)) = decide (1 ≤ x.length) from decide_eq_decide.2 (by omega), show decide ((x.length : Int) ≤ 50) = decide (x.length ≤ 50) from decide_eq_decide.2 (by omega)]
 rw [e] at h
 exact h
set_option maxHeartbeats 16000000 in
theorem marks_any (a : Option Addr) (c : Nat) (l : List Nm) (w : World) (hv : Vw w a l.length c 2 (l.flatMap nmV)) (hq : ∀ x ∈ l, x.name.length ≤ maxLen) :
  Calls Tryz.prog 81 #[.slice a l.length c] w fun e w' => e = .returned (.bool (marksB l)) ∧ Upd (fun _ => False) w w' := by
 have hcap := hv.cap
 have hlc := hv.le
 unfold maxLen at hcap
 have hT : Hid (marksB l = (!(List.range l.length).any (badK l) && decide (l.length ≤ 100))) := Lib.hid rfl
 have HV := Lib.hid hv
 clear hv
 go_enter Tryz.func81, Tryz.ntmps81
 go_wp2_with fail
 go_loopw [7] (fun i wr => ∃ j : Nat, j ≤ l.length ∧ i = .int .i64 (j : Int) ∧ Hid ((List.range j).any (badK l) = false) ∧ Upd (fun _ => False) w wr) (fun i _ => l.length - (intOf i).toNat)
 case atStart => exact ⟨0, Nat.zero_le _, rfl, (by show _ = _; simp), Upd.refl _ _⟩
 case round =>
  obtain ⟨j, hj, rfl, hA, hU⟩ := hrel
  by_cases hlt : j < l.length
  ·have hI : (j : Int) < (l.length : Int) := by omega
   have hv := HV.out.upd hU (fun _ _ h => h)
   obtain ⟨b, o, hb, hcell⟩ := hv.at (by omega) (by decide)
   subst hb
   have q0 : wr.cell? ⟨b, o + j * 2, none⟩ = some (sv l[j].name) := hcell (j * 2 + 0) _ (nm_get l j 0 hlt (by decide))
   have q1 : wr.cell? ⟨b, o + j * 2 + 1, none⟩ = some (.int .i64 l[j].com) := hcell (j * 2 + 1) _ (nm_get l j 1 hlt (by decide))
   have hs := range_any_succ (badK l) j
   rw [hA.out, Bool.false_or] at hs
   have hbad : badK l j = (!lenB l[j].name || (decide (l[j].com < 0) || (!numB l[j].com || (decide (0 < j) && leS l[j].name ((l[j - 1]?.map (·.name)).getD []))))) := by
    unfold badK; rw [List.getElem?_eq_getElem hlt]
   have hpr : ∀ (h1 : 0 < j), wr.cell? ⟨b, o + (j - 1) * 2, none⟩ = some (.string (str ((l[j - 1]?.map (·.name)).getD []))) := fun h1 => by
    have e : (l[j - 1]?.map (·.name)).getD [] = (l[j - 1]'(by omega)).name := by rw [List.getElem?_eq_getElem (show j - 1 < l.length by omega)]; rfl
    rw [e]
    exact hcell ((j - 1) * 2 + 0) _ (nm_get l (j - 1) 0 (by omega) (by decide))
   have hall : badK l j = true → Hid ((List.range l.length).any (badK l) = true) := fun h => Lib.hid (range_any_le (badK l) (j + 1) l.length (by omega) (by rw [hs, h]))
   have htl := hq l[j] (List.getElem_mem hlt)
   have HS := Lib.hid hs
   have HALL := Lib.hid hall
   have HBAD := Lib.hid hbad
   have HPR := Lib.hid hpr
   clear hcell hv hs hall hbad hpr hA
   generalize l[j] = x at *
   obtain ⟨xn, xc⟩ := x
   dsimp only at *
   unfold sv at q0
   have hUx := Upd.alloc (fun _ => False) wr (.cells #[.string (str xn), .int .i64 xc] 92)
   have hrow := heap_alloc_new wr (.cells #[.string (str xn), .int .i64 xc] 92)
   have HR0 := Lib.hid hrow
   have HUX := Lib.hid hUx
   have HU := Lib.hid (hU.trans hUx)
   have hsz := str_size xn
   unfold maxLen at htl
   clear hrow hU hUx
   go_upto_region 4 with (fail)
   generalize wr.alloc (.cells #[.string (str xn), .int .i64 xc] 92) = y0 at *
   obtain ⟨B, hB⟩ : ∃ B, wr.heap.size = B := ⟨_, rfl⟩
   rw [hB] at HR0 ⊢
   clear hB
   have HWN : Hid (∀ w, Calls Tryz.prog 79 #[.int .i64 (xn.length : Int), .int .i64 1, .int .i64 50] w fun e w' => e = .returned (.bool (lenB xn)) ∧ w = w') := Lib.hid (fun w => wlen_any xn w)
   have HNU : Hid (∀ w, Calls Tryz.prog 82 #[.int .i64 xc] w fun e w' => e = .returned (.bool (numB xc)) ∧ w = w') := Lib.hid (fun w => number_any xc w)
   have HCB : Hid (∀ w', Upd (fun _ => False) y0 w' → w'.cell? ⟨B, 0, none⟩ = some (.string (str xn)) ∧ w'.cell? ⟨B, 1, none⟩ = some (.int .i64 xc)) := Lib.hid (fun w' h => by
    have hr := (h.block B (lt_of_heap HR0.out) (fun h => h)).trans HR0.out
    exact ⟨by rw [cell_of_row _ _ _ _ _ _ hr]; rfl, by rw [cell_of_row _ _ _ _ _ _ hr]; rfl⟩)
   have HQ := Lib.hid (HCB.out y0.drew (Upd.drew _ _))
   generalize lenB xn = b1 at *
   generalize numB xc = b2 at *
   cases b1 with
   | false =>
    have HBT := Lib.hid (show badK l j = true from by rw [HBAD.out]; rfl)
    clear HNU
    refine wp_region_plan_last [([0, 1, 2], 3), ([4, 5, 6, 7, 8, 9, 10, 11, 12], 13)] [14, 15, 16, 17, 18, 19, 20, 21, 22, 23, 24, 25, 26, 27, 28, 29, 30] (fun w' => w'.cell? ⟨B, 0, none⟩ = some (.string (str xn)) ∧ w'.cell? ⟨B, 1, none⟩ = some (.int .i64 xc)) (by kernel_rfl) (by kernel_rfl) HQ.out ?_
    iterate 3
     first | refine plan_skip rfl rfl ?_ | (refine plan_take (v := ?_) rfl rfl (fun w' hS => ?_) ?_; rotate_left; · (go_simp; try with_reducible rfl))
     simp only [putL]
    refine plan_act rfl (fun KK hKK => ?_)
    go_wp2_with fail
    refine (HWN.out _).mono ?_
    rintro e w2 ⟨rfl, rfl⟩
    go_wp2_with fail
    refine hKK.out _ _ (.inr HQ.out) ?_
    iterate 9
     first | refine plan_skip rfl rfl ?_ | (refine plan_take (v := ?_) rfl rfl (fun w' hS => ?_) ?_; rotate_left; · (go_simp; try with_reducible rfl))
     simp only [putL]
    refine plan_act rfl (fun K2 hK2 => ?_)
    go_wp2_with fail
    refine hK2.out _ _ (.inr HQ.out) ?_
    iterate 17
     first | refine plan_lskip rfl rfl ?_ | (refine plan_last (v := ?_) rfl rfl (fun w' hS => ?_) ?_; rotate_left; · (go_simp; try with_reducible rfl))
     simp only [putL]
    refine plan_end ?_
    go_wp2_with fail
    have HR := HALL.out HBT.out
    go_ret
    exact ⟨by rw [hT.out, HR.out]; rfl, HU.out.trans (Upd.drew _ _)⟩
   | true =>
    have hBAD := HBAD.out
    rw [Bool.not_true, Bool.false_or] at hBAD
    have HB1 := Lib.hid hBAD
    clear hBAD HBAD
    by_cases ht : xc < 0
    ·have hI2 : decide (xc < 0) = true := decide_eq_true ht
     have HBT := Lib.hid (show badK l j = true from by rw [HB1.out, decide_eq_true ht]; rfl)
     clear HNU
     refine wp_region_plan_last [([0, 1, 2], 3), ([4, 5, 6, 7, 8, 9, 10, 11, 12], 13)] [14, 15, 16, 17, 18, 19, 20, 21, 22, 23, 24, 25, 26, 27, 28, 29, 30] (fun w' => w'.cell? ⟨B, 0, none⟩ = some (.string (str xn)) ∧ w'.cell? ⟨B, 1, none⟩ = some (.int .i64 xc)) (by kernel_rfl) (by kernel_rfl) HQ.out ?_
     iterate 3
      first | refine plan_skip rfl rfl ?_ | (refine plan_take (v := ?_) rfl rfl (fun w' hS => ?_) ?_; rotate_left; · (go_simp; try with_reducible rfl))
      simp only [putL]
     refine plan_act rfl (fun KK hKK => ?_)
     go_wp2_with fail
     refine (HWN.out _).mono ?_
     rintro e w2 ⟨rfl, rfl⟩
     go_wp2_with fail
     refine hKK.out _ _ (.inr HQ.out) ?_
     iterate 9
      first | refine plan_skip rfl rfl ?_ | (refine plan_take (v := ?_) rfl rfl (fun w' hS => ?_) ?_; rotate_left; · (go_simp; try with_reducible rfl))
      simp only [putL]
     refine plan_act rfl (fun K2 hK2 => ?_)
     go_wp2_with fail
     refine hK2.out _ _ (.inr HQ.out) ?_
     iterate 17
      first | refine plan_lskip rfl rfl ?_ | (refine plan_last (v := ?_) rfl rfl (fun w' hS => ?_) ?_; rotate_left; · (go_simp; try with_reducible rfl))
      simp only [putL]
     refine plan_end ?_
     go_wp2_with fail
     have HR := HALL.out HBT.out
     go_ret
     exact ⟨by rw [hT.out, HR.out]; rfl, HU.out.trans (Upd.drew _ _)⟩
    ·have hI2 : decide (xc < 0) = false := decide_eq_false ht
     have hBAD := HB1.out
     rw [hI2, Bool.false_or] at hBAD
     have HB2 := Lib.hid hBAD
     clear ht hBAD HB1
     cases b2 with
     | false =>
      have HBT := Lib.hid (show badK l j = true from by rw [HB2.out]; rfl)
      refine wp_region_plan_last [([0, 1, 2], 3), ([4, 5, 6, 7, 8, 9, 10, 11, 12], 13)] [14, 15, 16, 17, 18, 19, 20, 21, 22, 23, 24, 25, 26, 27, 28, 29, 30] (fun w' => w'.cell? ⟨B, 0, none⟩ = some (.string (str xn)) ∧ w'.cell? ⟨B, 1, none⟩ = some (.int .i64 xc)) (by kernel_rfl) (by kernel_rfl) HQ.out ?_
      iterate 3
       first | refine plan_skip rfl rfl ?_ | (refine plan_take (v := ?_) rfl rfl (fun w' hS => ?_) ?_; rotate_left; · (go_simp; try with_reducible rfl))
       simp only [putL]
      refine plan_act rfl (fun KK hKK => ?_)
      go_wp2_with fail
      refine (HWN.out _).mono ?_
      rintro e w2 ⟨rfl, rfl⟩
      go_wp2_with fail
      refine hKK.out _ _ (.inr HQ.out) ?_
      iterate 9
       first | refine plan_skip rfl rfl ?_ | (refine plan_take (v := ?_) rfl rfl (fun w' hS => ?_) ?_; rotate_left; · (go_simp; try with_reducible rfl))
       simp only [putL]
      refine plan_act rfl (fun K2 hK2 => ?_)
      go_wp2_with fail
      refine (HNU.out _).mono ?_
      rintro e w2 ⟨rfl, rfl⟩
      go_wp2_with fail
      refine hK2.out _ _ (.inr HQ.out) ?_
      iterate 17
       first | refine plan_lskip rfl rfl ?_ | (refine plan_last (v := ?_) rfl rfl (fun w' hS => ?_) ?_; rotate_left; · (go_simp; try with_reducible rfl))
       simp only [putL]
      refine plan_end ?_
      go_wp2_with fail
      have HR := HALL.out HBT.out
      go_ret
      exact ⟨by rw [hT.out, HR.out]; rfl, HU.out.trans (Upd.drew _ _)⟩
     | true =>
      have hBAD := HB2.out
      rw [Bool.not_true, Bool.false_or] at hBAD
      have HB3 := Lib.hid hBAD
      clear hBAD HB2
      by_cases h0 : 0 < j
      ·have hpv := HPR.out h0
       have hBAD := HB3.out
       rw [decide_eq_true h0, Bool.true_and] at hBAD
       have HB4 := Lib.hid hBAD
       clear hBAD HB3
       generalize (l[j - 1]?.map (·.name)).getD [] = pr at *
       have hj1 : (j : Int) - 1 = ((j - 1 : Nat) : Int) := by omega
       have hj2 : j - 1 < l.length := by omega
       generalize j - 1 = m at hpv hj1 hj2
       have hwj : IntKind.i64.wrap (m : Int) = (m : Int) := IntWalk.i64_in _ (by omega)
       have hj3 : (m : Int) < (l.length : Int) := by omega
       have hI0 : (0 : Int) < (j : Int) := by omega
       have HLQ : Hid ((Op.bytesLess xn pr || xn == pr) = leS xn pr) := Lib.hid rfl
       clear HQ
       have HQ : Hid (y0.drew.cell? ⟨B, 0, none⟩ = some (.string (str xn)) ∧ y0.drew.cell? ⟨B, 1, none⟩ = some (.int .i64 xc) ∧ y0.drew.cell? ⟨b, o + m * 2, none⟩ = some (.string (str pr))) := Lib.hid
        ⟨(HCB.out _ (Upd.drew _ _)).1, (HCB.out _ (Upd.drew _ _)).2, ((HUX.out.trans (Upd.drew _ _)).cell (p := ⟨b, o + m * 2, none⟩) (World.block_lt_of_cell? wr _ hpv) (fun h => h)).trans hpv⟩
       clear hpv HCB
       generalize leS xn pr = le at *
       cases le with
       | true =>
        have HBT := Lib.hid HB4.out
        refine wp_region_plan_last [([0, 1, 2], 3), ([4, 5, 6, 7, 8, 9, 10, 11, 12], 13)] [14, 15, 16, 17, 18, 19, 20, 21, 22, 23, 24, 25, 26, 27, 28, 29, 30] (fun w' => w'.cell? ⟨B, 0, none⟩ = some (.string (str xn)) ∧ w'.cell? ⟨B, 1, none⟩ = some (.int .i64 xc) ∧ w'.cell? ⟨b, o + m * 2, none⟩ = some (.string (str pr))) (by kernel_rfl) (by kernel_rfl) HQ.out ?_
        iterate 3
         first | refine plan_skip rfl rfl ?_ | (refine plan_take (v := ?_) rfl rfl (fun w' hS => ?_) ?_; rotate_left; · (go_simp; try with_reducible rfl))
         simp only [putL]
        refine plan_act rfl (fun KK hKK => ?_)
        go_wp2_with fail
        refine (HWN.out _).mono ?_
        rintro e w2 ⟨rfl, rfl⟩
        go_wp2_with fail
        refine hKK.out _ _ (.inr HQ.out) ?_
        iterate 9
         first | refine plan_skip rfl rfl ?_ | (refine plan_take (v := ?_) rfl rfl (fun w' hS => ?_) ?_; rotate_left; · (go_simp; try with_reducible rfl))
         simp only [putL]
        refine plan_act rfl (fun K2 hK2 => ?_)
        go_wp2_with fail
        refine (HNU.out _).mono ?_
        rintro e w2 ⟨rfl, rfl⟩
        go_wp2_with fail
        refine hK2.out _ _ (.inr HQ.out) ?_
        iterate 17
         first | refine plan_lskip rfl rfl ?_ | (refine plan_last (v := ?_) rfl rfl (fun w' hS => ?_) ?_; rotate_left; · (go_simp; try with_reducible rfl))
         simp only [HLQ.out, putL]
        refine plan_end ?_
        go_wp2_with fail
        have HR := HALL.out HBT.out
        go_ret
        exact ⟨by rw [hT.out, HR.out]; rfl, HU.out.trans (Upd.drew _ _)⟩
       | false =>
        have HS2 := Lib.hid (HS.out.trans HB4.out)
        refine wp_region_plan_last [([0, 1, 2], 3), ([4, 5, 6, 7, 8, 9, 10, 11, 12], 13)] [14, 15, 16, 17, 18, 19, 20, 21, 22, 23, 24, 25, 26, 27, 28, 29, 30] (fun w' => w'.cell? ⟨B, 0, none⟩ = some (.string (str xn)) ∧ w'.cell? ⟨B, 1, none⟩ = some (.int .i64 xc) ∧ w'.cell? ⟨b, o + m * 2, none⟩ = some (.string (str pr))) (by kernel_rfl) (by kernel_rfl) HQ.out ?_
        iterate 3
         first | refine plan_skip rfl rfl ?_ | (refine plan_take (v := ?_) rfl rfl (fun w' hS => ?_) ?_; rotate_left; · (go_simp; try with_reducible rfl))
         simp only [putL]
        refine plan_act rfl (fun KK hKK => ?_)
        go_wp2_with fail
        refine (HWN.out _).mono ?_
        rintro e w2 ⟨rfl, rfl⟩
        go_wp2_with fail
        refine hKK.out _ _ (.inr HQ.out) ?_
        iterate 9
         first | refine plan_skip rfl rfl ?_ | (refine plan_take (v := ?_) rfl rfl (fun w' hS => ?_) ?_; rotate_left; · (go_simp; try with_reducible rfl))
         simp only [putL]
        refine plan_act rfl (fun K2 hK2 => ?_)
        go_wp2_with fail
        refine (HNU.out _).mono ?_
        rintro e w2 ⟨rfl, rfl⟩
        go_wp2_with fail
        refine hK2.out _ _ (.inr HQ.out) ?_
        iterate 17
         first | refine plan_lskip rfl rfl ?_ | (refine plan_last (v := ?_) rfl rfl (fun w' hS => ?_) ?_; rotate_left; · (go_simp; try with_reducible rfl))
         simp only [HLQ.out, putL]
        refine plan_end ?_
        go_wp2_with fail
        go_roundw
        case rel => exact ⟨j + 1, by omega, by first | rfl | go_num, Lib.hid HS2.out, HU.out.trans (Upd.drew _ _)⟩
        case measure => simp [intOf]; omega
      ·obtain rfl : j = 0 := by omega
       have HS2 : Hid ((List.range 1).any (badK l) = false) := Lib.hid (by have := HS.out; rw [HB3.out] at this; exact this)
       obtain ⟨j, hj0⟩ : ∃ j : Nat, j = 0 := ⟨_, rfl⟩
       refine wp_region_plan_last [([0, 1, 2], 3), ([4, 5, 6, 7, 8, 9, 10, 11, 12], 13)] [14, 15, 16, 17, 18, 19, 20, 21, 22, 23, 24, 25, 26, 27, 28, 29, 30] (fun w' => w'.cell? ⟨B, 0, none⟩ = some (.string (str xn)) ∧ w'.cell? ⟨B, 1, none⟩ = some (.int .i64 xc)) (by kernel_rfl) (by kernel_rfl) HQ.out ?_
       iterate 3
        first | refine plan_skip rfl rfl ?_ | (refine plan_take (v := ?_) rfl rfl (fun w' hS => ?_) ?_; rotate_left; · (go_simp; try with_reducible rfl))
        simp only [putL]
       refine plan_act rfl (fun KK hKK => ?_)
       go_wp2_with fail
       refine (HWN.out _).mono ?_
       rintro e w2 ⟨rfl, rfl⟩
       go_wp2_with fail
       refine hKK.out _ _ (.inr HQ.out) ?_
       iterate 9
        first | refine plan_skip rfl rfl ?_ | (refine plan_take (v := ?_) rfl rfl (fun w' hS => ?_) ?_; rotate_left; · (go_simp; try with_reducible rfl))
        simp only [putL]
       refine plan_act rfl (fun K2 hK2 => ?_)
       go_wp2_with fail
       refine (HNU.out _).mono ?_
       rintro e w2 ⟨rfl, rfl⟩
       go_wp2_with fail
       refine hK2.out _ _ (.inr HQ.out) ?_
       iterate 17
        first | refine plan_lskip rfl rfl ?_ | (refine plan_last (v := ?_) rfl rfl (fun w' hS => ?_) ?_; rotate_left; · (go_simp; try with_reducible rfl))
        simp only [putL]
       refine plan_end ?_
       go_wp2_with fail
       go_roundw
       case rel => exact ⟨1, by omega, by first | rfl | go_num, Lib.hid HS2.out, HU.out.trans (Upd.drew _ _)⟩
       case measure => simp [intOf]; omega
  ·obtain rfl : j = l.length := by omega
   have hI : ¬ (l.length : Int) < (l.length : Int) := by omega
   have HR := Lib.hid hA.out
   clear hlt hj
   have hb : decide ((l.length : Int) ≤ 100) = decide (l.length ≤ 100) := decide_eq_decide.2 (by omega)
   go_wp2_with fail
   go_ret
   exact ⟨by rw [hT.out, HR.out]; simp [hb], hU⟩
/-- A root, and where its parts lie. -/
structure Rt where
 p : Int
 ca : Option Addr
 cc : Nat
 ks : List Ky
 ma : Option Addr
 mc : Nat
 ms : List Mk
 na : Option Addr
 nc : Nat
 ns : List Nm
 k : Int
def rtA (r : Rt) : Array Value := #[.int .i64 r.p, .slice r.ca r.ks.length r.cc, .slice r.ma r.ms.length r.mc, .slice r.na r.ns.length r.nc, .int .i64 r.k]
structure RtIn (w : World) (r : Rt) : Prop where
 cv : Vw w r.ca r.ks.length r.cc 32 (r.ks.flatMap kyV)
 mv : Vw w r.ma r.ms.length r.mc 2 (r.ms.flatMap mkV)
 me : ∀ m ∈ r.ms, MkIn w m
 nv : Vw w r.na r.ns.length r.nc 2 (r.ns.flatMap nmV)
 nl : ∀ x ∈ r.ns, x.name.length ≤ maxLen
theorem RtIn.upd {w w' : World} {r : Rt} (h : RtIn w r) (hU : Upd (fun _ => False) w w') : RtIn w' r :=
 ⟨h.cv.upd hU (fun _ _ h => h), h.mv.upd hU (fun _ _ h => h), fun m hm => (h.me m hm).upd hU, h.nv.upd hU (fun _ _ h => h), h.nl⟩
def rootB (r : Rt) : Bool := (decide (-1 ≤ r.p) && decide (r.p ≤ 1999)) && (decide (r.ks.length ≤ 2000) && (markersB r.ms && (marksB r.ns && numB r.k)))
theorem row5 {w : World} {b : Nat} {v0 v1 v2 v3 v4 : Value} {T : TypeId} {fr : Nat × Nat} (h : w.heap[b]? = some (.cells #[v0, v1, v2, v3, v4] T fr)) :
  w.cell? ⟨b, 0, none⟩ = some v0 ∧ w.cell? ⟨b, 1, none⟩ = some v1 ∧ w.cell? ⟨b, 2, none⟩ = some v2 ∧ w.cell? ⟨b, 3, none⟩ = some v3 ∧ w.cell? ⟨b, 4, none⟩ = some v4 := by
 refine ⟨?_, ?_, ?_, ?_, ?_⟩ <;> (rw [cell_of_row _ _ _ _ _ _ h]; rfl)
theorem row7 {w : World} {b : Nat} {v0 v1 v2 v3 v4 v5 v6 : Value} {T : TypeId} {fr : Nat × Nat} (h : w.heap[b]? = some (.cells #[v0, v1, v2, v3, v4, v5, v6] T fr)) :
  w.cell? ⟨b, 0, none⟩ = some v0 ∧ w.cell? ⟨b, 1, none⟩ = some v1 ∧ w.cell? ⟨b, 2, none⟩ = some v2 ∧ w.cell? ⟨b, 3, none⟩ = some v3 ∧ w.cell? ⟨b, 4, none⟩ = some v4 ∧ w.cell? ⟨b, 5, none⟩ = some v5 ∧ w.cell? ⟨b, 6, none⟩ = some v6 := by
 refine ⟨?_, ?_, ?_, ?_, ?_, ?_, ?_⟩ <;> (rw [cell_of_row _ _ _ _ _ _ h]; rfl)
set_option maxHeartbeats 4000000 in
theorem mroot_any (r : Rt) (w : World) (h : RtIn w r) : Calls Tryz.prog 43 #[.agg (rtA r)] w fun e w' => e = .returned (.bool (rootB r)) ∧ Upd (fun _ => False) w w' := by
 have hU := Upd.alloc (fun _ => False) w (.cells (rtA r) 26)
 have hrow := heap_alloc_new w (.cells (rtA r) 26)
 have h1 := h.upd hU
 have HD : Hid (rootB r = ((decide (-1 ≤ r.p) && decide (r.p ≤ 1999)) && (decide (r.ks.length ≤ 2000) && (markersB r.ms && (marksB r.ns && numB r.k))))) := Lib.hid rfl
 have hw := within_any r.p (-1) 1999 (w.alloc (.cells (rtA r) 26))
 have hmk := markers_any r.ma r.mc r.ms (w.alloc (.cells (rtA r) 26)) h1.mv h1.me
 have hnm : ∀ w', Upd (fun _ => False) (w.alloc (.cells (rtA r) 26)) w' → Calls Tryz.prog 81 #[.slice r.na r.ns.length r.nc] w' fun e w2 => e = .returned (.bool (marksB r.ns)) ∧ Upd (fun _ => False) w' w2 := fun w' hu => marks_any r.na r.nc r.ns w' (h1.upd hu).nv h1.nl
 have hnu : ∀ w', Calls Tryz.prog 82 #[.int .i64 r.k] w' fun e w2 => e = .returned (.bool (numB r.k)) ∧ w' = w2 := fun w' => number_any r.k w'
 generalize rootB r = R at *
 generalize markersB r.ms = b2 at *
 generalize marksB r.ns = b3 at *
 generalize numB r.k = b4 at *
 obtain ⟨p, ca, cc, ks, ma, mc, ms, na, nc, ns, k⟩ := r
 unfold rtA at *
 dsimp only at *
 generalize (decide (-1 ≤ p) && decide (p ≤ 1999)) = b1 at *
 have HU := Lib.hid hU
 have HN := Lib.hid (And.intro hnm hnu)
 have HR := Lib.hid hrow
 clear hU h1 h hnm hnu hrow
 go_enter Tryz.func43, Tryz.ntmps43
 go_wp2_with fail
 refine hw.mono ?_
 rintro e w' ⟨rfl, rfl⟩
 clear hw
 cases b1 with
 | false =>
  go_wp2_with fail
  go_ret
  exact ⟨by rw [HD.out]; rfl, HU.out⟩
 | true =>
 by_cases hn : ks.length ≤ 2000
 case neg =>
  have hI : decide ((ks.length : Int) ≤ 2000) = false := by rw [decide_eq_false_iff_not]; omega
  have HD2 : Hid (R = false) := Lib.hid (by rw [HD.out, decide_eq_false hn]; rfl)
  clear hn
  go_wp2_with fail
  go_ret
  exact ⟨by rw [HD2.out]; rfl, HU.out⟩
 case pos =>
 have hI : decide ((ks.length : Int) ≤ 2000) = true := by rw [decide_eq_true_iff]; omega
 have hD := HD.out
 rw [decide_eq_true hn, Bool.true_and, Bool.true_and] at hD
 have HD2 := Lib.hid hD
 clear hn hD HD
 go_wp2_with fail
 refine hmk.mono ?_
 rintro e w1 ⟨rfl, hU1⟩
 have HU1 := Lib.hid hU1
 obtain ⟨z0, z1, z2, z3, z4⟩ := row5 ((hU1.block _ (lt_of_heap HR.out) (fun h => h)).trans HR.out)
 clear hmk hU1 hI z0 z1 z2
 cases b2 with
 | false =>
  clear z3 z4
  go_wp2_with fail
  go_ret
  exact ⟨by rw [HD2.out]; rfl, HU.out.trans HU1.out⟩
 | true =>
 have hnm := HN.out.1 w1 HU1.out
 go_wp2_with fail
 refine hnm.mono ?_
 rintro e w2 ⟨rfl, hU2⟩
 have HU2 := Lib.hid (HU1.out.trans hU2)
 obtain ⟨z0, z1, z2, z3', z4'⟩ := row5 ((HU2.out.block _ (lt_of_heap HR.out) (fun h => h)).trans HR.out)
 clear hU2 hnm z0 z1 z2 z3' z3 z4
 cases b3 with
 | false =>
  clear z4'
  go_wp2_with fail
  go_ret
  exact ⟨by rw [HD2.out]; rfl, HU.out.trans HU2.out⟩
 | true =>
 have hnu := HN.out.2 w2
 go_wp2_with fail
 refine hnu.mono ?_
 rintro e w3 ⟨rfl, rfl⟩
 clear hnu
 go_wp2_with fail
 go_ret
 exact ⟨by rw [HD2.out]; rfl, HU.out.trans HU2.out⟩
/-- What waits, and where its parts lie. -/
structure Wt where
 on : Bool
 re : Bool
 src : Int
 dst : Int
 sa : Option Addr
 sc : Nat
 ss : List St
 com : Int
 ca : Option Addr
 cc : Nat
 cs : List Cl
def wtA (p : Wt) : Array Value := #[.bool p.on, .bool p.re, .int .i64 p.src, .int .i64 p.dst, .slice p.sa p.ss.length p.sc, .int .i64 p.com, .slice p.ca p.cs.length p.cc]
structure WtIn (w : World) (p : Wt) : Prop where
 sv : Vw w p.sa p.ss.length p.sc 2 (p.ss.flatMap stV)
 se : ∀ m ∈ p.ss, StIn w m
 cv : Vw w p.ca p.cs.length p.cc 3 (p.cs.flatMap clV)
theorem WtIn.upd {w w' : World} {p : Wt} (h : WtIn w p) (hU : Upd (fun _ => False) w w') : WtIn w' p :=
 ⟨h.sv.upd hU (fun _ _ h => h), fun m hm => (h.se m hm).upd hU, h.cv.upd hU (fun _ _ h => h)⟩
def waitB (p : Wt) : Bool := p.on && (numB p.src && (numB p.dst && (numB p.com && (decide (p.ss.length ≤ 2000) && (decide (p.cs.length ≤ 100) && (!p.ss.any badS && !p.cs.any badC))))))
set_option maxHeartbeats 4000000 in
theorem mwait_any (p : Wt) (w : World) (h : WtIn w p) : Calls Tryz.prog 52 #[.agg (wtA p)] w fun e w' => e = .returned (.bool (waitB p)) ∧ Upd (fun _ => False) w w' := by
 have hU := Upd.alloc (fun _ => False) w (.cells (wtA p) 30)
 have hrow := heap_alloc_new w (.cells (wtA p) 30)
 have h1 := h.upd hU
 have HD : Hid (waitB p = (p.on && (numB p.src && (numB p.dst && (numB p.com && (decide (p.ss.length ≤ 2000) && (decide (p.cs.length ≤ 100) && (!p.ss.any badS && !p.cs.any badC)))))))) := Lib.hid rfl
 have hn1 := number_any p.src (w.alloc (.cells (wtA p) 30))
 have hn2 := number_any p.dst (w.alloc (.cells (wtA p) 30))
 have hn3 := number_any p.com (w.alloc (.cells (wtA p) 30))
 have hcs := cfSe_any p.sa p.sc p.ss (w.alloc (.cells (wtA p) 30)) h1.sv h1.se
 have hcl : ∀ w', Upd (fun _ => False) (w.alloc (.cells (wtA p) 30)) w' → Calls Tryz.prog 90 #[.slice p.ca p.cs.length p.cc, .func (.func 91) #[] #[]] w' fun e w2 => e = .returned (.bool (p.cs.any badC)) ∧ Upd (fun _ => False) w' w2 := fun w' hu => cfCl_any p.ca p.cc p.cs w' (h1.upd hu).cv
 generalize waitB p = R at *
 generalize numB p.src = b1 at *
 generalize numB p.dst = b2 at *
 generalize numB p.com = b3 at *
 generalize p.ss.any badS = b4 at *
 generalize p.cs.any badC = b5 at *
 obtain ⟨on, re, src, dst, sa, sc, ss, com, ca, cc, cs⟩ := p
 unfold wtA at *
 dsimp only at *
 have HU := Lib.hid hU
 have HN := Lib.hid hcl
 have HR := Lib.hid hrow
 clear hU h1 h hcl hrow
 go_enter Tryz.func52, Tryz.ntmps52
 cases on with
 | false =>
  go_wp2_with fail
  go_ret
  exact ⟨by rw [HD.out]; rfl, HU.out⟩
 | true =>
 go_wp2_with fail
 refine hn1.mono ?_
 rintro e w' ⟨rfl, rfl⟩
 clear hn1
 cases b1 with
 | false =>
  go_wp2_with fail
  go_ret
  exact ⟨by rw [HD.out]; rfl, HU.out⟩
 | true =>
 go_wp2_with fail
 refine hn2.mono ?_
 rintro e w' ⟨rfl, rfl⟩
 clear hn2
 cases b2 with
 | false =>
  go_wp2_with fail
  go_ret
  exact ⟨by rw [HD.out]; rfl, HU.out⟩
 | true =>
 go_wp2_with fail
 refine hn3.mono ?_
 rintro e w' ⟨rfl, rfl⟩
 clear hn3
 cases b3 with
 | false =>
  go_wp2_with fail
  go_ret
  exact ⟨by rw [HD.out]; rfl, HU.out⟩
 | true =>
 have hD := HD.out
 rw [Bool.true_and, Bool.true_and, Bool.true_and, Bool.true_and] at hD
 have HD1 := Lib.hid hD
 clear hD HD
 by_cases hn : ss.length ≤ 2000
 case neg =>
  have hI : decide ((2000 : Int) < (ss.length : Int)) = true := by rw [decide_eq_true_iff]; omega
  have HD2 : Hid (R = false) := Lib.hid (by rw [HD1.out, decide_eq_false hn]; rfl)
  clear hn
  go_wp2_with fail
  go_ret
  exact ⟨by rw [HD2.out]; rfl, HU.out⟩
 case pos =>
 have hI : decide ((2000 : Int) < (ss.length : Int)) = false := by rw [decide_eq_false_iff_not]; omega
 have hD := HD1.out
 rw [decide_eq_true hn, Bool.true_and] at hD
 by_cases hm : cs.length ≤ 100
 case neg =>
  have hJ : decide ((100 : Int) < (cs.length : Int)) = true := by rw [decide_eq_true_iff]; omega
  have HD2 : Hid (R = false) := Lib.hid (by rw [hD, decide_eq_false hm]; rfl)
  clear hn hm hD
  go_wp2_with fail
  go_ret
  exact ⟨by rw [HD2.out]; rfl, HU.out⟩
 case pos =>
 have hJ : decide ((100 : Int) < (cs.length : Int)) = false := by rw [decide_eq_false_iff_not]; omega
 rw [decide_eq_true hm, Bool.true_and] at hD
 have HD2 := Lib.hid hD
 clear hn hm hD HD1
 go_wp2_with fail
 refine hcs.mono ?_
 rintro e w1 ⟨rfl, hU1⟩
 have HU1 := Lib.hid hU1
 obtain ⟨z0, z1, z2, z3, z4, z5, z6⟩ := row7 ((hU1.block _ (lt_of_heap HR.out) (fun h => h)).trans HR.out)
 clear hcs hU1 hI hJ z0 z1 z2 z3 z4 z5
 cases b4 with
 | true =>
  clear z6
  go_wp2_with fail
  go_ret
  exact ⟨by rw [HD2.out]; rfl, HU.out.trans HU1.out⟩
 | false =>
 have hcl := HN.out w1 HU1.out
 go_wp2_with fail
 refine hcl.mono ?_
 rintro e w2 ⟨rfl, hU2⟩
 have HU2 := Lib.hid (HU1.out.trans hU2)
 clear hU2 hcl z6
 go_wp2_with fail
 go_ret
 exact ⟨by rw [HD2.out]; rfl, HU.out.trans HU2.out⟩
end Go.Proofs.YtccejkikphpnfaaGreatDoor
