
/- tree.Right. -/
import Derived.Test.YtccejkikphpnfaaGreatDoorQ11
namespace Go.Proofs.YtccejkikphpnfaaGreatDoor
set_option linter.unusedSimpArgs false
set_option linter.unusedVariables false
set_option maxRecDepth 100000
open Go.ChangeShapes Go.WideShapes Go.ChangeAt Go.RowKit
/-- What is wrong at the i-th file. -/
def badT (S : List (List UInt8)) (l : List Fl) (i : Nat) : Bool :=
 match l[i]? with
 | none => false
 | some x => !pathL x.path || (decide (20000 < x.text.length) || ((decide (0 < i) && leS x.path ((l[i - 1]?.map (·.path)).getD [])) || waySet S x.path))
def rightT (l : List Fl) : Bool := decide (l.length ≤ 100) && !(List.range l.length).any (badT (l.map Fl.path).reverse l)
theorem range_any_succ (p : Nat → Bool) (j : Nat) : (List.range (j + 1)).any p = ((List.range j).any p || p j) := by
 rw [List.range_succ, List.any_append]; simp
theorem range_any_le (p : Nat → Bool) (j n : Nat) (h : j ≤ n) (hj : (List.range j).any p = true) : (List.range n).any p = true := by
 rw [List.any_eq_true] at hj ⊢
 obtain ⟨x, hx, hp⟩ := hj
 exact ⟨x, by rw [List.mem_range] at hx ⊢; omega, hp⟩
theorem pathL_len (s : List UInt8) (h : pathL s = true) : s.length ≤ 100 := by
 unfold pathL at h
 simp at h
 omega
set_option maxHeartbeats 16000000 in
theorem tRight_any (a : Option Addr) (c : Nat) (l : List Fl) (w : World) (hv : Vw w a l.length c 3 (l.flatMap flV)) (hq : ∀ x ∈ l, x.path.length ≤ maxLen) (hqt : ∀ x ∈ l, x.text.length ≤ maxLen) :
  Calls Tryz.prog 89 #[.slice a l.length c] w fun e w' => e = .returned (.bool (rightT l)) ∧ Upd (fun _ => False) w w' := by
 have hcap := hv.cap
 have hlc := hv.le
 unfold maxLen at hcap
 by_cases h100 : l.length ≤ 100
 case neg =>
  have hI1 : (100 : Int) < (l.length : Int) := by omega
  have hT : Hid (rightT l = false) := by show _ = _; unfold rightT; rw [decide_eq_false h100]; rfl
  clear h100 hv
  go_enter Tryz.func89, Tryz.ntmps89
  go_wp2_with fail
  go_ret
  exact ⟨by rw [hT.out]; rfl, Upd.refl _ _⟩
 have hI1 : decide ((100 : Int) < (l.length : Int)) = false := by rw [decide_eq_false_iff_not]; omega
 have hT : Hid (rightT l = !(List.range l.length).any (badT (l.map Fl.path).reverse l)) := by show _ = _; unfold rightT; rw [decide_eq_true h100]; rfl
 have htp := tpaths_any a c l w hv (by omega) hq
 have HV0 := Lib.hid hv
 have HPQ : Hid (∀ q ∈ (l.map Fl.path).reverse, q.length ≤ maxLen) := Lib.hid (fun q hq' => by
  rw [List.mem_reverse, List.mem_map] at hq'
  obtain ⟨x, hx, rfl⟩ := hq'
  exact hq x hx)
 generalize (l.map Fl.path).reverse = PS at *
 clear hv
 go_enter Tryz.func89, Tryz.ntmps89
 go_wp2_with fail
 refine htp.mono ?_
 rintro e wp ⟨mb, rfl, hSM, hmb, hUp⟩
 have HSM := Lib.hid hSM
 have HV := Lib.hid (HV0.out.upd hUp (fun _ _ h => h))
 have HW := Lib.hid hUp
 clear htp hSM hmb hUp HV0
 go_wp2_with fail
 clear hI1
 go_loopw [13] (fun i wr => ∃ j : Nat, j ≤ l.length ∧ i = .int .i64 (j : Int) ∧ Hid ((List.range j).any (badT PS l) = false) ∧ Upd (fun _ => False) wp wr) (fun i _ => l.length - (intOf i).toNat)
 case atStart => exact ⟨0, Nat.zero_le _, rfl, (by show _ = _; simp), Upd.refl _ _⟩
 case round =>
  obtain ⟨j, hj, rfl, hA, hU⟩ := hrel
  by_cases hlt : j < l.length
  ·have hI : (j : Int) < (l.length : Int) := by omega
   have hv := HV.out.upd hU (fun _ _ h => h)
   obtain ⟨b, o, hb, hcell⟩ := hv.at (by omega) (by decide)
   subst hb
   have q0 : wr.cell? ⟨b, o + j * 3, none⟩ = some (sv l[j].path) := hcell (j * 3 + 0) _ (fl_get l j 0 hlt (by decide))
   have q1 : wr.cell? ⟨b, o + j * 3 + 1, none⟩ = some (.bool l[j].exec) := hcell (j * 3 + 1) _ (fl_get l j 1 hlt (by decide))
   have q2 : wr.cell? ⟨b, o + j * 3 + 2, none⟩ = some (sv l[j].text) := hcell (j * 3 + 2) _ (fl_get l j 2 hlt (by decide))
   have hs := range_any_succ (badT PS l) j
   rw [hA.out, Bool.false_or] at hs
   have hbad : badT PS l j = (!pathL l[j].path || (decide (20000 < l[j].text.length) || ((decide (0 < j) && leS l[j].path ((l[j - 1]?.map (·.path)).getD [])) || waySet PS l[j].path))) := by
    unfold badT; rw [List.getElem?_eq_getElem hlt]
   have hpr : ∀ (h1 : 0 < j), wr.cell? ⟨b, o + (j - 1) * 3, none⟩ = some (.string (str ((l[j - 1]?.map (·.path)).getD []))) := fun h1 => by
    have e : (l[j - 1]?.map (·.path)).getD [] = (l[j - 1]'(by omega)).path := by rw [List.getElem?_eq_getElem (show j - 1 < l.length by omega)]; rfl
    rw [e]
    exact hcell ((j - 1) * 3 + 0) _ (fl_get l (j - 1) 0 (by omega) (by decide))
   have hall : badT PS l j = true → Hid ((List.range l.length).any (badT PS l) = true) := fun h => Lib.hid (range_any_le (badT PS l) (j + 1) l.length (by omega) (by rw [hs, h]))
   have htl := hqt l[j] (List.getElem_mem hlt)
   have HS := Lib.hid hs
   have HALL := Lib.hid hall
   have HBAD := Lib.hid hbad
   have HPR := Lib.hid hpr
   clear hcell hv hs hall hbad hpr hA
   generalize l[j] = x at *
   obtain ⟨xp, xe, xt⟩ := x
   dsimp only at *
   unfold sv at q0 q2
   have hUx := Upd.alloc (fun _ => False) wr (.cells #[.string (str xp), .bool xe, .string (str xt)] 103)
   have hrow := heap_alloc_new wr (.cells #[.string (str xp), .bool xe, .string (str xt)] 103)
   have HR0 := Lib.hid hrow
   have HUX := Lib.hid hUx
   have HU := Lib.hid (hU.trans hUx)
   have hsz := str_size xt
   unfold maxLen at htl
   clear hrow hU hUx
   go_upto_region 7 with (fail)
   generalize wr.alloc (.cells #[.string (str xp), .bool xe, .string (str xt)] 103) = y0 at *
   obtain ⟨B, hB⟩ : ∃ B, wr.heap.size = B := ⟨_, rfl⟩
   rw [hB] at HR0 ⊢
   clear hB
   have HRI : Hid (∀ w, Calls Tryz.prog 124 #[.string (str xp)] w fun e w' => e = .returned (.bool (pathL xp)) ∧ Upd (fun _ => False) w w') := Lib.hid (fun w => pRight_any xp w)
   have HCB : Hid (∀ w', Upd (fun _ => False) y0 w' → w'.cell? ⟨B, 0, none⟩ = some (.string (str xp)) ∧ w'.cell? ⟨B, 2, none⟩ = some (.string (str xt))) := Lib.hid (fun w' h => by
    have hr := (h.block B (lt_of_heap HR0.out) (fun h => h)).trans HR0.out
    exact ⟨by rw [cell_of_row _ _ _ _ _ _ hr]; rfl, by rw [cell_of_row _ _ _ _ _ _ hr]; rfl⟩)
   cases hP : pathL xp with
   | false =>
    rw [hP] at HRI
    have HCF := HCB
    have HQ := Lib.hid (HCF.out y0.drew (Upd.drew _ _))
    refine wp_region_plan_last [([0, 1], 2), ([3, 4, 5, 6, 7, 8, 9, 10, 11, 12, 13, 14, 15, 16, 17, 18, 19, 20, 21, 22, 23, 24, 25, 26, 27, 28], 29)] [30] (fun w' => w'.cell? ⟨B, 0, none⟩ = some (.string (str xp)) ∧ w'.cell? ⟨B, 2, none⟩ = some (.string (str xt))) (by kernel_rfl) (by kernel_rfl) HQ.out ?_
    iterate 2
     first | refine plan_skip rfl rfl ?_ | (refine plan_take (v := ?_) rfl rfl (fun w' hS => ?_) ?_; rotate_left; · (go_simp; try with_reducible rfl))
     simp only [putL]
    refine plan_act rfl (fun KK hKK => ?_)
    go_wp2_with fail
    refine (HRI.out _).mono ?_
    rintro e w2 ⟨rfl, hU2⟩
    have hUr := (Upd.drew (fun _ => False) y0).trans hU2
    have HQ2 := Lib.hid (HCF.out w2 hUr)
    have HU3 := Lib.hid (HU.out.trans hUr)
    have HUR := Lib.hid hUr
    clear hU2 hUr
    go_wp2_with fail
    refine hKK.out _ _ (.inr HQ2.out) ?_
    iterate 26
     first | refine plan_skip rfl rfl ?_ | (refine plan_take (v := ?_) rfl rfl (fun w' hS => ?_) ?_; rotate_left; · (go_simp; try with_reducible rfl))
     simp only [putL]
    refine plan_act rfl (fun K2 hK2 => ?_)
    go_wp2_with fail
    refine hK2.out _ _ (.inr HQ2.out) ?_
    iterate 1
     first | refine plan_lskip rfl rfl ?_ | (refine plan_last (v := ?_) rfl rfl (fun w' hS => ?_) ?_; rotate_left; · (go_simp; try with_reducible rfl))
     simp only [putL]
    refine plan_end ?_
    go_wp2_with fail
    have HR := HALL.out (by rw [HBAD.out, hP]; rfl)
    go_ret
    exact ⟨by rw [hT.out, HR.out]; rfl, HW.out.trans HU3.out⟩
   | true =>
    rw [hP] at HRI
    have hBAD := HBAD.out
    rw [hP, Bool.not_true, Bool.false_or] at hBAD
    have HB1 := Lib.hid hBAD
    have hxp := pathL_len xp hP
    clear hBAD HBAD
    by_cases ht : 20000 < xt.length
    ·have hI2 : (20000 : Int) < (xt.length : Int) := by omega
     have HCF := HCB
     have HQ := Lib.hid (HCF.out y0.drew (Upd.drew _ _))
     have HBT := Lib.hid (show badT PS l j = true from by rw [HB1.out, decide_eq_true ht]; rfl)
     clear ht
     refine wp_region_plan_last [([0, 1], 2), ([3, 4, 5, 6, 7, 8, 9, 10, 11, 12, 13, 14, 15, 16, 17, 18, 19, 20, 21, 22, 23, 24, 25, 26, 27, 28], 29)] [30] (fun w' => w'.cell? ⟨B, 0, none⟩ = some (.string (str xp)) ∧ w'.cell? ⟨B, 2, none⟩ = some (.string (str xt))) (by kernel_rfl) (by kernel_rfl) HQ.out ?_
     iterate 2
      first | refine plan_skip rfl rfl ?_ | (refine plan_take (v := ?_) rfl rfl (fun w' hS => ?_) ?_; rotate_left; · (go_simp; try with_reducible rfl))
      simp only [putL]
     refine plan_act rfl (fun KK hKK => ?_)
     go_wp2_with fail
     refine (HRI.out _).mono ?_
     rintro e w2 ⟨rfl, hU2⟩
     have hUr := (Upd.drew (fun _ => False) y0).trans hU2
     have HQ2 := Lib.hid (HCF.out w2 hUr)
     have HU3 := Lib.hid (HU.out.trans hUr)
     have HUR := Lib.hid hUr
     clear hU2 hUr
     go_wp2_with fail
     refine hKK.out _ _ (.inr HQ2.out) ?_
     iterate 26
      first | refine plan_skip rfl rfl ?_ | (refine plan_take (v := ?_) rfl rfl (fun w' hS => ?_) ?_; rotate_left; · (go_simp; try with_reducible rfl))
      simp only [putL]
     refine plan_act rfl (fun K2 hK2 => ?_)
     go_wp2_with fail
     refine hK2.out _ _ (.inr HQ2.out) ?_
     iterate 1
      first | refine plan_lskip rfl rfl ?_ | (refine plan_last (v := ?_) rfl rfl (fun w' hS => ?_) ?_; rotate_left; · (go_simp; try with_reducible rfl))
      simp only [putL]
     refine plan_end ?_
     go_wp2_with fail
     have HR := HALL.out HBT.out
     go_ret
     exact ⟨by rw [hT.out, HR.out]; rfl, HW.out.trans HU3.out⟩
    ·have hI2 : decide ((20000 : Int) < (xt.length : Int)) = false := by rw [decide_eq_false_iff_not]; omega
     have hBAD := HB1.out
     rw [decide_eq_false ht, Bool.false_or] at hBAD
     have HB1' := Lib.hid hBAD
     have HWI : Hid (∀ w2, Upd (fun _ => False) y0 w2 → Calls Tryz.prog 125 #[.map (some mb), .string (str xp)] w2 fun e w' => e = .returned (.bool (waySet PS xp)) ∧ Upd (fun _ => False) w2 w') := Lib.hid (fun w2 h => twithin_any mb PS xp w2 (HSM.out.upd (HU.out.trans h) (fun h => h)) HPQ.out (by omega))
     clear ht hBAD HB1
     by_cases h0 : 0 < j
     ·have hpv := HPR.out h0
      rw [decide_eq_true h0, Bool.true_and] at HB1'
      generalize (l[j - 1]?.map (·.path)).getD [] = pr at *
      have hj1 : (j : Int) - 1 = ((j - 1 : Nat) : Int) := by omega
      have hj2 : j - 1 < l.length := by omega
      generalize j - 1 = m at hpv hj1 hj2
      have hwj : IntKind.i64.wrap (m : Int) = (m : Int) := IntWalk.i64_in _ (by omega)
      have hj3 : (m : Int) < (l.length : Int) := by omega
      have hI0 : (0 : Int) < (j : Int) := by omega
      have HLQ : Hid ((Op.bytesLess xp pr || xp == pr) = leS xp pr) := Lib.hid rfl
      have HCF : Hid (∀ w', Upd (fun _ => False) y0 w' → w'.cell? ⟨B, 0, none⟩ = some (.string (str xp)) ∧ w'.cell? ⟨B, 2, none⟩ = some (.string (str xt)) ∧ w'.cell? ⟨b, o + m * 3, none⟩ = some (.string (str pr))) := Lib.hid (fun w' h =>
       ⟨(HCB.out w' h).1, (HCB.out w' h).2, ((HUX.out.trans h).cell (p := ⟨b, o + m * 3, none⟩) (World.block_lt_of_cell? wr _ hpv) (fun h => h)).trans hpv⟩)
      have HQ := Lib.hid (HCF.out y0.drew (Upd.drew _ _))
      clear hpv HCB
      generalize leS xp pr = le at *
      cases le with
      | true =>
       have HBT := Lib.hid (show badT PS l j = true from by rw [HB1'.out]; rfl)
       refine wp_region_plan_last [([0, 1], 2), ([3, 4, 5, 6, 7, 8, 9, 10, 11, 12, 13, 14, 15, 16, 17, 18, 19, 20, 21, 22, 23, 24, 25, 26, 27, 28], 29)] [30] (fun w' => w'.cell? ⟨B, 0, none⟩ = some (.string (str xp)) ∧ w'.cell? ⟨B, 2, none⟩ = some (.string (str xt)) ∧ w'.cell? ⟨b, o + m * 3, none⟩ = some (.string (str pr))) (by kernel_rfl) (by kernel_rfl) HQ.out ?_
       iterate 2
        first | refine plan_skip rfl rfl ?_ | (refine plan_take (v := ?_) rfl rfl (fun w' hS => ?_) ?_; rotate_left; · (go_simp; try with_reducible rfl))
        simp only [putL]
       refine plan_act rfl (fun KK hKK => ?_)
       go_wp2_with fail
       refine (HRI.out _).mono ?_
       rintro e w2 ⟨rfl, hU2⟩
       have hUr := (Upd.drew (fun _ => False) y0).trans hU2
       have HQ2 := Lib.hid (HCF.out w2 hUr)
       have HU3 := Lib.hid (HU.out.trans hUr)
       have HUR := Lib.hid hUr
       clear hU2 hUr
       go_wp2_with fail
       refine hKK.out _ _ (.inr HQ2.out) ?_
       iterate 26
        first | refine plan_skip rfl rfl ?_ | (refine plan_take (v := ?_) rfl rfl (fun w' hS => ?_) ?_; rotate_left; · (go_simp; try with_reducible rfl))
        simp only [HLQ.out, putL]
       refine plan_act rfl (fun K2 hK2 => ?_)
       go_wp2_with fail
       refine hK2.out _ _ (.inr HQ2.out) ?_
       iterate 1
        first | refine plan_lskip rfl rfl ?_ | (refine plan_last (v := ?_) rfl rfl (fun w' hS => ?_) ?_; rotate_left; · (go_simp; try with_reducible rfl))
        simp only [putL]
       refine plan_end ?_
       go_wp2_with fail
       have HR := HALL.out HBT.out
       go_ret
       exact ⟨by rw [hT.out, HR.out]; rfl, HW.out.trans HU3.out⟩
      | false =>
       have HB2 : Hid (badT PS l j = waySet PS xp) := Lib.hid (by rw [HB1'.out, Bool.false_or])
       generalize waySet PS xp = wi at *
       refine wp_region_plan_last [([0, 1], 2), ([3, 4, 5, 6, 7, 8, 9, 10, 11, 12, 13, 14, 15, 16, 17, 18, 19, 20, 21, 22, 23, 24, 25, 26, 27, 28], 29)] [30] (fun w' => w'.cell? ⟨B, 0, none⟩ = some (.string (str xp)) ∧ w'.cell? ⟨B, 2, none⟩ = some (.string (str xt)) ∧ w'.cell? ⟨b, o + m * 3, none⟩ = some (.string (str pr))) (by kernel_rfl) (by kernel_rfl) HQ.out ?_
       iterate 2
        first | refine plan_skip rfl rfl ?_ | (refine plan_take (v := ?_) rfl rfl (fun w' hS => ?_) ?_; rotate_left; · (go_simp; try with_reducible rfl))
        simp only [putL]
       refine plan_act rfl (fun KK hKK => ?_)
       go_wp2_with fail
       refine (HRI.out _).mono ?_
       rintro e w2 ⟨rfl, hU2⟩
       have hUr := (Upd.drew (fun _ => False) y0).trans hU2
       have HQ2 := Lib.hid (HCF.out w2 hUr)
       have HU3 := Lib.hid (HU.out.trans hUr)
       have HUR := Lib.hid hUr
       clear hU2 hUr
       go_wp2_with fail
       refine hKK.out _ _ (.inr HQ2.out) ?_
       iterate 26
        first | refine plan_skip rfl rfl ?_ | (refine plan_take (v := ?_) rfl rfl (fun w' hS => ?_) ?_; rotate_left; · (go_simp; try with_reducible rfl))
        simp only [HLQ.out, putL]
       refine plan_act rfl (fun K2 hK2 => ?_)
       go_wp2_with fail
       refine (HWI.out w2 HUR.out).mono ?_
       rintro e w3 ⟨rfl, hU4⟩
       have HQ3 := Lib.hid (HCF.out w3 (HUR.out.trans hU4))
       have HU4 := Lib.hid (HU3.out.trans hU4)
       clear hU4
       go_wp2_with fail
       cases wi with
       | true =>
        refine hK2.out _ _ (.inr HQ3.out) ?_
        iterate 1
         first | refine plan_lskip rfl rfl ?_ | (refine plan_last (v := ?_) rfl rfl (fun w' hS => ?_) ?_; rotate_left; · (go_simp; try with_reducible rfl))
         simp only [putL]
        refine plan_end ?_
        go_wp2_with fail
        have HR := HALL.out HB2.out
        go_ret
        exact ⟨by rw [hT.out, HR.out]; rfl, HW.out.trans HU4.out⟩
       | false =>
        refine hK2.out _ _ (.inr HQ3.out) ?_
        iterate 1
         first | refine plan_lskip rfl rfl ?_ | (refine plan_last (v := ?_) rfl rfl (fun w' hS => ?_) ?_; rotate_left; · (go_simp; try with_reducible rfl))
         simp only [putL]
        refine plan_end ?_
        go_wp2_with fail
        go_roundw
        case rel => exact ⟨j + 1, by omega, by first | rfl | go_num, Lib.hid (by rw [HS.out, HB2.out]), HU4.out⟩
        case measure => simp [intOf]; omega
     ·obtain rfl : j = 0 := by omega
      have HB2 : Hid (badT PS l 0 = waySet PS xp) := Lib.hid (by rw [HB1'.out]; rfl)
      obtain ⟨j, hj0⟩ : ∃ j : Nat, j = 0 := ⟨_, rfl⟩
      have HCF := HCB
      have HQ := Lib.hid (HCF.out y0.drew (Upd.drew _ _))
      generalize waySet PS xp = wi at *
      refine wp_region_plan_last [([0, 1], 2), ([3, 4, 5, 6, 7, 8, 9, 10, 11, 12, 13, 14, 15, 16, 17, 18, 19, 20, 21, 22, 23, 24, 25, 26, 27, 28], 29)] [30] (fun w' => w'.cell? ⟨B, 0, none⟩ = some (.string (str xp)) ∧ w'.cell? ⟨B, 2, none⟩ = some (.string (str xt))) (by kernel_rfl) (by kernel_rfl) HQ.out ?_
      iterate 2
       first | refine plan_skip rfl rfl ?_ | (refine plan_take (v := ?_) rfl rfl (fun w' hS => ?_) ?_; rotate_left; · (go_simp; try with_reducible rfl))
       simp only [putL]
      refine plan_act rfl (fun KK hKK => ?_)
      go_wp2_with fail
      refine (HRI.out _).mono ?_
      rintro e w2 ⟨rfl, hU2⟩
      have hUr := (Upd.drew (fun _ => False) y0).trans hU2
      have HQ2 := Lib.hid (HCF.out w2 hUr)
      have HU3 := Lib.hid (HU.out.trans hUr)
      have HUR := Lib.hid hUr
      clear hU2 hUr
      go_wp2_with fail
      refine hKK.out _ _ (.inr HQ2.out) ?_
      iterate 26
       first | refine plan_skip rfl rfl ?_ | (refine plan_take (v := ?_) rfl rfl (fun w' hS => ?_) ?_; rotate_left; · (go_simp; try with_reducible rfl))
       simp only [putL]
      refine plan_act rfl (fun K2 hK2 => ?_)
      go_wp2_with fail
      refine (HWI.out w2 HUR.out).mono ?_
      rintro e w3 ⟨rfl, hU4⟩
      have HQ3 := Lib.hid (HCF.out w3 (HUR.out.trans hU4))
      have HU4 := Lib.hid (HU3.out.trans hU4)
      clear hU4
      go_wp2_with fail
      cases wi with
      | true =>
       refine hK2.out _ _ (.inr HQ3.out) ?_
       iterate 1
        first | refine plan_lskip rfl rfl ?_ | (refine plan_last (v := ?_) rfl rfl (fun w' hS => ?_) ?_; rotate_left; · (go_simp; try with_reducible rfl))
        simp only [putL]
       refine plan_end ?_
       go_wp2_with fail
       have HR := HALL.out HB2.out
       go_ret
       exact ⟨by rw [hT.out, HR.out]; rfl, HW.out.trans HU4.out⟩
      | false =>
       refine hK2.out _ _ (.inr HQ3.out) ?_
       iterate 1
        first | refine plan_lskip rfl rfl ?_ | (refine plan_last (v := ?_) rfl rfl (fun w' hS => ?_) ?_; rotate_left; · (go_simp; try with_reducible rfl))
        simp only [putL]
       refine plan_end ?_
       go_wp2_with fail
       go_roundw
       case rel => exact ⟨1, by omega, by first | rfl | go_num, Lib.hid (by have := HS.out; rw [HB2.out] at this; exact this), HU4.out⟩
       case measure => simp [intOf]; omega
  ·obtain rfl : j = l.length := by omega
   have hI : ¬ (l.length : Int) < (l.length : Int) := by omega
   have HR := Lib.hid hA.out
   clear hlt
   go_wp2_with fail
   go_ret
   exact ⟨by rw [hT.out, HR.out]; rfl, HW.out.trans hU⟩
end Go.Proofs.YtccejkikphpnfaaGreatDoor
