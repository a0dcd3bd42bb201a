
/- tree.Right and the reference's answer alike: a plain law. -/
import Derived.Test.YtccejkikphpnfaaGreatDoorQ12
namespace Go.Proofs.YtccejkikphpnfaaGreatDoor
set_option linter.unusedSimpArgs false
set_option linter.unusedVariables false
set_option maxRecDepth 100000
open Go.ChangeShapes Go.WideShapes Go.ChangeAt Go.RowKit
def badR (l : List Fl) (i : Nat) : Bool :=
 match l[i]? with
 | none => false
 | some x => !pathL x.path || (decide (20000 < x.text.length) || ((decide (0 < i) && leS x.path ((l[i - 1]?.map (·.path)).getD [])) || (l.take i).any (fun y => clashL y.path x.path)))
def rightR (l : List Fl) : Bool := decide (l.length ≤ 100) && !(List.range l.length).any (badR l)
theorem badR_path (l : List Fl) (i : Nat) (hi : i < l.length) (h : badR l i = false) : pathL l[i].path = true := by
 unfold badR at h
 rw [List.getElem?_eq_getElem hi] at h
 simp at h
 exact h.1
theorem taken_shortR (l : List Fl) (j : Nat) (hj : j ≤ l.length) (h : (List.range j).any (badR l) = false) : ∀ x ∈ l.take j, x.path.length ≤ 100 := by
 intro x hx
 obtain ⟨i, hi, rfl⟩ := List.getElem_of_mem hx
 rw [List.length_take] at hi
 rw [List.getElem_take]
 refine pathL_len _ (badR_path l i (by omega) ?_)
 rw [List.any_eq_false] at h
 have := h i (by rw [List.mem_range]; omega)
 simpa using this
set_option maxHeartbeats 16000000 in
theorem r11Right_any (a : Option Addr) (c : Nat) (l : List Fl) (w : World) (hv : Vw w a l.length c 3 (l.flatMap flV)) (hqt : ∀ x ∈ l, x.text.length ≤ maxLen) :
  Calls Tryz.prog 92 #[.slice a l.length c] w fun e w' => e = .returned (.bool (rightR l)) ∧ Upd (fun _ => False) w w' := by
 have hcap := hv.cap
 have hlc := hv.le
 unfold maxLen at hcap
 by_cases h100 : l.length ≤ 100
 case neg =>
  have hI1 : (100 : Int) < (l.length : Int) := by omega
  have hT : Hid (rightR l = false) := by show _ = _; unfold rightR; rw [decide_eq_false h100]; rfl
  clear h100 hv
  go_enter Tryz.func92, Tryz.ntmps92
  go_wp2_with fail
  go_ret
  exact ⟨by rw [hT.out]; rfl, Upd.refl _ _⟩
 have hI1 : decide ((100 : Int) < (l.length : Int)) = false := by rw [decide_eq_false_iff_not]; omega
 have hT : Hid (rightR l = !(List.range l.length).any (badR l)) := by show _ = _; unfold rightR; rw [decide_eq_true h100]; rfl
 have HV := Lib.hid hv
 clear hv
 go_enter Tryz.func92, Tryz.ntmps92
 go_wp2_with fail
 clear hI1
 go_loopw [3] (fun i wr => ∃ j : Nat, j ≤ l.length ∧ i = .int .i64 (j : Int) ∧ Hid ((List.range j).any (badR l) = false) ∧ Hid (Upd (fun _ => False) w wr)) (fun i _ => l.length - (intOf i).toNat)
 case atStart => exact ⟨0, Nat.zero_le _, rfl, (by show _ = _; simp), Lib.hid (Upd.refl _ _)⟩
 case round =>
  obtain ⟨j, hj, rfl, hA, HU⟩ := hrel
  by_cases hlt : j < l.length
  ·have hI : (j : Int) < (l.length : Int) := by omega
   obtain ⟨b, o, hb, _⟩ := HV.out.at (by omega) (by decide)
   subst hb
   have HCELL : Hid (∀ w', Upd (fun _ => False) w w' → ∀ t (ht : t < l.length), w'.cell? ⟨b, o + t * 3, none⟩ = some (.string (str l[t].path))) := Lib.hid (fun w' h t ht => by
    obtain ⟨b2, o2, hb2, hcell⟩ := (HV.out.upd h (fun _ _ h => h)).at (by omega) (by decide)
    cases hb2
    exact hcell (t * 3 + 0) _ (fl_get l t 0 ht (by decide)))
   have HTEXT : Hid (∀ w', Upd (fun _ => False) w w' → w'.cell? ⟨b, o + j * 3 + 2, none⟩ = some (.string (str l[j].text))) := Lib.hid (fun w' h => by
    obtain ⟨b2, o2, hb2, hcell⟩ := (HV.out.upd h (fun _ _ h => h)).at (by omega) (by decide)
    cases hb2
    exact hcell (j * 3 + 2) _ (fl_get l j 2 hlt (by decide)))
   have HCB : Hid (∀ w', Upd (fun _ => False) w w' → w'.cell? ⟨b, o + j * 3, none⟩ = some (.string (str l[j].path)) ∧ w'.cell? ⟨b, o + j * 3 + 2, none⟩ = some (.string (str l[j].text))) := Lib.hid (fun w' h => ⟨HCELL.out w' h j hlt, HTEXT.out w' h⟩)
   have hs := range_any_succ (badR l) j
   rw [hA.out, Bool.false_or] at hs
   have hbad : badR l j = (!pathL l[j].path || (decide (20000 < l[j].text.length) || ((decide (0 < j) && leS l[j].path ((l[j - 1]?.map (·.path)).getD [])) || (l.take j).any (fun y => clashL y.path l[j].path)))) := by
    unfold badR; rw [List.getElem?_eq_getElem hlt]
   have hpr : ∀ (h1 : 0 < j) w', Upd (fun _ => False) w w' → w'.cell? ⟨b, o + (j - 1) * 3, none⟩ = some (.string (str ((l[j - 1]?.map (·.path)).getD []))) := fun h1 w' h => by
    have e : (l[j - 1]?.map (·.path)).getD [] = (l[j - 1]'(by omega)).path := by rw [List.getElem?_eq_getElem (show j - 1 < l.length by omega)]; rfl
    rw [e]
    exact HCELL.out w' h (j - 1) (by omega)
   have hall : badR l j = true → Hid ((List.range l.length).any (badR l) = true) := fun h => Lib.hid (range_any_le (badR l) (j + 1) l.length (by omega) (by rw [hs, h]))
   have htl := hqt l[j] (List.getElem_mem hlt)
   have HSH := Lib.hid (taken_shortR l j hj hA.out)
   have HS := Lib.hid hs
   have HALL := Lib.hid hall
   have HBAD := Lib.hid hbad
   have HPR := Lib.hid hpr
   clear hs hall hbad hpr hA HTEXT
   generalize hx0 : l[j] = x at HCB HBAD htl
   clear hx0
   obtain ⟨xp, xe, xt⟩ := x
   dsimp only at *
   have hsz := str_size xt
   unfold maxLen at htl
   have HRI : Hid (∀ w, Calls Tryz.prog 127 #[.string (str xp)] w fun e w' => e = .returned (.bool (pathL xp)) ∧ Upd (fun _ => False) w w') := Lib.hid (fun w => r11Path_any xp w)
   cases hP : pathL xp with
   | false =>
    rw [hP] at HRI
    have HCF := HCB
    have HBT := Lib.hid (show badR l j = true from by rw [HBAD.out, hP]; rfl)
    go_upto_region 6 with (fail)
    refine wp_region_plan_last [([0, 1, 2, 3, 4], 5)] [6, 7, 8, 9, 10, 11, 12, 13, 14, 15, 16, 17, 18, 19, 20, 21, 22, 23, 24, 25, 26, 27, 28, 29, 30, 31, 32, 33] (fun w' => w'.cell? ⟨b, o + j * 3, none⟩ = some (.string (str xp)) ∧ w'.cell? ⟨b, o + j * 3 + 2, none⟩ = some (.string (str xt))) (by kernel_rfl) (by kernel_rfl) (HCF.out _ (HU.out.trans (Upd.drew _ _))) ?_
    iterate 5
     first | refine plan_skip rfl rfl ?_ | (refine plan_take (v := ?_) rfl rfl (fun w' hS => ?_) ?_; rotate_left; · (go_simp; try with_reducible rfl))
     simp only [putL]
    refine plan_act rfl (fun KK hKK => ?_)
    go_wp2_with fail
    refine (HRI.out _).mono ?_
    rintro e w2 ⟨rfl, hU2⟩
    have HU3 := Lib.hid ((HU.out.trans (Upd.drew (fun _ => False) wr)).trans hU2)
    clear hU2
    go_wp2_with fail
    refine hKK.out _ _ (.inr (HCF.out _ HU3.out)) ?_
    iterate 28
     first | refine plan_lskip rfl rfl ?_ | (refine plan_last (v := ?_) rfl rfl (fun w' hS => ?_) ?_; rotate_left; · (go_simp; try with_reducible rfl))
     simp only [putL]
    refine plan_end ?_
    have HR := HALL.out HBT.out
    go_wp2_with fail
    go_ret
    exact ⟨by rw [hT.out, HR.out]; rfl, HU3.out⟩
   | true =>
    rw [hP] at HRI
    have hBAD := HBAD.out
    rw [hP, Bool.not_true, Bool.false_or] at hBAD
    have HB1 := Lib.hid hBAD
    have hxp := pathL_len xp hP
    clear hBAD HBAD
    by_cases ht : 20000 < xt.length
    ·have hI2 : (20000 : Int) < (xt.length : Int) := by omega
     have HCF := HCB
     have HBT := Lib.hid (show badR l j = true from by rw [HB1.out, decide_eq_true ht]; rfl)
     clear ht
     go_upto_region 6 with (fail)
     refine wp_region_plan_last [([0, 1, 2, 3, 4], 5)] [6, 7, 8, 9, 10, 11, 12, 13, 14, 15, 16, 17, 18, 19, 20, 21, 22, 23, 24, 25, 26, 27, 28, 29, 30, 31, 32, 33] (fun w' => w'.cell? ⟨b, o + j * 3, none⟩ = some (.string (str xp)) ∧ w'.cell? ⟨b, o + j * 3 + 2, none⟩ = some (.string (str xt))) (by kernel_rfl) (by kernel_rfl) (HCF.out _ (HU.out.trans (Upd.drew _ _))) ?_
     iterate 5
      first | refine plan_skip rfl rfl ?_ | (refine plan_take (v := ?_) rfl rfl (fun w' hS => ?_) ?_; rotate_left; · (go_simp; try with_reducible rfl))
      simp only [putL]
     refine plan_act rfl (fun KK hKK => ?_)
     go_wp2_with fail
     refine (HRI.out _).mono ?_
     rintro e w2 ⟨rfl, hU2⟩
     have HU3 := Lib.hid ((HU.out.trans (Upd.drew (fun _ => False) wr)).trans hU2)
     clear hU2
     go_wp2_with fail
     refine hKK.out _ _ (.inr (HCF.out _ HU3.out)) ?_
     iterate 28
      first | refine plan_lskip rfl rfl ?_ | (refine plan_last (v := ?_) rfl rfl (fun w' hS => ?_) ?_; rotate_left; · (go_simp; try with_reducible rfl))
      simp only [putL]
     refine plan_end ?_
     have HR := HALL.out HBT.out
     go_wp2_with fail
     go_ret
     exact ⟨by rw [hT.out, HR.out]; rfl, HU3.out⟩
    ·have hI2 : decide ((20000 : Int) < (xt.length : Int)) = false := by rw [decide_eq_false_iff_not]; omega
     have hBAD := HB1.out
     rw [decide_eq_false ht, Bool.false_or] at hBAD
     have HB1' := Lib.hid hBAD
     clear ht hBAD HB1
     by_cases h0 : 0 < j
     ·have hpv := HPR.out h0
      rw [decide_eq_true h0, Bool.true_and] at HB1'
      generalize (l[j - 1]?.map (·.path)).getD [] = pr at *
      have hj1 : (j : Int) - 1 = ((j - 1 : Nat) : Int) := by omega
      have hj2 : j - 1 < l.length := by omega
      generalize j - 1 = m at hpv hj1 hj2
      have hwj : IntKind.i64.wrap (m : Int) = (m : Int) := IntWalk.i64_in _ (by omega)
      have hj3 : (m : Int) < (l.length : Int) := by omega
      have hI0 : (0 : Int) < (j : Int) := by omega
      have HLQ : Hid ((Op.bytesLess xp pr || xp == pr) = leS xp pr) := Lib.hid rfl
      have HCF : Hid (∀ w', Upd (fun _ => False) w w' → w'.cell? ⟨b, o + j * 3, none⟩ = some (.string (str xp)) ∧ w'.cell? ⟨b, o + j * 3 + 2, none⟩ = some (.string (str xt)) ∧ w'.cell? ⟨b, o + m * 3, none⟩ = some (.string (str pr))) := Lib.hid (fun w' h => ⟨(HCB.out w' h).1, (HCB.out w' h).2, hpv w' h⟩)
      clear hpv
      generalize leS xp pr = le at *
      cases le with
      | true =>
       have HBT := Lib.hid (show badR l j = true from by rw [HB1'.out]; rfl)
       go_upto_region 6 with (fail)
       refine wp_region_plan_last [([0, 1, 2, 3, 4], 5)] [6, 7, 8, 9, 10, 11, 12, 13, 14, 15, 16, 17, 18, 19, 20, 21, 22, 23, 24, 25, 26, 27, 28, 29, 30, 31, 32, 33] (fun w' => w'.cell? ⟨b, o + j * 3, none⟩ = some (.string (str xp)) ∧ w'.cell? ⟨b, o + j * 3 + 2, none⟩ = some (.string (str xt)) ∧ w'.cell? ⟨b, o + m * 3, none⟩ = some (.string (str pr))) (by kernel_rfl) (by kernel_rfl) (HCF.out _ (HU.out.trans (Upd.drew _ _))) ?_
       iterate 5
        first | refine plan_skip rfl rfl ?_ | (refine plan_take (v := ?_) rfl rfl (fun w' hS => ?_) ?_; rotate_left; · (go_simp; try with_reducible rfl))
        simp only [putL]
       refine plan_act rfl (fun KK hKK => ?_)
       go_wp2_with fail
       refine (HRI.out _).mono ?_
       rintro e w2 ⟨rfl, hU2⟩
       have HU3 := Lib.hid ((HU.out.trans (Upd.drew (fun _ => False) wr)).trans hU2)
       clear hU2
       go_wp2_with fail
       refine hKK.out _ _ (.inr (HCF.out _ HU3.out)) ?_
       iterate 28
        first | refine plan_lskip rfl rfl ?_ | (refine plan_last (v := ?_) rfl rfl (fun w' hS => ?_) ?_; rotate_left; · (go_simp; try with_reducible rfl))
        simp only [HLQ.out, putL]
       refine plan_end ?_
       have HR := HALL.out HBT.out
       go_wp2_with fail
       go_ret
       exact ⟨by rw [hT.out, HR.out]; rfl, HU3.out⟩
      | false =>
       have HB2 : Hid (badR l j = (l.take j).any (fun y => clashL y.path xp)) := Lib.hid (by rw [HB1'.out, Bool.false_or])
       go_upto_region 6 with (fail)
       refine wp_region_plan_last [([0, 1, 2, 3, 4], 5)] [6, 7, 8, 9, 10, 11, 12, 13, 14, 15, 16, 17, 18, 19, 20, 21, 22, 23, 24, 25, 26, 27, 28, 29, 30, 31, 32, 33] (fun w' => w'.cell? ⟨b, o + j * 3, none⟩ = some (.string (str xp)) ∧ w'.cell? ⟨b, o + j * 3 + 2, none⟩ = some (.string (str xt)) ∧ w'.cell? ⟨b, o + m * 3, none⟩ = some (.string (str pr))) (by kernel_rfl) (by kernel_rfl) (HCF.out _ (HU.out.trans (Upd.drew _ _))) ?_
       iterate 5
        first | refine plan_skip rfl rfl ?_ | (refine plan_take (v := ?_) rfl rfl (fun w' hS => ?_) ?_; rotate_left; · (go_simp; try with_reducible rfl))
        simp only [putL]
       refine plan_act rfl (fun KK hKK => ?_)
       go_wp2_with fail
       refine (HRI.out _).mono ?_
       rintro e w2 ⟨rfl, hU2⟩
       have HU3 := Lib.hid ((HU.out.trans (Upd.drew (fun _ => False) wr)).trans hU2)
       clear hU2
       go_wp2_with fail
       refine hKK.out _ _ (.inr (HCF.out _ HU3.out)) ?_
       iterate 28
        first | refine plan_lskip rfl rfl ?_ | (refine plan_last (v := ?_) rfl rfl (fun w' hS => ?_) ?_; rotate_left; · (go_simp; try with_reducible rfl))
        simp only [HLQ.out, putL]
       refine plan_end ?_
       go_wp2_with fail
       go_loopw [4] (fun i wk => ∃ t : Nat, t ≤ j ∧ i = .int .i64 (t : Int) ∧ Hid ((l.take t).any (fun y => clashL y.path xp) = false) ∧ Hid (Upd (fun _ => False) w wk)) (fun i _ => j - (intOf i).toNat)
       case atStart => exact ⟨0, Nat.zero_le _, rfl, Lib.hid rfl, HU3⟩
       case round =>
        obtain ⟨t, ht, rfl, HT, HUK⟩ := hrel
        by_cases htj : t < j
        ·have hI5 : (t : Int) < (j : Int) := by omega
         have htl : t < l.length := by omega
         have hct : Hid (∀ w', Upd (fun _ => False) w w' → w'.cell? ⟨b, o + t * 3, none⟩ = some (.string (str l[t].path))) := Lib.hid (fun w' h => HCELL.out w' h t htl)
         have hyl := HSH.out l[t] (by rw [List.mem_take_iff_getElem]; exact ⟨t, by omega, rfl⟩)
         have hsn := any_take_succ (fun y : Fl => clashL y.path xp) l t htl
         rw [HT.out, Bool.false_or] at hsn
         have hin : clashL l[t].path xp = true → Hid ((l.take j).any (fun y => clashL y.path xp) = true) := fun h => Lib.hid (by
          rw [List.any_eq_true]
          exact ⟨l[t], by rw [List.mem_take_iff_getElem]; exact ⟨t, by omega, rfl⟩, h⟩)
         have HSN := Lib.hid hsn
         have HIN := Lib.hid hin
         clear hsn hin
         generalize l[t] = y at *
         obtain ⟨yp, ye, yt⟩ := y
         dsimp only at *
         have hcl : Hid (∀ w, Calls Tryz.prog 128 #[.string (str yp), .string (str xp)] w fun e w' => e = .returned (.bool (clashL yp xp)) ∧ w = w') := Lib.hid (fun w => r11Clash_any yp xp w (by omega) (by omega))
         generalize clashL yp xp = cc at *
         have htI : (t : Int) < (l.length : Int) := by omega
         go_upto_region 11 with (fail)
         refine wp_region_plan_last [([0, 1, 2, 3, 4, 5, 6, 7, 8, 9], 10)] [] (fun w' => w'.cell? ⟨b, o + t * 3, none⟩ = some (.string (str yp)) ∧ w'.cell? ⟨b, o + j * 3, none⟩ = some (.string (str xp))) (by kernel_rfl) (by kernel_rfl) ⟨hct.out _ (HUK.out.trans (Upd.drew _ _)), (HCB.out _ (HUK.out.trans (Upd.drew _ _))).1⟩ ?_
         iterate 10
          first | refine plan_skip rfl rfl ?_ | (refine plan_take (v := ?_) rfl rfl (fun w' hS => ?_) ?_; rotate_left; · (go_simp; try with_reducible rfl))
          simp only [putL]
         refine plan_act rfl (fun K5 hK5 => ?_)
         go_wp2_with fail
         refine (hcl.out _).mono ?_
         rintro e w' ⟨rfl, rfl⟩
         go_wp2_with fail
         refine hK5.out _ _ (.inl rfl) (plan_end ?_)
         have HUK2 := Lib.hid (HUK.out.trans (Upd.drew _ _))
         clear HUK hK5
         cases cc with
         | true =>
          have HR := HALL.out (by rw [HB2.out, (HIN.out rfl).out])
          go_wp2_with fail
          go_ret
          exact ⟨by rw [hT.out, HR.out]; rfl, HUK2.out⟩
         | false =>
          go_wp2_with fail
          go_roundw
          case rel => exact ⟨t + 1, by omega, by first | rfl | go_num, HSN, HUK2⟩
          case measure => simp [intOf]; omega
        ·obtain rfl : t = j := by omega
         have hI5 : decide ((t : Int) < (t : Int)) = false := by simp
         have HB3 : Hid (badR l t = false) := Lib.hid (by rw [HB2.out]; exact HT.out)
         clear htj
         go_wp2_with fail
         go_roundw
         case rel => exact ⟨t + 1, by omega, by first | rfl | go_num, Lib.hid (by rw [HS.out, HB3.out]), HUK⟩
         case measure => simp [intOf]; omega
     ·have hI0 : decide ((0 : Int) < (j : Int)) = false := by rw [decide_eq_false_iff_not]; omega
      have HB2 : Hid (badR l j = (l.take j).any (fun y => clashL y.path xp)) := Lib.hid (by rw [HB1'.out, decide_eq_false h0]; rfl)
      have HCF := HCB
      go_upto_region 6 with (fail)
      refine wp_region_plan_last [([0, 1, 2, 3, 4], 5)] [6, 7, 8, 9, 10, 11, 12, 13, 14, 15, 16, 17, 18, 19, 20, 21, 22, 23, 24, 25, 26, 27, 28, 29, 30, 31, 32, 33] (fun w' => w'.cell? ⟨b, o + j * 3, none⟩ = some (.string (str xp)) ∧ w'.cell? ⟨b, o + j * 3 + 2, none⟩ = some (.string (str xt))) (by kernel_rfl) (by kernel_rfl) (HCF.out _ (HU.out.trans (Upd.drew _ _))) ?_
      iterate 5
       first | refine plan_skip rfl rfl ?_ | (refine plan_take (v := ?_) rfl rfl (fun w' hS => ?_) ?_; rotate_left; · (go_simp; try with_reducible rfl))
       simp only [putL]
      refine plan_act rfl (fun KK hKK => ?_)
      go_wp2_with fail
      refine (HRI.out _).mono ?_
      rintro e w2 ⟨rfl, hU2⟩
      have HU3 := Lib.hid ((HU.out.trans (Upd.drew (fun _ => False) wr)).trans hU2)
      clear hU2
      go_wp2_with fail
      refine hKK.out _ _ (.inr (HCF.out _ HU3.out)) ?_
      iterate 28
       first | refine plan_lskip rfl rfl ?_ | (refine plan_last (v := ?_) rfl rfl (fun w' hS => ?_) ?_; rotate_left; · (go_simp; try with_reducible rfl))
       simp only [putL]
      refine plan_end ?_
      go_wp2_with fail
      go_loopw [4] (fun i wk => ∃ t : Nat, t ≤ j ∧ i = .int .i64 (t : Int) ∧ Hid ((l.take t).any (fun y => clashL y.path xp) = false) ∧ Hid (Upd (fun _ => False) w wk)) (fun i _ => j - (intOf i).toNat)
      case atStart => exact ⟨0, Nat.zero_le _, rfl, Lib.hid rfl, HU3⟩
      case round =>
       obtain ⟨t, ht, rfl, HT, HUK⟩ := hrel
       by_cases htj : t < j
       ·have hI5 : (t : Int) < (j : Int) := by omega
        have htl : t < l.length := by omega
        have hct : Hid (∀ w', Upd (fun _ => False) w w' → w'.cell? ⟨b, o + t * 3, none⟩ = some (.string (str l[t].path))) := Lib.hid (fun w' h => HCELL.out w' h t htl)
        have hyl := HSH.out l[t] (by rw [List.mem_take_iff_getElem]; exact ⟨t, by omega, rfl⟩)
        have hsn := any_take_succ (fun y : Fl => clashL y.path xp) l t htl
        rw [HT.out, Bool.false_or] at hsn
        have hin : clashL l[t].path xp = true → Hid ((l.take j).any (fun y => clashL y.path xp) = true) := fun h => Lib.hid (by
         rw [List.any_eq_true]
         exact ⟨l[t], by rw [List.mem_take_iff_getElem]; exact ⟨t, by omega, rfl⟩, h⟩)
        have HSN := Lib.hid hsn
        have HIN := Lib.hid hin
        clear hsn hin
        generalize l[t] = y at *
        obtain ⟨yp, ye, yt⟩ := y
        dsimp only at *
        have hcl : Hid (∀ w, Calls Tryz.prog 128 #[.string (str yp), .string (str xp)] w fun e w' => e = .returned (.bool (clashL yp xp)) ∧ w = w') := Lib.hid (fun w => r11Clash_any yp xp w (by omega) (by omega))
        generalize clashL yp xp = cc at *
        have htI : (t : Int) < (l.length : Int) := by omega
        go_upto_region 11 with (fail)
        refine wp_region_plan_last [([0, 1, 2, 3, 4, 5, 6, 7, 8, 9], 10)] [] (fun w' => w'.cell? ⟨b, o + t * 3, none⟩ = some (.string (str yp)) ∧ w'.cell? ⟨b, o + j * 3, none⟩ = some (.string (str xp))) (by kernel_rfl) (by kernel_rfl) ⟨hct.out _ (HUK.out.trans (Upd.drew _ _)), (HCB.out _ (HUK.out.trans (Upd.drew _ _))).1⟩ ?_
        iterate 10
         first | refine plan_skip rfl rfl ?_ | (refine plan_take (v := ?_) rfl rfl (fun w' hS => ?_) ?_; rotate_left; · (go_simp; try with_reducible rfl))
         simp only [putL]
        refine plan_act rfl (fun K5 hK5 => ?_)
        go_wp2_with fail
        refine (hcl.out _).mono ?_
        rintro e w' ⟨rfl, rfl⟩
        go_wp2_with fail
        refine hK5.out _ _ (.inl rfl) (plan_end ?_)
        have HUK2 := Lib.hid (HUK.out.trans (Upd.drew _ _))
        clear HUK hK5
        cases cc with
        | true =>
         have HR := HALL.out (by rw [HB2.out, (HIN.out rfl).out])
         go_wp2_with fail
         go_ret
         exact ⟨by rw [hT.out, HR.out]; rfl, HUK2.out⟩
        | false =>
         go_wp2_with fail
         go_roundw
         case rel => exact ⟨t + 1, by omega, by first | rfl | go_num, HSN, HUK2⟩
         case measure => simp [intOf]; omega
       ·obtain rfl : t = j := by omega
        have hI5 : decide ((t : Int) < (t : Int)) = false := by simp
        have HB3 : Hid (badR l t = false) := Lib.hid (by rw [HB2.out]; exact HT.out)
        clear htj
        go_wp2_with fail
        go_roundw
        case rel => exact ⟨t + 1, by omega, by first | rfl | go_num, Lib.hid (by rw [HS.out, HB3.out]), HUK⟩
        case measure => simp [intOf]; omega
  ·obtain rfl : j = l.length := by omega
   have hI : ¬ (l.length : Int) < (l.length : Int) := by omega
   have HR := Lib.hid hA.out
   clear hlt
   go_wp2_with fail
   go_ret
   exact ⟨by rw [hT.out, HR.out]; rfl, HU.out⟩
def joinS : List (List UInt8) → List UInt8
 | [] => []
 | x :: xs => 47 :: (x ++ joinS xs)
theorem joinS_app (a b : List (List UInt8)) : joinS (a ++ b) = joinS a ++ joinS b := by
 induction a with
 | nil => rfl
 | cons x a ih => simp [joinS, ih]
theorem partsL_join (p : List UInt8) : ∀ s r, partsL p = s :: r → p = s ++ joinS r := by
 induction p with
 | nil =>
  intro s r h
  simp [partsL] at h
  obtain ⟨rfl, rfl⟩ := h
  rfl
 | cons b p ih =>
  intro s r h
  unfold partsL at h
  split at h
  ·rename_i hb
   cases h
   have hb' : b = 47 := by simpa using hb
   cases hp : partsL p with
   | nil => exact absurd hp (partsL_ne p)
   | cons x xs => rw [List.nil_append, joinS, ← ih x xs hp, hb']
  ·cases hp : partsL p with
   | nil => exact absurd hp (partsL_ne p)
   | cons x xs =>
    rw [hp] at h
    dsimp only at h
    cases h
    rw [List.cons_append, ← ih x r hp]
theorem partsL_slash (q t : List UInt8) : partsL (q ++ 47 :: t) = partsL q ++ partsL t := by
 induction q with
 | nil => simp [partsL]
 | cons b q ih =>
  have e : ∀ s, partsL (b :: s) = if b == 47 then [] :: partsL s else match partsL s with
   | [] => [[b]]
   | p :: ps => (b :: p) :: ps := fun s => rfl
  rw [List.cons_append, e, e, ih]
  split
  ·rfl
  ·cases hp : partsL q with
   | nil => exact absurd hp (partsL_ne q)
   | cons x xs => rfl
theorem wiR_iff (S : List (List UInt8)) : ∀ (r : List (List UInt8)) (q : List UInt8), wiR S q r = true ↔ ∃ i, i < r.length ∧ (q ++ joinS (r.take i)) ∈ S
 | [], q => by simp [wiR]
 | s :: r, q => by
  rw [wiR, Bool.or_eq_true, wiR_iff S r]
  constructor
  ·rintro (h | ⟨i, hi, h⟩)
   ·exact ⟨0, by simp, by simpa [joinS] using h⟩
   ·refine ⟨i + 1, by simpa using hi, ?_⟩
    simpa [joinS] using h
  ·rintro ⟨i, hi, h⟩
   cases i with
   | zero => left; simpa [joinS] using h
   | succ i => right; exact ⟨i, by simpa using hi, by simpa [joinS] using h⟩
theorem withinL_iff (p q : List UInt8) : withinL p q = true ↔ ∃ t, p = q ++ 47 :: t := by
 unfold withinL hpL
 rw [Bool.and_eq_true, decide_eq_true_eq, beq_iff_eq]
 constructor
 ·rintro ⟨h1, h2⟩
  refine ⟨p.drop (q ++ [47]).length, ?_⟩
  have := List.take_append_drop (q ++ [47]).length p
  rw [h2] at this
  rw [← this]; simp
 ·rintro ⟨t, rfl⟩
  refine ⟨by simp, ?_⟩
  rw [show q ++ 47 :: t = (q ++ [47]) ++ t from by simp]
  exact List.take_left
theorem waySet_iff (S : List (List UInt8)) (p : List UInt8) : waySet S p = true ↔ ∃ q ∈ S, withinL p q = true := by
 cases hp : partsL p with
 | nil => exact absurd hp (partsL_ne p)
 | cons s r =>
  have hj := partsL_join p s r hp
  unfold waySet
  rw [hp]
  dsimp only
  rw [wiR_iff]
  constructor
  ·rintro ⟨i, hi, h⟩
   refine ⟨_, h, (withinL_iff _ _).2 ?_⟩
   cases hd : r.drop i with
   | nil => have := congrArg List.length hd; simp at this; omega
   | cons x xs =>
    refine ⟨x ++ joinS xs, ?_⟩
    rw [hj]
    conv => lhs; rw [← List.take_append_drop i r, joinS_app, hd]
    simp [joinS]
  ·rintro ⟨q, hq, h⟩
   obtain ⟨t, rfl⟩ := (withinL_iff _ _).1 h
   rw [partsL_slash] at hp
   cases hpq : partsL q with
   | nil => exact absurd hpq (partsL_ne q)
   | cons s' r' =>
    rw [hpq, List.cons_append] at hp
    cases hp
    refine ⟨r'.length, ?_, ?_⟩
    ·rw [List.length_append]
     have := List.length_pos_iff.2 (partsL_ne t)
     omega
    ·rw [List.take_left, ← partsL_join q _ _ hpq]
     exact hq
theorem less_eq : ∀ (x y : List UInt8), Op.bytesLess x y = decide (x < y)
 | [], [] => by simp [Op.bytesLess]
 | _ :: _, [] => by simp [Op.bytesLess]
 | [], _ :: _ => by simp [Op.bytesLess]
 | a :: x, b :: y => by
  rw [Op.bytesLess, less_eq x y]
  by_cases h1 : a < b <;> by_cases h2 : a = b <;> by_cases h3 : x < y <;> simp [List.cons_lt_cons_iff, h1, h2, h3]
theorem less_trans {a b c : List UInt8} (h : a < b) (k : b < c) : a < c := List.lt_trans h k
theorem less_asymm {a b : List UInt8} (h : a < b) (k : b < a) : False := List.lt_irrefl a (List.lt_trans h k)
theorem leS_false {a b : List UInt8} (h : leS a b = false) : b < a := by
 unfold leS at h
 rw [Bool.or_eq_false_iff, less_eq, decide_eq_false_iff_not, beq_eq_false_iff_ne] at h
 have h1 : b ≤ a := List.not_lt.1 h.1
 by_cases h2 : b < a
 ·exact h2
 ·exact absurd (List.le_antisymm (List.not_lt.1 h2) h1) h.2
theorem within_less {p q : List UInt8} (h : withinL p q = true) : q < p := by
 obtain ⟨t, rfl⟩ := (withinL_iff _ _).1 h
 induction q with
 | nil => exact List.Lex.nil
 | cons x q ih => exact List.Lex.cons (ih ((withinL_iff _ _).2 ⟨t, rfl⟩))
/-- What both ask of a file by itself. -/
def baseB (l : List Fl) (i : Nat) : Bool :=
 match l[i]? with
 | none => false
 | some x => !pathL x.path || (decide (20000 < x.text.length) || (decide (0 < i) && leS x.path ((l[i - 1]?.map (·.path)).getD [])))
theorem badT_eq (S : List (List UInt8)) (l : List Fl) (i : Nat) (hi : i < l.length) : badT S l i = (baseB l i || waySet S l[i].path) := by
 unfold badT baseB
 rw [List.getElem?_eq_getElem hi]
 simp only [Bool.or_assoc]
theorem badR_eq (l : List Fl) (i : Nat) (hi : i < l.length) : badR l i = (baseB l i || (l.take i).any (fun y => clashL y.path l[i].path)) := by
 unfold badR baseB
 rw [List.getElem?_eq_getElem hi]
 simp only [Bool.or_assoc]
theorem base_next (l : List Fl) (i : Nat) (hi : i + 1 < l.length) (h : baseB l (i + 1) = false) : l[i].path < l[i + 1].path := by
 unfold baseB at h
 rw [List.getElem?_eq_getElem hi] at h
 dsimp only at h
 rw [Bool.or_eq_false_iff, Bool.or_eq_false_iff] at h
 have h2 := h.2.2
 rw [show i + 1 - 1 = i from rfl, List.getElem?_eq_getElem (show i < l.length by omega)] at h2
 simp at h2
 exact leS_false h2
theorem base_less (l : List Fl) (h : ∀ i, i < l.length → baseB l i = false) (k : Nat) : ∀ d (hd : k + d + 1 < l.length), (l[k]'(by omega)).path < (l[k + d + 1]'hd).path
 | 0, hd => base_next l k hd (h (k + 1) hd)
 | d + 1, hd => less_trans (base_less l h k d (by omega)) (base_next l (k + d + 1) hd (h _ hd))
theorem base_lt (l : List Fl) (h : ∀ i, i < l.length → baseB l i = false) {k i : Nat} (hk : k < i) (hi : i < l.length) : (l[k]'(by omega)).path < (l[i]'hi).path := by
 have := base_less l h k (i - k - 1) (by omega)
 simpa [show k + (i - k - 1) + 1 = i from by omega] using this
theorem right_eq (l : List Fl) : rightT l = rightR l := by
 unfold rightT rightR
 congr 2
 by_cases hb : ∃ i, i < l.length ∧ baseB l i = true
 ·obtain ⟨i, hi, hbi⟩ := hb
  have h1 : (List.range l.length).any (badT (l.map Fl.path).reverse l) = true := by
   rw [List.any_eq_true]; exact ⟨i, List.mem_range.2 hi, by rw [badT_eq _ l i hi, hbi]; rfl⟩
  have h2 : (List.range l.length).any (badR l) = true := by
   rw [List.any_eq_true]; exact ⟨i, List.mem_range.2 hi, by rw [badR_eq l i hi, hbi]; rfl⟩
  rw [h1, h2]
 ·have hall : ∀ i, i < l.length → baseB l i = false := fun i hi => by
   cases h : baseB l i
   ·rfl
   ·exact absurd ⟨i, hi, h⟩ hb
  rw [Bool.eq_iff_iff, List.any_eq_true, List.any_eq_true]
  constructor
  ·rintro ⟨i, hi, h⟩
   rw [List.mem_range] at hi
   rw [badT_eq _ l i hi, hall i hi, Bool.false_or, waySet_iff] at h
   obtain ⟨q, hq, hw⟩ := h
   rw [List.mem_reverse, List.mem_map] at hq
   obtain ⟨x, hx, rfl⟩ := hq
   obtain ⟨k, hk, rfl⟩ := List.getElem_of_mem hx
   have hls := within_less hw
   have hki : k < i := by
    rcases Nat.lt_trichotomy k i with h1 | h1 | h1
    ·exact h1
    ·subst h1; exact absurd hls (List.lt_irrefl _)
    ·exact (less_asymm hls (base_lt l hall h1 hk)).elim
   refine ⟨i, List.mem_range.2 hi, ?_⟩
   rw [badR_eq l i hi, hall i hi, Bool.false_or, List.any_eq_true]
   refine ⟨l[k], by rw [List.mem_take_iff_getElem]; exact ⟨k, by omega, rfl⟩, ?_⟩
   unfold clashL
   rw [hw]; simp
  ·rintro ⟨i, hi, h⟩
   rw [List.mem_range] at hi
   rw [badR_eq l i hi, hall i hi, Bool.false_or, List.any_eq_true] at h
   obtain ⟨y, hy, hc⟩ := h
   rw [List.mem_take_iff_getElem] at hy
   obtain ⟨k, hk, rfl⟩ := hy
   have hki : k < i := by omega
   have hls := base_lt l hall hki hi
   refine ⟨i, List.mem_range.2 hi, ?_⟩
   rw [badT_eq _ l i hi, hall i hi, Bool.false_or, waySet_iff]
   refine ⟨(l[k]'(by omega)).path, by rw [List.mem_reverse, List.mem_map]; exact ⟨_, List.getElem_mem _, rfl⟩, ?_⟩
   unfold clashL at hc
   rw [Bool.or_eq_true, Bool.or_eq_true] at hc
   rcases hc with (hc | hc) | hc
   ·rw [beq_iff_eq] at hc
    rw [hc] at hls
    exact absurd hls (List.lt_irrefl _)
   ·exact (less_asymm hls (within_less hc)).elim
   ·exact hc
end Go.Proofs.YtccejkikphpnfaaGreatDoor
