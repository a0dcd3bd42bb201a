
/- The reference's WaitMay. -/
import Derived.Test.YtccejkikphpnfaaGreatDoorTs4
import Derived.Test.YtccejkikphpnfaaGreatDoorTl1
import Derived.Test.YtccejkikphpnfaaGreatDoorTl4
namespace Go.Proofs.YtccejkikphpnfaaGreatDoor
set_option linter.unusedSimpArgs false
set_option linter.unusedVariables false
set_option maxRecDepth 100000
open Go.ChangeShapes Go.WideShapes Go.ChangeAt Go.RowKit

def badR (l : List Fl) (i : Nat) : Bool :=
  match l[i]? with
  | none => false
  | some x => !pathL x.path || (decide (20000 < x.text.length) || ((decide (0 < i) && leS x.path ((l[i - 1]?.map (·.path)).getD [])) || (l.take i).any (fun y => clashL y.path x.path)))
def rightR (l : List Fl) : Bool := decide (l.length ≤ 100) && !(List.range l.length).any (badR l)
theorem badR_path (l : List Fl) (i : Nat) (hi : i < l.length) (h : badR l i = false) : pathL l[i].path = true := by
  unfold badR at h
  rw [List.getElem?_eq_getElem hi] at h
  simp at h
  exact h.1
theorem taken_shortR (l : List Fl) (j : Nat) (hj : j ≤ l.length) (h : (List.range j).any (badR l) = false) : ∀ x ∈ l.take j, x.path.length ≤ 100 := by
  intro x hx
  obtain ⟨i, hi, rfl⟩ := List.getElem_of_mem hx
  rw [List.length_take] at hi
  rw [List.getElem_take]
  refine pathL_len _ (badR_path l i (by omega) ?_)
  rw [List.any_eq_false] at h
  have := h i (by rw [List.mem_range]; omega)
  simpa using this

set_option maxHeartbeats 16000000 in
theorem r11Right_any (a : Option Addr) (c : Nat) (l : List Fl) (w : World) (hv : Vw w a l.length c 3 (l.flatMap flV)) (hqt : ∀ x ∈ l, x.text.length ≤ maxLen) :
    Calls Tryz.prog 92 #[.slice a l.length c] w fun e w' => e = .returned (.bool (rightR l)) ∧ Upd (fun _ => False) w w' := by
  have hcap := hv.cap
  have hlc := hv.le
  unfold maxLen at hcap
  by_cases h100 : l.length ≤ 100
  case neg =>
    have hI1 : (100 : Int) < (l.length : Int) := by omega
    have hT : Hid (rightR l = false) := by show _ = _; unfold rightR; rw [decide_eq_false h100]; rfl
    clear h100 hv
    go_enter Tryz.func92, Tryz.ntmps92
    go_wp2_with fail
    go_ret
    exact ⟨by rw [hT.out]; rfl, Upd.refl _ _⟩
  have hI1 : decide ((100 : Int) < (l.length : Int)) = false := by rw [decide_eq_false_iff_not]; omega
  have hT : Hid (rightR l = !(List.range l.length).any (badR l)) := by show _ = _; unfold rightR; rw [decide_eq_true h100]; rfl
  have HV := Lib.hid hv
  clear hv
  go_enter Tryz.func92, Tryz.ntmps92
  go_wp2_with fail
  clear hI1
  go_loopw [3] (fun i wr => ∃ j : Nat, j ≤ l.length ∧ i = .int .i64 (j : Int) ∧ Hid ((List.range j).any (badR l) = false) ∧ Hid (Upd (fun _ => False) w wr)) (fun i _ => l.length - (intOf i).toNat)
  case atStart => exact ⟨0, Nat.zero_le _, rfl, (by show _ = _; simp), Lib.hid (Upd.refl _ _)⟩
  case round =>
    obtain ⟨j, hj, rfl, hA, HU⟩ := hrel
    by_cases hlt : j < l.length
    · have hI : (j : Int) < (l.length : Int) := by omega
      obtain ⟨b, o, hb, _⟩ := HV.out.at (by omega) (by decide)
      subst hb
      have HCELL : Hid (∀ w', Upd (fun _ => False) w w' → ∀ t (ht : t < l.length), w'.cell? ⟨b, o + t * 3, none⟩ = some (.string (str l[t].path))) := Lib.hid (fun w' h t ht => by
        obtain ⟨b2, o2, hb2, hcell⟩ := (HV.out.upd h (fun _ _ h => h)).at (by omega) (by decide)
        cases hb2
        exact hcell (t * 3 + 0) _ (fl_get l t 0 ht (by decide)))
      have HTEXT : Hid (∀ w', Upd (fun _ => False) w w' → w'.cell? ⟨b, o + j * 3 + 2, none⟩ = some (.string (str l[j].text))) := Lib.hid (fun w' h => by
        obtain ⟨b2, o2, hb2, hcell⟩ := (HV.out.upd h (fun _ _ h => h)).at (by omega) (by decide)
        cases hb2
        exact hcell (j * 3 + 2) _ (fl_get l j 2 hlt (by decide)))
      have HCB : Hid (∀ w', Upd (fun _ => False) w w' → w'.cell? ⟨b, o + j * 3, none⟩ = some (.string (str l[j].path)) ∧ w'.cell? ⟨b, o + j * 3 + 2, none⟩ = some (.string (str l[j].text))) := Lib.hid (fun w' h => ⟨HCELL.out w' h j hlt, HTEXT.out w' h⟩)
      have hs := range_any_succ (badR l) j
      rw [hA.out, Bool.false_or] at hs
      have hbad : badR l j = (!pathL l[j].path || (decide (20000 < l[j].text.length) || ((decide (0 < j) && leS l[j].path ((l[j - 1]?.map (·.path)).getD [])) || (l.take j).any (fun y => clashL y.path l[j].path)))) := by
        unfold badR; rw [List.getElem?_eq_getElem hlt]
      have hpr : ∀ (h1 : 0 < j) w', Upd (fun _ => False) w w' → w'.cell? ⟨b, o + (j - 1) * 3, none⟩ = some (.string (str ((l[j - 1]?.map (·.path)).getD []))) := fun h1 w' h => by
        have e : (l[j - 1]?.map (·.path)).getD [] = (l[j - 1]'(by omega)).path := by rw [List.getElem?_eq_getElem (show j - 1 < l.length by omega)]; rfl
        rw [e]
        exact HCELL.out w' h (j - 1) (by omega)
      have hall : badR l j = true → Hid ((List.range l.length).any (badR l) = true) := fun h => Lib.hid (range_any_le (badR l) (j + 1) l.length (by omega) (by rw [hs, h]))
      have htl := hqt l[j] (List.getElem_mem hlt)
      have HSH := Lib.hid (taken_shortR l j hj hA.out)
      have HS := Lib.hid hs
      have HALL := Lib.hid hall
      have HBAD := Lib.hid hbad
      have HPR := Lib.hid hpr
      clear hs hall hbad hpr hA HTEXT
      generalize hx0 : l[j] = x at HCB HBAD htl
      clear hx0
      obtain ⟨xp, xe, xt⟩ := x
      dsimp only at *
      have hsz := str_size xt
      unfold maxLen at htl
      have HRI : Hid (∀ w, Calls Tryz.prog 127 #[.string (str xp)] w fun e w' => e = .returned (.bool (pathL xp)) ∧ Upd (fun _ => False) w w') := Lib.hid (fun w => r11Path_any xp w)
      cases hP : pathL xp with
      | false =>
        rw [hP] at HRI
        have HCF := HCB
        have HBT := Lib.hid (show badR l j = true from by rw [HBAD.out, hP]; rfl)
        go_upto_region 6 with (fail)
        refine wp_region_plan_last [([0, 1, 2, 3, 4], 5)] [6, 7, 8, 9, 10, 11, 12, 13, 14, 15, 16, 17, 18, 19, 20, 21, 22, 23, 24, 25, 26, 27, 28, 29, 30, 31, 32, 33] (fun w' => w'.cell? ⟨b, o + j * 3, none⟩ = some (.string (str xp)) ∧ w'.cell? ⟨b, o + j * 3 + 2, none⟩ = some (.string (str xt))) (by kernel_rfl) (by kernel_rfl) (HCF.out _ (HU.out.trans (Upd.drew _ _))) ?_
        iterate 5
          first
          | (refine plan_skip rfl rfl ?_)
          | (refine plan_take (v := ?_) rfl rfl (fun w' hS => ?_) ?_
             rotate_left
             · skip
               go_simp; try with_reducible rfl)
          simp only [Act.put, List.getElem_toArray, List.getElem_cons_zero, List.getElem_cons_succ, List.setIfInBounds_toArray, List.set_cons_zero, List.set_cons_succ]
        refine plan_act rfl (fun KK hKK => ?_)
        go_wp2_with fail
        refine (HRI.out _).mono ?_
        rintro e w2 ⟨rfl, hU2⟩
        have HU3 := Lib.hid ((HU.out.trans (Upd.drew (fun _ => False) wr)).trans hU2)
        clear hU2
        go_wp2_with fail
        refine hKK.out _ _ (.inr (HCF.out _ HU3.out)) ?_
        iterate 28
          first
          | (refine plan_lskip rfl rfl ?_)
          | (refine plan_last (v := ?_) rfl rfl (fun w' hS => ?_) ?_
             rotate_left
             · skip
               go_simp; try with_reducible rfl)
          simp only [Act.put, List.getElem_toArray, List.getElem_cons_zero, List.getElem_cons_succ, List.setIfInBounds_toArray, List.set_cons_zero, List.set_cons_succ]
        refine plan_end ?_
        have HR := HALL.out HBT.out
        go_wp2_with fail
        go_ret
        exact ⟨by rw [hT.out, HR.out]; rfl, HU3.out⟩
      | true =>
        rw [hP] at HRI
        have hBAD := HBAD.out
        rw [hP, Bool.not_true, Bool.false_or] at hBAD
        have HB1 := Lib.hid hBAD
        have hxp := pathL_len xp hP
        clear hBAD HBAD
        by_cases ht : 20000 < xt.length
        · have hI2 : (20000 : Int) < (xt.length : Int) := by omega
          have HCF := HCB
          have HBT := Lib.hid (show badR l j = true from by rw [HB1.out, decide_eq_true ht]; rfl)
          clear ht
          go_upto_region 6 with (fail)
          refine wp_region_plan_last [([0, 1, 2, 3, 4], 5)] [6, 7, 8, 9, 10, 11, 12, 13, 14, 15, 16, 17, 18, 19, 20, 21, 22, 23, 24, 25, 26, 27, 28, 29, 30, 31, 32, 33] (fun w' => w'.cell? ⟨b, o + j * 3, none⟩ = some (.string (str xp)) ∧ w'.cell? ⟨b, o + j * 3 + 2, none⟩ = some (.string (str xt))) (by kernel_rfl) (by kernel_rfl) (HCF.out _ (HU.out.trans (Upd.drew _ _))) ?_
          iterate 5
            first
            | (refine plan_skip rfl rfl ?_)
            | (refine plan_take (v := ?_) rfl rfl (fun w' hS => ?_) ?_
               rotate_left
               · skip
                 go_simp; try with_reducible rfl)
            simp only [Act.put, List.getElem_toArray, List.getElem_cons_zero, List.getElem_cons_succ, List.setIfInBounds_toArray, List.set_cons_zero, List.set_cons_succ]
          refine plan_act rfl (fun KK hKK => ?_)
          go_wp2_with fail
          refine (HRI.out _).mono ?_
          rintro e w2 ⟨rfl, hU2⟩
          have HU3 := Lib.hid ((HU.out.trans (Upd.drew (fun _ => False) wr)).trans hU2)
          clear hU2
          go_wp2_with fail
          refine hKK.out _ _ (.inr (HCF.out _ HU3.out)) ?_
          iterate 28
            first
            | (refine plan_lskip rfl rfl ?_)
            | (refine plan_last (v := ?_) rfl rfl (fun w' hS => ?_) ?_
               rotate_left
               · skip
                 go_simp; try with_reducible rfl)
            simp only [Act.put, List.getElem_toArray, List.getElem_cons_zero, List.getElem_cons_succ, List.setIfInBounds_toArray, List.set_cons_zero, List.set_cons_succ]
          refine plan_end ?_
          have HR := HALL.out HBT.out
          go_wp2_with fail
          go_ret
          exact ⟨by rw [hT.out, HR.out]; rfl, HU3.out⟩
        · have hI2 : decide ((20000 : Int) < (xt.length : Int)) = false := by rw [decide_eq_false_iff_not]; omega
          have hBAD := HB1.out
          rw [decide_eq_false ht, Bool.false_or] at hBAD
          have HB1' := Lib.hid hBAD
          clear ht hBAD HB1
          by_cases h0 : 0 < j
          · have hpv := HPR.out h0
            rw [decide_eq_true h0, Bool.true_and] at HB1'
            generalize (l[j - 1]?.map (·.path)).getD [] = pr at *
            have hj1 : (j : Int) - 1 = ((j - 1 : Nat) : Int) := by omega
            have hj2 : j - 1 < l.length := by omega
            generalize j - 1 = m at hpv hj1 hj2
            have hwj : IntKind.i64.wrap (m : Int) = (m : Int) := IntWalk.i64_in _ (by omega)
            have hj3 : (m : Int) < (l.length : Int) := by omega
            have hI0 : (0 : Int) < (j : Int) := by omega
            have HLQ : Hid ((Op.bytesLess xp pr || xp == pr) = leS xp pr) := Lib.hid rfl
            have HCF : Hid (∀ w', Upd (fun _ => False) w w' → w'.cell? ⟨b, o + j * 3, none⟩ = some (.string (str xp)) ∧ w'.cell? ⟨b, o + j * 3 + 2, none⟩ = some (.string (str xt)) ∧ w'.cell? ⟨b, o + m * 3, none⟩ = some (.string (str pr))) := Lib.hid (fun w' h => ⟨(HCB.out w' h).1, (HCB.out w' h).2, hpv w' h⟩)
            clear hpv
            generalize leS xp pr = le at *
            cases le with
            | true =>
              have HBT := Lib.hid (show badR l j = true from by rw [HB1'.out]; rfl)
              go_upto_region 6 with (fail)
              refine wp_region_plan_last [([0, 1, 2, 3, 4], 5)] [6, 7, 8, 9, 10, 11, 12, 13, 14, 15, 16, 17, 18, 19, 20, 21, 22, 23, 24, 25, 26, 27, 28, 29, 30, 31, 32, 33] (fun w' => w'.cell? ⟨b, o + j * 3, none⟩ = some (.string (str xp)) ∧ w'.cell? ⟨b, o + j * 3 + 2, none⟩ = some (.string (str xt)) ∧ w'.cell? ⟨b, o + m * 3, none⟩ = some (.string (str pr))) (by kernel_rfl) (by kernel_rfl) (HCF.out _ (HU.out.trans (Upd.drew _ _))) ?_
              iterate 5
                first
                | (refine plan_skip rfl rfl ?_)
                | (refine plan_take (v := ?_) rfl rfl (fun w' hS => ?_) ?_
                   rotate_left
                   · skip
                     go_simp; try with_reducible rfl)
                simp only [Act.put, List.getElem_toArray, List.getElem_cons_zero, List.getElem_cons_succ, List.setIfInBounds_toArray, List.set_cons_zero, List.set_cons_succ]
              refine plan_act rfl (fun KK hKK => ?_)
              go_wp2_with fail
              refine (HRI.out _).mono ?_
              rintro e w2 ⟨rfl, hU2⟩
              have HU3 := Lib.hid ((HU.out.trans (Upd.drew (fun _ => False) wr)).trans hU2)
              clear hU2
              go_wp2_with fail
              refine hKK.out _ _ (.inr (HCF.out _ HU3.out)) ?_
              iterate 28
                first
                | (refine plan_lskip rfl rfl ?_)
                | (refine plan_last (v := ?_) rfl rfl (fun w' hS => ?_) ?_
                   rotate_left
                   · skip
                     go_simp; try with_reducible rfl)
                simp only [HLQ.out, Act.put, List.getElem_toArray, List.getElem_cons_zero, List.getElem_cons_succ, List.setIfInBounds_toArray, List.set_cons_zero, List.set_cons_succ]
              refine plan_end ?_
              have HR := HALL.out HBT.out
              go_wp2_with fail
              go_ret
              exact ⟨by rw [hT.out, HR.out]; rfl, HU3.out⟩
            | false =>
              have HB2 : Hid (badR l j = (l.take j).any (fun y => clashL y.path xp)) := Lib.hid (by rw [HB1'.out, Bool.false_or])
              go_upto_region 6 with (fail)
              refine wp_region_plan_last [([0, 1, 2, 3, 4], 5)] [6, 7, 8, 9, 10, 11, 12, 13, 14, 15, 16, 17, 18, 19, 20, 21, 22, 23, 24, 25, 26, 27, 28, 29, 30, 31, 32, 33] (fun w' => w'.cell? ⟨b, o + j * 3, none⟩ = some (.string (str xp)) ∧ w'.cell? ⟨b, o + j * 3 + 2, none⟩ = some (.string (str xt)) ∧ w'.cell? ⟨b, o + m * 3, none⟩ = some (.string (str pr))) (by kernel_rfl) (by kernel_rfl) (HCF.out _ (HU.out.trans (Upd.drew _ _))) ?_
              iterate 5
                first
                | (refine plan_skip rfl rfl ?_)
                | (refine plan_take (v := ?_) rfl rfl (fun w' hS => ?_) ?_
                   rotate_left
                   · skip
                     go_simp; try with_reducible rfl)
                simp only [Act.put, List.getElem_toArray, List.getElem_cons_zero, List.getElem_cons_succ, List.setIfInBounds_toArray, List.set_cons_zero, List.set_cons_succ]
              refine plan_act rfl (fun KK hKK => ?_)
              go_wp2_with fail
              refine (HRI.out _).mono ?_
              rintro e w2 ⟨rfl, hU2⟩
              have HU3 := Lib.hid ((HU.out.trans (Upd.drew (fun _ => False) wr)).trans hU2)
              clear hU2
              go_wp2_with fail
              refine hKK.out _ _ (.inr (HCF.out _ HU3.out)) ?_
              iterate 28
                first
                | (refine plan_lskip rfl rfl ?_)
                | (refine plan_last (v := ?_) rfl rfl (fun w' hS => ?_) ?_
                   rotate_left
                   · skip
                     go_simp; try with_reducible rfl)
                simp only [HLQ.out, Act.put, List.getElem_toArray, List.getElem_cons_zero, List.getElem_cons_succ, List.setIfInBounds_toArray, List.set_cons_zero, List.set_cons_succ]
              refine plan_end ?_
              go_wp2_with fail
              go_loopw [4] (fun i wk => ∃ t : Nat, t ≤ j ∧ i = .int .i64 (t : Int) ∧ Hid ((l.take t).any (fun y => clashL y.path xp) = false) ∧ Hid (Upd (fun _ => False) w wk)) (fun i _ => j - (intOf i).toNat)
              case atStart => exact ⟨0, Nat.zero_le _, rfl, Lib.hid rfl, HU3⟩
              case round =>
                obtain ⟨t, ht, rfl, HT, HUK⟩ := hrel
                by_cases htj : t < j
                · have hI5 : (t : Int) < (j : Int) := by omega
                  have htl : t < l.length := by omega
                  have hct : Hid (∀ w', Upd (fun _ => False) w w' → w'.cell? ⟨b, o + t * 3, none⟩ = some (.string (str l[t].path))) := Lib.hid (fun w' h => HCELL.out w' h t htl)
                  have hyl := HSH.out l[t] (by rw [List.mem_take_iff_getElem]; exact ⟨t, by omega, rfl⟩)
                  have hsn := any_take_succ (fun y : Fl => clashL y.path xp) l t htl
                  rw [HT.out, Bool.false_or] at hsn
                  have hin : clashL l[t].path xp = true → Hid ((l.take j).any (fun y => clashL y.path xp) = true) := fun h => Lib.hid (by
                    rw [List.any_eq_true]
                    exact ⟨l[t], by rw [List.mem_take_iff_getElem]; exact ⟨t, by omega, rfl⟩, h⟩)
                  have HSN := Lib.hid hsn
                  have HIN := Lib.hid hin
                  clear hsn hin
                  generalize l[t] = y at *
                  obtain ⟨yp, ye, yt⟩ := y
                  dsimp only at *
                  have hcl : Hid (∀ w, Calls Tryz.prog 128 #[.string (str yp), .string (str xp)] w fun e w' => e = .returned (.bool (clashL yp xp)) ∧ w = w') := Lib.hid (fun w => r11Clash_any yp xp w (by omega) (by omega))
                  generalize clashL yp xp = cc at *
                  have htI : (t : Int) < (l.length : Int) := by omega
                  go_upto_region 11 with (fail)
                  refine wp_region_plan_last [([0, 1, 2, 3, 4, 5, 6, 7, 8, 9], 10)] [] (fun w' => w'.cell? ⟨b, o + t * 3, none⟩ = some (.string (str yp)) ∧ w'.cell? ⟨b, o + j * 3, none⟩ = some (.string (str xp))) (by kernel_rfl) (by kernel_rfl) ⟨hct.out _ (HUK.out.trans (Upd.drew _ _)), (HCB.out _ (HUK.out.trans (Upd.drew _ _))).1⟩ ?_
                  iterate 10
                    first
                    | (refine plan_skip rfl rfl ?_)
                    | (refine plan_take (v := ?_) rfl rfl (fun w' hS => ?_) ?_
                       rotate_left
                       · skip
                         go_simp; try with_reducible rfl)
                    simp only [Act.put, List.getElem_toArray, List.getElem_cons_zero, List.getElem_cons_succ, List.setIfInBounds_toArray, List.set_cons_zero, List.set_cons_succ]
                  refine plan_act rfl (fun K5 hK5 => ?_)
                  go_wp2_with fail
                  refine (hcl.out _).mono ?_
                  rintro e w' ⟨rfl, rfl⟩
                  go_wp2_with fail
                  refine hK5.out _ _ (.inl rfl) (plan_end ?_)
                  have HUK2 := Lib.hid (HUK.out.trans (Upd.drew _ _))
                  clear HUK hK5
                  cases cc with
                  | true =>
                    have HR := HALL.out (by rw [HB2.out, (HIN.out rfl).out])
                    go_wp2_with fail
                    go_ret
                    exact ⟨by rw [hT.out, HR.out]; rfl, HUK2.out⟩
                  | false =>
                    go_wp2_with fail
                    go_roundw
                    case rel => exact ⟨t + 1, by omega, by first | rfl | go_num, HSN, HUK2⟩
                    case measure => simp [intOf]; omega
                · obtain rfl : t = j := by omega
                  have hI5 : decide ((t : Int) < (t : Int)) = false := by simp
                  have HB3 : Hid (badR l t = false) := Lib.hid (by rw [HB2.out]; exact HT.out)
                  clear htj
                  go_wp2_with fail
                  go_roundw
                  case rel => exact ⟨t + 1, by omega, by first | rfl | go_num, Lib.hid (by rw [HS.out, HB3.out]), HUK⟩
                  case measure => simp [intOf]; omega
          · have hI0 : decide ((0 : Int) < (j : Int)) = false := by rw [decide_eq_false_iff_not]; omega
            have HB2 : Hid (badR l j = (l.take j).any (fun y => clashL y.path xp)) := Lib.hid (by rw [HB1'.out, decide_eq_false h0]; rfl)
            have HCF := HCB
            go_upto_region 6 with (fail)
            refine wp_region_plan_last [([0, 1, 2, 3, 4], 5)] [6, 7, 8, 9, 10, 11, 12, 13, 14, 15, 16, 17, 18, 19, 20, 21, 22, 23, 24, 25, 26, 27, 28, 29, 30, 31, 32, 33] (fun w' => w'.cell? ⟨b, o + j * 3, none⟩ = some (.string (str xp)) ∧ w'.cell? ⟨b, o + j * 3 + 2, none⟩ = some (.string (str xt))) (by kernel_rfl) (by kernel_rfl) (HCF.out _ (HU.out.trans (Upd.drew _ _))) ?_
            iterate 5
              first
              | (refine plan_skip rfl rfl ?_)
              | (refine plan_take (v := ?_) rfl rfl (fun w' hS => ?_) ?_
                 rotate_left
                 · skip
                   go_simp; try with_reducible rfl)
              simp only [Act.put, List.getElem_toArray, List.getElem_cons_zero, List.getElem_cons_succ, List.setIfInBounds_toArray, List.set_cons_zero, List.set_cons_succ]
            refine plan_act rfl (fun KK hKK => ?_)
            go_wp2_with fail
            refine (HRI.out _).mono ?_
            rintro e w2 ⟨rfl, hU2⟩
            have HU3 := Lib.hid ((HU.out.trans (Upd.drew (fun _ => False) wr)).trans hU2)
            clear hU2
            go_wp2_with fail
            refine hKK.out _ _ (.inr (HCF.out _ HU3.out)) ?_
            iterate 28
              first
              | (refine plan_lskip rfl rfl ?_)
              | (refine plan_last (v := ?_) rfl rfl (fun w' hS => ?_) ?_
                 rotate_left
                 · skip
                   go_simp; try with_reducible rfl)
              simp only [Act.put, List.getElem_toArray, List.getElem_cons_zero, List.getElem_cons_succ, List.setIfInBounds_toArray, List.set_cons_zero, List.set_cons_succ]
            refine plan_end ?_
            go_wp2_with fail
            go_loopw [4] (fun i wk => ∃ t : Nat, t ≤ j ∧ i = .int .i64 (t : Int) ∧ Hid ((l.take t).any (fun y => clashL y.path xp) = false) ∧ Hid (Upd (fun _ => False) w wk)) (fun i _ => j - (intOf i).toNat)
            case atStart => exact ⟨0, Nat.zero_le _, rfl, Lib.hid rfl, HU3⟩
            case round =>
              obtain ⟨t, ht, rfl, HT, HUK⟩ := hrel
              by_cases htj : t < j
              · have hI5 : (t : Int) < (j : Int) := by omega
                have htl : t < l.length := by omega
                have hct : Hid (∀ w', Upd (fun _ => False) w w' → w'.cell? ⟨b, o + t * 3, none⟩ = some (.string (str l[t].path))) := Lib.hid (fun w' h => HCELL.out w' h t htl)
                have hyl := HSH.out l[t] (by rw [List.mem_take_iff_getElem]; exact ⟨t, by omega, rfl⟩)
                have hsn := any_take_succ (fun y : Fl => clashL y.path xp) l t htl
                rw [HT.out, Bool.false_or] at hsn
                have hin : clashL l[t].path xp = true → Hid ((l.take j).any (fun y => clashL y.path xp) = true) := fun h => Lib.hid (by
                  rw [List.any_eq_true]
                  exact ⟨l[t], by rw [List.mem_take_iff_getElem]; exact ⟨t, by omega, rfl⟩, h⟩)
                have HSN := Lib.hid hsn
                have HIN := Lib.hid hin
                clear hsn hin
                generalize l[t] = y at *
                obtain ⟨yp, ye, yt⟩ := y
                dsimp only at *
                have hcl : Hid (∀ w, Calls Tryz.prog 128 #[.string (str yp), .string (str xp)] w fun e w' => e = .returned (.bool (clashL yp xp)) ∧ w = w') := Lib.hid (fun w => r11Clash_any yp xp w (by omega) (by omega))
                generalize clashL yp xp = cc at *
                have htI : (t : Int) < (l.length : Int) := by omega
                go_upto_region 11 with (fail)
                refine wp_region_plan_last [([0, 1, 2, 3, 4, 5, 6, 7, 8, 9], 10)] [] (fun w' => w'.cell? ⟨b, o + t * 3, none⟩ = some (.string (str yp)) ∧ w'.cell? ⟨b, o + j * 3, none⟩ = some (.string (str xp))) (by kernel_rfl) (by kernel_rfl) ⟨hct.out _ (HUK.out.trans (Upd.drew _ _)), (HCB.out _ (HUK.out.trans (Upd.drew _ _))).1⟩ ?_
                iterate 10
                  first
                  | (refine plan_skip rfl rfl ?_)
                  | (refine plan_take (v := ?_) rfl rfl (fun w' hS => ?_) ?_
                     rotate_left
                     · skip
                       go_simp; try with_reducible rfl)
                  simp only [Act.put, List.getElem_toArray, List.getElem_cons_zero, List.getElem_cons_succ, List.setIfInBounds_toArray, List.set_cons_zero, List.set_cons_succ]
                refine plan_act rfl (fun K5 hK5 => ?_)
                go_wp2_with fail
                refine (hcl.out _).mono ?_
                rintro e w' ⟨rfl, rfl⟩
                go_wp2_with fail
                refine hK5.out _ _ (.inl rfl) (plan_end ?_)
                have HUK2 := Lib.hid (HUK.out.trans (Upd.drew _ _))
                clear HUK hK5
                cases cc with
                | true =>
                  have HR := HALL.out (by rw [HB2.out, (HIN.out rfl).out])
                  go_wp2_with fail
                  go_ret
                  exact ⟨by rw [hT.out, HR.out]; rfl, HUK2.out⟩
                | false =>
                  go_wp2_with fail
                  go_roundw
                  case rel => exact ⟨t + 1, by omega, by first | rfl | go_num, HSN, HUK2⟩
                  case measure => simp [intOf]; omega
              · obtain rfl : t = j := by omega
                have hI5 : decide ((t : Int) < (t : Int)) = false := by simp
                have HB3 : Hid (badR l t = false) := Lib.hid (by rw [HB2.out]; exact HT.out)
                clear htj
                go_wp2_with fail
                go_roundw
                case rel => exact ⟨t + 1, by omega, by first | rfl | go_num, Lib.hid (by rw [HS.out, HB3.out]), HUK⟩
                case measure => simp [intOf]; omega
    · obtain rfl : j = l.length := by omega
      have hI : ¬ (l.length : Int) < (l.length : Int) := by omega
      have HR := Lib.hid hA.out
      clear hlt
      go_wp2_with fail
      go_ret
      exact ⟨by rw [hT.out, HR.out]; rfl, HU.out⟩
end Go.Proofs.YtccejkikphpnfaaGreatDoor

namespace Go.Proofs.YtccejkikphpnfaaGreatDoor
set_option linter.unusedSimpArgs false
set_option linter.unusedVariables false
open Go.ChangeShapes Go.WideShapes Go.ChangeAt Go.RowKit

def joinS : List (List UInt8) → List UInt8
  | [] => []
  | x :: xs => 47 :: (x ++ joinS xs)
theorem joinS_app (a b : List (List UInt8)) : joinS (a ++ b) = joinS a ++ joinS b := by
  induction a with
  | nil => rfl
  | cons x a ih => simp [joinS, ih]
theorem partsL_join (p : List UInt8) : ∀ s r, partsL p = s :: r → p = s ++ joinS r := by
  induction p with
  | nil =>
    intro s r h
    simp [partsL] at h
    obtain ⟨rfl, rfl⟩ := h
    rfl
  | cons b p ih =>
    intro s r h
    unfold partsL at h
    split at h
    · rename_i hb
      cases h
      have hb' : b = 47 := by simpa using hb
      cases hp : partsL p with
      | nil => exact absurd hp (partsL_ne p)
      | cons x xs => rw [List.nil_append, joinS, ← ih x xs hp, hb']
    · cases hp : partsL p with
      | nil => exact absurd hp (partsL_ne p)
      | cons x xs =>
        rw [hp] at h
        dsimp only at h
        cases h
        rw [List.cons_append, ← ih x r hp]
theorem partsL_slash (q t : List UInt8) : partsL (q ++ 47 :: t) = partsL q ++ partsL t := by
  induction q with
  | nil => simp [partsL]
  | cons b q ih =>
    have e : ∀ s, partsL (b :: s) = if b == 47 then [] :: partsL s else match partsL s with
      | [] => [[b]]
      | p :: ps => (b :: p) :: ps := fun s => rfl
    rw [List.cons_append, e, e, ih]
    split
    · rfl
    · cases hp : partsL q with
      | nil => exact absurd hp (partsL_ne q)
      | cons x xs => rfl
theorem wiR_iff (S : List (List UInt8)) : ∀ (r : List (List UInt8)) (q : List UInt8), wiR S q r = true ↔ ∃ i, i < r.length ∧ (q ++ joinS (r.take i)) ∈ S
  | [], q => by simp [wiR]
  | s :: r, q => by
    rw [wiR, Bool.or_eq_true, wiR_iff S r]
    constructor
    · rintro (h | ⟨i, hi, h⟩)
      · exact ⟨0, by simp, by simpa [joinS] using h⟩
      · refine ⟨i + 1, by simpa using hi, ?_⟩
        simpa [joinS] using h
    · rintro ⟨i, hi, h⟩
      cases i with
      | zero => left; simpa [joinS] using h
      | succ i => right; exact ⟨i, by simpa using hi, by simpa [joinS] using h⟩
theorem withinL_iff (p q : List UInt8) : withinL p q = true ↔ ∃ t, p = q ++ 47 :: t := by
  unfold withinL hpL
  rw [Bool.and_eq_true, decide_eq_true_eq, beq_iff_eq]
  constructor
  · rintro ⟨h1, h2⟩
    refine ⟨p.drop (q ++ [47]).length, ?_⟩
    have := List.take_append_drop (q ++ [47]).length p
    rw [h2] at this
    rw [← this]; simp
  · rintro ⟨t, rfl⟩
    refine ⟨by simp, ?_⟩
    rw [show q ++ 47 :: t = (q ++ [47]) ++ t from by simp]
    exact List.take_left
theorem waySet_iff (S : List (List UInt8)) (p : List UInt8) : waySet S p = true ↔ ∃ q ∈ S, withinL p q = true := by
  cases hp : partsL p with
  | nil => exact absurd hp (partsL_ne p)
  | cons s r =>
    have hj := partsL_join p s r hp
    unfold waySet
    rw [hp]
    dsimp only
    rw [wiR_iff]
    constructor
    · rintro ⟨i, hi, h⟩
      refine ⟨_, h, (withinL_iff _ _).2 ?_⟩
      cases hd : r.drop i with
      | nil => have := congrArg List.length hd; simp at this; omega
      | cons x xs =>
        refine ⟨x ++ joinS xs, ?_⟩
        rw [hj]
        conv => lhs; rw [← List.take_append_drop i r, joinS_app, hd]
        simp [joinS]
    · rintro ⟨q, hq, h⟩
      obtain ⟨t, rfl⟩ := (withinL_iff _ _).1 h
      rw [partsL_slash] at hp
      cases hpq : partsL q with
      | nil => exact absurd hpq (partsL_ne q)
      | cons s' r' =>
        rw [hpq, List.cons_append] at hp
        cases hp
        refine ⟨r'.length, ?_, ?_⟩
        · rw [List.length_append]
          have := List.length_pos_iff.2 (partsL_ne t)
          omega
        · rw [List.take_left, ← partsL_join q _ _ hpq]
          exact hq
theorem less_eq : ∀ (x y : List UInt8), Op.bytesLess x y = decide (x < y)
  | [], [] => by simp [Op.bytesLess]
  | _ :: _, [] => by simp [Op.bytesLess]
  | [], _ :: _ => by simp [Op.bytesLess]
  | a :: x, b :: y => by
    rw [Op.bytesLess, less_eq x y]
    by_cases h1 : a < b <;> by_cases h2 : a = b <;> by_cases h3 : x < y <;> simp [List.cons_lt_cons_iff, h1, h2, h3]
theorem less_trans {a b c : List UInt8} (h : a < b) (k : b < c) : a < c := List.lt_trans h k
theorem less_asymm {a b : List UInt8} (h : a < b) (k : b < a) : False := List.lt_irrefl a (List.lt_trans h k)
theorem leS_false {a b : List UInt8} (h : leS a b = false) : b < a := by
  unfold leS at h
  rw [Bool.or_eq_false_iff, less_eq, decide_eq_false_iff_not, beq_eq_false_iff_ne] at h
  have h1 : b ≤ a := List.not_lt.1 h.1
  by_cases h2 : b < a
  · exact h2
  · exact absurd (List.le_antisymm (List.not_lt.1 h2) h1) h.2
theorem within_less {p q : List UInt8} (h : withinL p q = true) : q < p := by
  obtain ⟨t, rfl⟩ := (withinL_iff _ _).1 h
  induction q with
  | nil => exact List.Lex.nil
  | cons x q ih => exact List.Lex.cons (ih ((withinL_iff _ _).2 ⟨t, rfl⟩))
/-- What both ask of a file by itself. -/
def baseB (l : List Fl) (i : Nat) : Bool :=
  match l[i]? with
  | none => false
  | some x => !pathL x.path || (decide (20000 < x.text.length) || (decide (0 < i) && leS x.path ((l[i - 1]?.map (·.path)).getD [])))
theorem badT_eq (S : List (List UInt8)) (l : List Fl) (i : Nat) (hi : i < l.length) : badT S l i = (baseB l i || waySet S l[i].path) := by
  unfold badT baseB
  rw [List.getElem?_eq_getElem hi]
  simp only [Bool.or_assoc]
theorem badR_eq (l : List Fl) (i : Nat) (hi : i < l.length) : badR l i = (baseB l i || (l.take i).any (fun y => clashL y.path l[i].path)) := by
  unfold badR baseB
  rw [List.getElem?_eq_getElem hi]
  simp only [Bool.or_assoc]
theorem base_next (l : List Fl) (i : Nat) (hi : i + 1 < l.length) (h : baseB l (i + 1) = false) : l[i].path < l[i + 1].path := by
  unfold baseB at h
  rw [List.getElem?_eq_getElem hi] at h
  dsimp only at h
  rw [Bool.or_eq_false_iff, Bool.or_eq_false_iff] at h
  have h2 := h.2.2
  rw [show i + 1 - 1 = i from rfl, List.getElem?_eq_getElem (show i < l.length by omega)] at h2
  simp at h2
  exact leS_false h2
theorem base_less (l : List Fl) (h : ∀ i, i < l.length → baseB l i = false) (k : Nat) : ∀ d (hd : k + d + 1 < l.length), (l[k]'(by omega)).path < (l[k + d + 1]'hd).path
  | 0, hd => base_next l k hd (h (k + 1) hd)
  | d + 1, hd => less_trans (base_less l h k d (by omega)) (base_next l (k + d + 1) hd (h _ hd))
theorem base_lt (l : List Fl) (h : ∀ i, i < l.length → baseB l i = false) {k i : Nat} (hk : k < i) (hi : i < l.length) : (l[k]'(by omega)).path < (l[i]'hi).path := by
  have := base_less l h k (i - k - 1) (by omega)
  simpa [show k + (i - k - 1) + 1 = i from by omega] using this
theorem right_eq (l : List Fl) : rightT l = rightR l := by
  unfold rightT rightR
  congr 2
  by_cases hb : ∃ i, i < l.length ∧ baseB l i = true
  · obtain ⟨i, hi, hbi⟩ := hb
    have h1 : (List.range l.length).any (badT (l.map Fl.path).reverse l) = true := by
      rw [List.any_eq_true]; exact ⟨i, List.mem_range.2 hi, by rw [badT_eq _ l i hi, hbi]; rfl⟩
    have h2 : (List.range l.length).any (badR l) = true := by
      rw [List.any_eq_true]; exact ⟨i, List.mem_range.2 hi, by rw [badR_eq l i hi, hbi]; rfl⟩
    rw [h1, h2]
  · have hall : ∀ i, i < l.length → baseB l i = false := fun i hi => by
      cases h : baseB l i
      · rfl
      · exact absurd ⟨i, hi, h⟩ hb
    rw [Bool.eq_iff_iff, List.any_eq_true, List.any_eq_true]
    constructor
    · rintro ⟨i, hi, h⟩
      rw [List.mem_range] at hi
      rw [badT_eq _ l i hi, hall i hi, Bool.false_or, waySet_iff] at h
      obtain ⟨q, hq, hw⟩ := h
      rw [List.mem_reverse, List.mem_map] at hq
      obtain ⟨x, hx, rfl⟩ := hq
      obtain ⟨k, hk, rfl⟩ := List.getElem_of_mem hx
      have hls := within_less hw
      have hki : k < i := by
        rcases Nat.lt_trichotomy k i with h1 | h1 | h1
        · exact h1
        · subst h1; exact absurd hls (List.lt_irrefl _)
        · exact (less_asymm hls (base_lt l hall h1 hk)).elim
      refine ⟨i, List.mem_range.2 hi, ?_⟩
      rw [badR_eq l i hi, hall i hi, Bool.false_or, List.any_eq_true]
      refine ⟨l[k], by rw [List.mem_take_iff_getElem]; exact ⟨k, by omega, rfl⟩, ?_⟩
      unfold clashL
      rw [hw]; simp
    · rintro ⟨i, hi, h⟩
      rw [List.mem_range] at hi
      rw [badR_eq l i hi, hall i hi, Bool.false_or, List.any_eq_true] at h
      obtain ⟨y, hy, hc⟩ := h
      rw [List.mem_take_iff_getElem] at hy
      obtain ⟨k, hk, rfl⟩ := hy
      have hki : k < i := by omega
      have hls := base_lt l hall hki hi
      refine ⟨i, List.mem_range.2 hi, ?_⟩
      rw [badT_eq _ l i hi, hall i hi, Bool.false_or, waySet_iff]
      refine ⟨(l[k]'(by omega)).path, by rw [List.mem_reverse, List.mem_map]; exact ⟨_, List.getElem_mem _, rfl⟩, ?_⟩
      unfold clashL at hc
      rw [Bool.or_eq_true, Bool.or_eq_true] at hc
      rcases hc with (hc | hc) | hc
      · rw [beq_iff_eq] at hc
        rw [hc] at hls
        exact absurd hls (List.lt_irrefl _)
      · exact (less_asymm hls (within_less hc)).elim
      · exact hc
end Go.Proofs.YtccejkikphpnfaaGreatDoor

namespace Go.Proofs.YtccejkikphpnfaaGreatDoor
set_option linter.unusedSimpArgs false
set_option linter.unusedVariables false
set_option maxRecDepth 100000
open Go.ChangeShapes Go.WideShapes Go.ChangeAt Go.RowKit

theorem rnumber_any (v : Int) (w : World) : Calls Tryz.prog 85 #[.int .i64 v] w fun e w' => e = .returned (.bool (numB v)) ∧ w = w' := by
  have hD : numB v = (decide (-1 ≤ v) && decide (v ≤ 1999)) := rfl
  have HD := Lib.hid hD
  clear hD
  by_cases h1 : -1 ≤ v
  · by_cases h2 : v < 2000
    · have HR : Hid (numB v = true) := Lib.hid (by rw [HD.out, decide_eq_true h1, decide_eq_true (show v ≤ 1999 by omega)]; rfl)
      have hI : decide (v < 2000) = true := decide_eq_true h2
      go_enter Tryz.func85, Tryz.ntmps85
      go_wp2
      go_ret
      exact ⟨by rw [HR.out]; rfl, rfl⟩
    · have HR : Hid (numB v = false) := Lib.hid (by rw [HD.out, decide_eq_false (show ¬ v ≤ 1999 by omega)]; simp)
      have hI : decide (v < 2000) = false := decide_eq_false h2
      go_enter Tryz.func85, Tryz.ntmps85
      go_wp2
      go_ret
      exact ⟨by rw [HR.out]; rfl, rfl⟩
  · have HR : Hid (numB v = false) := Lib.hid (by rw [HD.out, decide_eq_false h1]; rfl)
    have hI : decide (-1 ≤ v) = false := decide_eq_false h1
    go_enter Tryz.func85, Tryz.ntmps85
    go_wp2
    go_ret
    exact ⟨by rw [HR.out]; rfl, rfl⟩
end Go.Proofs.YtccejkikphpnfaaGreatDoor

namespace Go.Proofs.YtccejkikphpnfaaGreatDoor
set_option linter.unusedSimpArgs false
set_option linter.unusedVariables false
set_option maxRecDepth 100000
open Go.ChangeShapes Go.WideShapes Go.ChangeAt Go.RowKit

theorem rootB_bad (r : Rt) (h : r.p < -1 ∨ 2000 ≤ r.p ∨ 2000 < r.ks.length ∨ 2000 < r.ms.length ∨ 100 < r.ns.length ∨ numB r.k = false ∨ r.ms.any badM = true ∨ (List.range r.ns.length).any (badK r.ns) = true) : rootB r = false := by
  cases hb : rootB r with
  | false => rfl
  | true =>
    exfalso
    simp only [rootB, markersB, marksB, sortB, Bool.and_eq_true, decide_eq_true_eq, Bool.not_eq_true'] at hb
    obtain ⟨⟨h1, h2⟩, h3, ⟨h4, h5⟩, ⟨h6, h7⟩, h8⟩ := hb
    rcases h with h | h | h | h | h | h | h | h
    · omega
    · omega
    · omega
    · omega
    · omega
    · rw [h8] at h; cases h
    · rw [h5] at h; cases h
    · rw [h6] at h; cases h
theorem rootB_ok (r : Rt) (h1 : ¬ r.p < -1) (h2 : ¬ 2000 ≤ r.p) (h3 : ¬ 2000 < r.ks.length) (h4 : ¬ 2000 < r.ms.length) (h5 : ¬ 100 < r.ns.length) (h6 : numB r.k = true) (h7 : r.ms.any badM = false) (h8 : (List.range r.ns.length).any (badK r.ns) = false) : rootB r = true := by
  simp only [rootB, markersB, marksB, sortB, Bool.and_eq_true, decide_eq_true_eq, Bool.not_eq_true']
  refine ⟨⟨by omega, by omega⟩, by omega, ⟨by omega, h7⟩, ⟨h8, by omega⟩, h6⟩
set_option maxHeartbeats 32000000 in
theorem rootMay_any (r : Rt) (w : World) (h : RtIn w r) : Calls Tryz.prog 49 #[.agg (rtA r)] w fun e w' => e = .returned (.bool (rootB r)) ∧ Upd (fun _ => False) w w' := by
  have hU := Upd.alloc (fun _ => False) w (.cells (rtA r) 26)
  have hrow := heap_alloc_new w (.cells (rtA r) 26)
  have hb := rootB_bad r
  have hok := rootB_ok r
  generalize rootB r = R at *
  obtain ⟨p, ca, cc, ks, ma, mc, ms, na, nc, ns, k⟩ := r
  unfold rtA at *
  dsimp only at *
  have hcm := h.mv.cap
  have hlm := h.mv.le
  have hcn := h.nv.cap
  have hln := h.nv.le
  unfold maxLen at hcm hcn
  dsimp only at hcm hlm hcn hln
  have HI := Lib.hid h
  have HF1 : Hid (p < -1 ∨ 2000 ≤ p ∨ 2000 < ks.length ∨ 2000 < ms.length ∨ 100 < ns.length ∨ numB k = false → R = false) := Lib.hid (fun h => hb (by rcases h with h | h | h | h | h | h <;> simp [h]))
  have HF2 : Hid (ms.any badM = true → R = false) := Lib.hid (fun h => hb (.inr (.inr (.inr (.inr (.inr (.inr (.inl h))))))))
  have HF3 : Hid ((List.range ns.length).any (badK ns) = true → R = false) := Lib.hid (fun h => hb (.inr (.inr (.inr (.inr (.inr (.inr (.inr h))))))))
  have HOK := Lib.hid hok
  have HNK : Hid (∀ w', Calls Tryz.prog 85 #[.int .i64 k] w' fun e w2 => e = .returned (.bool (numB k)) ∧ w' = w2) := Lib.hid (fun w' => rnumber_any k w')
  have HU0 := Lib.hid hU
  have HR0 := Lib.hid hrow
  clear hU hrow hb hok h
  go_enter Tryz.func49, Tryz.ntmps49
  go_upto_region 1 with (fail)
  generalize w.alloc (.cells #[.int .i64 p, .slice ca ks.length cc, .slice ma ms.length mc, .slice na ns.length nc, .int .i64 k] 26) = y0 at *
  obtain ⟨RB, hRB⟩ : ∃ B, w.heap.size = B := ⟨_, rfl⟩
  rw [hRB] at HR0 ⊢
  have HZ := Lib.hid hRB
  clear hRB
  have HCC : Hid (∀ w', Upd (fun _ => False) y0 w' → w'.cell? ⟨RB, 0, none⟩ = some (.int .i64 p) ∧ w'.cell? ⟨RB, 1, none⟩ = some (.slice ca ks.length cc) ∧ w'.cell? ⟨RB, 2, none⟩ = some (.slice ma ms.length mc) ∧ w'.cell? ⟨RB, 3, none⟩ = some (.slice na ns.length nc) ∧ w'.cell? ⟨RB, 4, none⟩ = some (.int .i64 k)) := Lib.hid (fun w' h => row5 ((h.block RB (lt_of_heap HR0.out) (fun h => h)).trans HR0.out))
  obtain ⟨z0, z1, z2, z3, z4⟩ := HCC.out y0 (Upd.refl _ _)
  by_cases c1 : p < -1
  case pos =>
    have hI : decide (p < -1) = true := decide_eq_true c1
    have HR := Lib.hid (HF1.out (by exact .inl c1))
    go_wp2_with fail
    go_ret
    exact ⟨by rw [HR.out]; rfl, HU0.out⟩
  case neg =>
  have i1 : decide (p < -1) = false := decide_eq_false c1
  by_cases c2 : 2000 ≤ p
  case pos =>
    have hI : decide (2000 ≤ p) = true := decide_eq_true c2
    have HR := Lib.hid (HF1.out (by exact .inr (.inl c2)))
    go_wp2_with fail
    go_ret
    exact ⟨by rw [HR.out]; rfl, HU0.out⟩
  case neg =>
  have i2 : decide (2000 ≤ p) = false := decide_eq_false c2
  by_cases c3 : 2000 < ks.length
  case pos =>
    have hI : decide ((2000 : Int) < (ks.length : Int)) = true := by rw [decide_eq_true_iff]; omega
    have HR := Lib.hid (HF1.out (by exact .inr (.inr (.inl c3))))
    go_wp2_with fail
    go_ret
    exact ⟨by rw [HR.out]; rfl, HU0.out⟩
  case neg =>
  have i3 : decide ((2000 : Int) < (ks.length : Int)) = false := by rw [decide_eq_false_iff_not]; omega
  by_cases c4 : 2000 < ms.length
  case pos =>
    have hI : decide ((2000 : Int) < (ms.length : Int)) = true := by rw [decide_eq_true_iff]; omega
    have HR := Lib.hid (HF1.out (by exact .inr (.inr (.inr (.inl c4)))))
    go_wp2_with fail
    go_ret
    exact ⟨by rw [HR.out]; rfl, HU0.out⟩
  case neg =>
  have i4' : decide ((2000 : Int) < (ms.length : Int)) = false := by rw [decide_eq_false_iff_not]; omega
  by_cases c5 : 100 < ns.length
  case pos =>
    have hI : decide ((100 : Int) < (ns.length : Int)) = true := by rw [decide_eq_true_iff]; omega
    have HR := Lib.hid (HF1.out (by exact .inr (.inr (.inr (.inr (.inl c5))))))
    go_wp2_with fail
    go_ret
    exact ⟨by rw [HR.out]; rfl, HU0.out⟩
  case neg =>
  have i5 : decide ((100 : Int) < (ns.length : Int)) = false := by rw [decide_eq_false_iff_not]; omega
  have HOK2 : Hid (numB k = true → ms.any badM = false → (List.range ns.length).any (badK ns) = false → R = true) := Lib.hid (HOK.out c1 c2 c3 c4 c5)
  clear c1 c2 c3 c4 c5 HOK
  generalize hnk : numB k = bk at *
  clear hnk
  go_wp2_with fail
  refine (HNK.out _).mono ?_
  rintro e w' ⟨rfl, rfl⟩
  clear HNK
  cases bk with
  | false =>
    have HR := Lib.hid (HF1.out (.inr (.inr (.inr (.inr (.inr rfl))))))
    go_wp2_with fail
    go_ret
    exact ⟨by rw [HR.out]; rfl, HU0.out⟩
  | true =>
  go_wp2_with fail
  clear i1 i2 i3 i4' i5 z0 z1 z2 z3 z4
  go_loopw [3] (fun i wr => ∃ j : Nat, j ≤ ms.length ∧ i = .int .i64 (j : Int) ∧ Hid ((ms.take j).any badM = false) ∧ Hid (Upd (fun _ => False) y0 wr)) (fun i _ => ms.length - (intOf i).toNat)
  case atStart => exact ⟨0, Nat.zero_le _, rfl, (by show _ = _; simp), Lib.hid (Upd.refl _ _)⟩
  case round =>
    obtain ⟨j, hj, rfl, hA, HU⟩ := hrel
    obtain ⟨z0, z1, z2, z3, z4⟩ := HCC.out _ HU.out
    clear z0 z1 z3 z4
    by_cases hlt : j < ms.length
    · have hI : (j : Int) < (ms.length : Int) := by omega
      obtain ⟨b, o, hb, hcell⟩ := (HI.out.mv.upd (HU0.out.trans HU.out) (fun _ _ h => h)).at (show 0 < ms.length by omega) (by decide)
      dsimp only at hb
      subst hb
      have q0 : wr.cell? ⟨b, o + j * 2, none⟩ = some (.int .i64 ms[j].old) := hcell (j * 2 + 0) _ (mk_get ms j 0 hlt (by decide))
      have q1 : wr.cell? ⟨b, o + j * 2 + 1, none⟩ = some (.slice ms[j].a ms[j].new.length ms[j].c) := hcell (j * 2 + 1) _ (mk_get ms j 1 hlt (by decide))
      have hmx : ∀ w', Upd (fun _ => False) y0 w' → MkIn w' ms[j] := fun w' hu => (HI.out.me ms[j] (List.getElem_mem hlt)).upd (HU0.out.trans hu)
      have hs := any_take_succ badM ms j hlt
      rw [hA.out, Bool.false_or] at hs
      have hall := any_of_take badM ms (j + 1)
      rw [hs] at hall
      clear hcell
      generalize ms[j] = x at *
      have HS := Lib.hid hs
      have HALL := Lib.hid hall
      have HMX := Lib.hid hmx
      have HBD : Hid (badM x = (decide (x.old < 0) || (!numB x.old || !(decide (x.new.length ≤ 2000) && !x.new.any badN)))) := Lib.hid rfl
      have hcx := (hmx y0 (Upd.refl _ _)).cap
      have hlx := (hmx y0 (Upd.refl _ _)).le
      unfold maxLen at hcx
      clear hs hall hA hmx
      obtain ⟨xo, xn, xa, xc⟩ := x
      dsimp only at *
      have hUx := Upd.alloc (fun _ => False) wr (.cells #[.int .i64 xo, .slice xa xn.length xc] 77)
      have hrow := heap_alloc_new wr (.cells #[.int .i64 xo, .slice xa xn.length xc] 77)
      have HRX := Lib.hid hrow
      have HU1 := Lib.hid (HU.out.trans hUx)
      clear hUx hrow
      go_upto_region 7 with (fail)
      generalize wr.alloc (.cells #[.int .i64 xo, .slice xa xn.length xc] 77) = y1 at *
      obtain ⟨XB, hXB⟩ : ∃ B, wr.heap.size = B := ⟨_, rfl⟩
      rw [hXB] at HRX ⊢
      clear hXB q0 q1 z2 hI
      have hcx0 : y1.cell? ⟨XB, 0, none⟩ = some (.int .i64 xo) := by rw [cell_of_row _ _ _ _ _ _ HRX.out]; rfl
      have HCX : Hid (∀ w', Upd (fun _ => False) y1 w' → w'.cell? ⟨XB, 1, none⟩ = some (.slice xa xn.length xc)) := Lib.hid (fun w' h => by
        rw [cell_of_row _ _ _ _ _ _ ((h.block XB (lt_of_heap HRX.out) (fun h => h)).trans HRX.out)]; rfl)
      have hcx1 := HCX.out y1 (Upd.refl _ _)
      have hnum := rnumber_any xo y1
      generalize numB xo = bo at *
      cases bo with
      | false =>
        have HR := Lib.hid (HF2.out (HALL.out (by rw [HBD.out]; simp)))
        go_wp2_with fail
        refine hnum.mono ?_
        rintro e w' ⟨rfl, rfl⟩
        go_wp2_with fail
        go_ret
        exact ⟨by rw [HR.out]; rfl, HU0.out.trans HU1.out⟩
      | true =>
      by_cases ho : xo < 0
      case pos =>
        have HR := Lib.hid (HF2.out (HALL.out (by rw [HBD.out, decide_eq_true ho]; rfl)))
        have hI : decide (xo < 0) = true := decide_eq_true ho
        clear ho
        go_wp2_with fail
        refine hnum.mono ?_
        rintro e w' ⟨rfl, rfl⟩
        go_wp2_with fail
        go_ret
        exact ⟨by rw [HR.out]; rfl, HU0.out.trans HU1.out⟩
      case neg =>
      have i1 : decide (xo < 0) = false := decide_eq_false ho
      by_cases hl : 2000 < xn.length
      case pos =>
        have HR := Lib.hid (HF2.out (HALL.out (by rw [HBD.out, decide_eq_false (show ¬ xn.length ≤ 2000 by omega)]; simp)))
        have hI : decide ((2000 : Int) < (xn.length : Int)) = true := by rw [decide_eq_true_iff]; omega
        clear ho hl
        go_wp2_with fail
        refine hnum.mono ?_
        rintro e w' ⟨rfl, rfl⟩
        go_wp2_with fail
        go_ret
        exact ⟨by rw [HR.out]; rfl, HU0.out.trans HU1.out⟩
      case neg =>
      have hI : decide ((2000 : Int) < (xn.length : Int)) = false := by rw [decide_eq_false_iff_not]; omega
      have HBE : Hid (badM ⟨xo, xn, xa, xc⟩ = xn.any badN) := Lib.hid (by rw [HBD.out, i1, decide_eq_true (show xn.length ≤ 2000 by omega)]; simp)
      clear ho hl HBD
      go_wp2_with fail
      refine hnum.mono ?_
      rintro e w' ⟨rfl, rfl⟩
      clear hnum
      go_wp2_with fail
      clear i1 hI hcx0 hcx1
      go_loopw [5] (fun i wz => ∃ q : Nat, q ≤ xn.length ∧ i = .int .i64 (q : Int) ∧ Hid ((xn.take q).any badN = false) ∧ Hid (Upd (fun _ => False) y1 wz)) (fun i _ => xn.length - (intOf i).toNat)
      case atStart => exact ⟨0, Nat.zero_le _, rfl, (by show _ = _; simp), Lib.hid (Upd.refl _ _)⟩
      case round =>
        obtain ⟨q, hq, rfl, hA, HUz⟩ := hrel
        have hcx1 := HCX.out _ HUz.out
        by_cases hlt2 : q < xn.length
        · have hI : (q : Int) < (xn.length : Int) := by omega
          obtain ⟨b2, o2, hb2, hcell⟩ := (show Vw _ xa xn.length xc 1 (xn.map iv) from HMX.out _ (HU1.out.trans HUz.out)).at (by omega) (by decide)
          subst hb2
          have qv := hcell q _ (iv_at xn q hlt2)
          have hs := any_take_succ badN xn q hlt2
          rw [hA.out, Bool.false_or] at hs
          have hall := any_of_take badN xn (q + 1)
          rw [hs] at hall
          clear hcell
          generalize xn[q] = v at *
          have HSN := Lib.hid hs
          have HALN := Lib.hid hall
          have HBN : Hid (badN v = (decide (v < 0) || !numB v)) := Lib.hid rfl
          have hnum := fun w => rnumber_any v w
          generalize numB v = bv' at *
          clear hs hall hA
          cases bv' with
          | false =>
            have HR := Lib.hid (HF2.out (HALL.out (by rw [HBE.out]; exact HALN.out (by rw [HBN.out]; simp))))
            go_wp2_with fail
            refine (hnum _).mono ?_
            rintro e w' ⟨rfl, rfl⟩
            clear hnum
            go_wp2_with fail
            go_ret
            exact ⟨by rw [HR.out]; rfl, HU0.out.trans (HU1.out.trans HUz.out)⟩
          | true =>
          by_cases hv0 : v < 0
          case pos =>
            have HR := Lib.hid (HF2.out (HALL.out (by rw [HBE.out]; exact HALN.out (by rw [HBN.out, decide_eq_true hv0]; rfl))))
            have i1 : decide (v < 0) = true := decide_eq_true hv0
            clear hv0
            go_wp2_with fail
            refine (hnum _).mono ?_
            rintro e w' ⟨rfl, rfl⟩
            clear hnum
            go_wp2_with fail
            go_ret
            exact ⟨by rw [HR.out]; rfl, HU0.out.trans (HU1.out.trans HUz.out)⟩
          case neg =>
          have i1 : decide (v < 0) = false := decide_eq_false hv0
          have HNB : Hid (badN v = false) := Lib.hid (by rw [HBN.out, i1]; rfl)
          clear hv0
          go_wp2_with fail
          refine (hnum _).mono ?_
          rintro e w' ⟨rfl, rfl⟩
          clear hnum
          go_wp2_with fail
          go_roundw
          case rel => exact ⟨q + 1, by omega, by first | rfl | go_num, (by show _ = _; rw [HSN.out, HNB.out]), HUz⟩
          case measure => simp [intOf]; omega
        · obtain rfl : q = xn.length := by omega
          have hA2 := hA.out
          rw [List.take_length] at hA2
          have HNB : Hid (badM ⟨xo, xn, xa, xc⟩ = false) := Lib.hid (by rw [HBE.out, hA2])
          have hI : ¬ (xn.length : Int) < (xn.length : Int) := by omega
          clear hA hA2 hlt2 hq
          go_wp2_with fail
          go_roundw
          case rel => exact ⟨j + 1, by omega, by first | rfl | go_num, (by show _ = _; rw [HS.out, HNB.out]), Lib.hid (HU1.out.trans HUz.out)⟩
          case measure => simp [intOf]; omega
    · obtain rfl : j = ms.length := by omega
      have hA2 := hA.out
      rw [List.take_length] at hA2
      have HOK3 : Hid ((List.range ns.length).any (badK ns) = false → R = true) := Lib.hid (HOK2.out (by simp) hA2)
      have hI : ¬ (ms.length : Int) < (ms.length : Int) := by omega
      have HUM := HU
      clear hA hA2 hlt hj HOK2 HU
      go_wp2_with fail
      clear z2 hI
      go_loopw [6] (fun i wr => ∃ j : Nat, j ≤ ns.length ∧ i = .int .i64 (j : Int) ∧ Hid ((List.range j).any (badK ns) = false) ∧ Hid (Upd (fun _ => False) y0 wr)) (fun i _ => ns.length - (intOf i).toNat)
      case atStart => exact ⟨0, Nat.zero_le _, rfl, (by show _ = _; simp), HUM⟩
      case round =>
        clear HUM
        obtain ⟨j, hj, rfl, hA, HU⟩ := hrel
        obtain ⟨z0, z1, z2, z3, z4⟩ := HCC.out _ HU.out
        clear z0 z1 z2 z4
        by_cases hlt : j < ns.length
        · have hI : (j : Int) < (ns.length : Int) := by omega
          have hv := HI.out.nv.upd (HU0.out.trans HU.out) (fun _ _ h => h)
          obtain ⟨b, o, hb, hcell⟩ := hv.at (show 0 < ns.length by omega) (by decide)
          dsimp only at hb
          subst hb
          have q0 : wr.cell? ⟨b, o + j * 2, none⟩ = some (sv ns[j].name) := hcell (j * 2 + 0) _ (nm_get ns j 0 hlt (by decide))
          have q1 : wr.cell? ⟨b, o + j * 2 + 1, none⟩ = some (.int .i64 ns[j].com) := hcell (j * 2 + 1) _ (nm_get ns j 1 hlt (by decide))
          have hs := range_any_succ (badK ns) j
          rw [hA.out, Bool.false_or] at hs
          have hbad : badK ns j = (!lenB ns[j].name || (decide (ns[j].com < 0) || (!numB ns[j].com || (decide (0 < j) && leS ns[j].name ((ns[j - 1]?.map (·.name)).getD []))))) := by
            unfold badK; rw [List.getElem?_eq_getElem hlt]
          have hpr : ∀ (h1 : 0 < j), wr.cell? ⟨b, o + (j - 1) * 2, none⟩ = some (.string (str ((ns[j - 1]?.map (·.name)).getD []))) := fun h1 => by
            have e : (ns[j - 1]?.map (·.name)).getD [] = (ns[j - 1]'(by omega)).name := by rw [List.getElem?_eq_getElem (show j - 1 < ns.length by omega)]; rfl
            rw [e]
            exact hcell ((j - 1) * 2 + 0) _ (nm_get ns (j - 1) 0 (by omega) (by decide))
          have hall : badK ns j = true → Hid ((List.range ns.length).any (badK ns) = true) := fun h => Lib.hid (range_any_le (badK ns) (j + 1) ns.length (by omega) (by rw [hs, h]))
          have htl := HI.out.nl ns[j] (List.getElem_mem hlt)
          have HS := Lib.hid hs
          have HALL := Lib.hid hall
          have HBAD := Lib.hid hbad
          have HPR := Lib.hid hpr
          clear hcell hv hs hall hbad hpr hA
          generalize ns[j] = x at *
          obtain ⟨xn, xc⟩ := x
          dsimp only at *
          unfold sv at q0
          have hUx := Upd.alloc (fun _ => False) wr (.cells #[.string (str xn), .int .i64 xc] 92)
          have hrow := heap_alloc_new wr (.cells #[.string (str xn), .int .i64 xc] 92)
          have HRX := Lib.hid hrow
          have HUX := Lib.hid hUx
          have HUY := Lib.hid (HU.out.trans hUx)
          have HU := Lib.hid (HU0.out.trans HUY.out)
          have hsz := str_size xn
          unfold maxLen at htl
          clear hrow hUx
          go_upto_region 18 with (fail)
          generalize wr.alloc (.cells #[.string (str xn), .int .i64 xc] 92) = y1 at *
          obtain ⟨B, hB⟩ : ∃ B, wr.heap.size = B := ⟨_, rfl⟩
          rw [hB] at HRX ⊢
          clear hB z3
          have HNU : Hid (∀ w, Calls Tryz.prog 85 #[.int .i64 xc] w fun e w' => e = .returned (.bool (numB xc)) ∧ w = w') := Lib.hid (fun w => rnumber_any xc w)
          have HCB : Hid (∀ w', Upd (fun _ => False) y1 w' → w'.cell? ⟨B, 0, none⟩ = some (.string (str xn)) ∧ w'.cell? ⟨B, 1, none⟩ = some (.int .i64 xc)) := Lib.hid (fun w' h => by
            have hr := (h.block B (lt_of_heap HRX.out) (fun h => h)).trans HRX.out
            exact ⟨by rw [cell_of_row _ _ _ _ _ _ hr]; rfl, by rw [cell_of_row _ _ _ _ _ _ hr]; rfl⟩)
          have HQ := Lib.hid (HCB.out y1.drew (Upd.drew _ _))
          generalize numB xc = b2 at *
          have HLE : Hid (lenB xn = (decide (1 ≤ xn.length) && decide (xn.length ≤ 50))) := Lib.hid rfl
          by_cases l1 : xn.length < 1
          case pos =>
            have i1 : decide ((xn.length : Int) < 1) = true := by rw [decide_eq_true_iff]; omega
            have HBT := Lib.hid (show badK ns j = true from by rw [HBAD.out, HLE.out, decide_eq_false (show ¬ 1 ≤ xn.length by omega)]; rfl)
            clear l1
            refine wp_region_plan_last [([0, 1, 2, 3, 4, 5, 6, 7, 8, 9, 10, 11, 12, 13, 14, 15, 16, 17, 18, 19, 20, 21, 22, 23, 24, 25, 26, 27, 28], 29)] [30, 31, 32, 33, 34, 35, 36] (fun w' => w'.cell? ⟨B, 0, none⟩ = some (.string (str xn)) ∧ w'.cell? ⟨B, 1, none⟩ = some (.int .i64 xc)) (by kernel_rfl) (by kernel_rfl) HQ.out ?_
            iterate 29
              first
              | (refine plan_skip rfl rfl ?_)
              | (refine plan_take (v := ?_) rfl rfl (fun w' hS => ?_) ?_
                 rotate_left
                 · skip
                   go_simp; try with_reducible rfl)
              simp only [Act.put, List.getElem_toArray, List.getElem_cons_zero, List.getElem_cons_succ, List.setIfInBounds_toArray, List.set_cons_zero, List.set_cons_succ]
            refine plan_act rfl (fun K2 hK2 => ?_)
            go_wp2_with fail
            refine hK2.out _ _ (.inr HQ.out) ?_
            iterate 7
              first
              | (refine plan_lskip rfl rfl ?_)
              | (refine plan_last (v := ?_) rfl rfl (fun w' hS => ?_) ?_
                 rotate_left
                 · skip
                   go_simp; try with_reducible rfl)
              simp only [Act.put, List.getElem_toArray, List.getElem_cons_zero, List.getElem_cons_succ, List.setIfInBounds_toArray, List.set_cons_zero, List.set_cons_succ]
            refine plan_end ?_
            go_wp2_with fail
            have HR2 := Lib.hid (HF3.out (HALL.out HBT.out).out)
            go_ret
            exact ⟨by rw [HR2.out]; rfl, HU.out.trans (Upd.drew _ _)⟩
          case neg =>
          have i1 : decide ((xn.length : Int) < 1) = false := by rw [decide_eq_false_iff_not]; omega
          by_cases l2 : 50 < xn.length
          case pos =>
            have i2 : decide ((50 : Int) < (xn.length : Int)) = true := by rw [decide_eq_true_iff]; omega
            have HBT := Lib.hid (show badK ns j = true from by rw [HBAD.out, HLE.out, decide_eq_false (show ¬ xn.length ≤ 50 by omega)]; simp)
            clear l1 l2
            refine wp_region_plan_last [([0, 1, 2, 3, 4, 5, 6, 7, 8, 9, 10, 11, 12, 13, 14, 15, 16, 17, 18, 19, 20, 21, 22, 23, 24, 25, 26, 27, 28], 29)] [30, 31, 32, 33, 34, 35, 36] (fun w' => w'.cell? ⟨B, 0, none⟩ = some (.string (str xn)) ∧ w'.cell? ⟨B, 1, none⟩ = some (.int .i64 xc)) (by kernel_rfl) (by kernel_rfl) HQ.out ?_
            iterate 29
              first
              | (refine plan_skip rfl rfl ?_)
              | (refine plan_take (v := ?_) rfl rfl (fun w' hS => ?_) ?_
                 rotate_left
                 · skip
                   go_simp; try with_reducible rfl)
              simp only [Act.put, List.getElem_toArray, List.getElem_cons_zero, List.getElem_cons_succ, List.setIfInBounds_toArray, List.set_cons_zero, List.set_cons_succ]
            refine plan_act rfl (fun K2 hK2 => ?_)
            go_wp2_with fail
            refine hK2.out _ _ (.inr HQ.out) ?_
            iterate 7
              first
              | (refine plan_lskip rfl rfl ?_)
              | (refine plan_last (v := ?_) rfl rfl (fun w' hS => ?_) ?_
                 rotate_left
                 · skip
                   go_simp; try with_reducible rfl)
              simp only [Act.put, List.getElem_toArray, List.getElem_cons_zero, List.getElem_cons_succ, List.setIfInBounds_toArray, List.set_cons_zero, List.set_cons_succ]
            refine plan_end ?_
            go_wp2_with fail
            have HR2 := Lib.hid (HF3.out (HALL.out HBT.out).out)
            go_ret
            exact ⟨by rw [HR2.out]; rfl, HU.out.trans (Upd.drew _ _)⟩
          case neg =>
          have i2 : decide ((50 : Int) < (xn.length : Int)) = false := by rw [decide_eq_false_iff_not]; omega
          have hBAD := HBAD.out
          rw [HLE.out, decide_eq_true (show 1 ≤ xn.length by omega), decide_eq_true (show xn.length ≤ 50 by omega), Bool.and_true, Bool.not_true, Bool.false_or] at hBAD
          have HB1 := Lib.hid hBAD
          clear l1 l2 hBAD HBAD HLE
          by_cases h0 : 0 < j
          · have hpv := HPR.out h0
            have hBAD := HB1.out
            rw [decide_eq_true h0, Bool.true_and] at hBAD
            have HB2 := Lib.hid hBAD
            clear hBAD HB1
            generalize (ns[j - 1]?.map (·.name)).getD [] = pr at *
            have hj1 : (j : Int) - 1 = ((j - 1 : Nat) : Int) := by omega
            have hj2 : j - 1 < ns.length := by omega
            generalize j - 1 = m at hpv hj1 hj2
            have hwj : IntKind.i64.wrap (m : Int) = (m : Int) := IntWalk.i64_in _ (by omega)
            have hj3 : (m : Int) < (ns.length : Int) := by omega
            have hI0 : (0 : Int) < (j : Int) := by omega
            have HLQ : Hid ((Op.bytesLess xn pr || xn == pr) = leS xn pr) := Lib.hid rfl
            clear HQ
            have HQ : Hid (y1.drew.cell? ⟨B, 0, none⟩ = some (.string (str xn)) ∧ y1.drew.cell? ⟨B, 1, none⟩ = some (.int .i64 xc) ∧ y1.drew.cell? ⟨RB, 3, none⟩ = some (.slice (some ⟨b, o, none⟩) ns.length nc) ∧ y1.drew.cell? ⟨b, o + m * 2, none⟩ = some (.string (str pr))) := Lib.hid
              ⟨(HCB.out _ (Upd.drew _ _)).1, (HCB.out _ (Upd.drew _ _)).2, (HCC.out _ (HUY.out.trans (Upd.drew _ _))).2.2.2.1, ((HUX.out.trans (Upd.drew _ _)).cell (p := ⟨b, o + m * 2, none⟩) (World.block_lt_of_cell? wr _ hpv) (fun h => h)).trans hpv⟩
            clear hpv HCB
            generalize leS xn pr = le at *
            cases le with
            | true =>
              have HBT := Lib.hid (show badK ns j = true from by rw [HB2.out]; simp)
              refine wp_region_plan_last [([0, 1, 2, 3, 4, 5, 6, 7, 8, 9, 10, 11, 12, 13, 14, 15, 16, 17, 18, 19, 20, 21, 22, 23, 24, 25, 26, 27, 28], 29)] [30, 31, 32, 33, 34, 35, 36] (fun w' => w'.cell? ⟨B, 0, none⟩ = some (.string (str xn)) ∧ w'.cell? ⟨B, 1, none⟩ = some (.int .i64 xc) ∧ w'.cell? ⟨RB, 3, none⟩ = some (.slice (some ⟨b, o, none⟩) ns.length nc) ∧ w'.cell? ⟨b, o + m * 2, none⟩ = some (.string (str pr))) (by kernel_rfl) (by kernel_rfl) HQ.out ?_
              iterate 29
                first
                | (refine plan_skip rfl rfl ?_)
                | (refine plan_take (v := ?_) rfl rfl (fun w' hS => ?_) ?_
                   rotate_left
                   · skip
                     go_simp; try with_reducible rfl)
                simp only [HLQ.out, Act.put, List.getElem_toArray, List.getElem_cons_zero, List.getElem_cons_succ, List.setIfInBounds_toArray, List.set_cons_zero, List.set_cons_succ]
              refine plan_act rfl (fun K2 hK2 => ?_)
              go_wp2_with fail
              refine hK2.out _ _ (.inr HQ.out) ?_
              iterate 7
                first
                | (refine plan_lskip rfl rfl ?_)
                | (refine plan_last (v := ?_) rfl rfl (fun w' hS => ?_) ?_
                   rotate_left
                   · skip
                     go_simp; try with_reducible rfl)
                simp only [Act.put, List.getElem_toArray, List.getElem_cons_zero, List.getElem_cons_succ, List.setIfInBounds_toArray, List.set_cons_zero, List.set_cons_succ]
              refine plan_end ?_
              go_wp2_with fail
              have HR2 := Lib.hid (HF3.out (HALL.out HBT.out).out)
              go_ret
              exact ⟨by rw [HR2.out]; rfl, HU.out.trans (Upd.drew _ _)⟩
            | false =>
              have hBAD := HB2.out
              rw [Bool.or_false] at hBAD
              have HB3 := Lib.hid hBAD
              clear hBAD HB2
              cases b2 with
              | false =>
                have HBT := Lib.hid (show badK ns j = true from by rw [HB3.out]; simp)
                refine wp_region_plan_last [([0, 1, 2, 3, 4, 5, 6, 7, 8, 9, 10, 11, 12, 13, 14, 15, 16, 17, 18, 19, 20, 21, 22, 23, 24, 25, 26, 27, 28], 29)] [30, 31, 32, 33, 34, 35, 36] (fun w' => w'.cell? ⟨B, 0, none⟩ = some (.string (str xn)) ∧ w'.cell? ⟨B, 1, none⟩ = some (.int .i64 xc) ∧ w'.cell? ⟨RB, 3, none⟩ = some (.slice (some ⟨b, o, none⟩) ns.length nc) ∧ w'.cell? ⟨b, o + m * 2, none⟩ = some (.string (str pr))) (by kernel_rfl) (by kernel_rfl) HQ.out ?_
                iterate 29
                  first
                  | (refine plan_skip rfl rfl ?_)
                  | (refine plan_take (v := ?_) rfl rfl (fun w' hS => ?_) ?_
                     rotate_left
                     · skip
                       go_simp; try with_reducible rfl)
                  simp only [HLQ.out, Act.put, List.getElem_toArray, List.getElem_cons_zero, List.getElem_cons_succ, List.setIfInBounds_toArray, List.set_cons_zero, List.set_cons_succ]
                refine plan_act rfl (fun K2 hK2 => ?_)
                go_wp2_with fail
                refine (HNU.out _).mono ?_
                rintro e w2 ⟨rfl, rfl⟩
                go_wp2_with fail
                refine hK2.out _ _ (.inr HQ.out) ?_
                iterate 7
                  first
                  | (refine plan_lskip rfl rfl ?_)
                  | (refine plan_last (v := ?_) rfl rfl (fun w' hS => ?_) ?_
                     rotate_left
                     · skip
                       go_simp; try with_reducible rfl)
                  simp only [Act.put, List.getElem_toArray, List.getElem_cons_zero, List.getElem_cons_succ, List.setIfInBounds_toArray, List.set_cons_zero, List.set_cons_succ]
                refine plan_end ?_
                go_wp2_with fail
                have HR2 := Lib.hid (HF3.out (HALL.out HBT.out).out)
                go_ret
                exact ⟨by rw [HR2.out]; rfl, HU.out.trans (Upd.drew _ _)⟩
              | true =>
                by_cases ht : xc < 0
                · have hI2 : decide (xc < 0) = true := decide_eq_true ht
                  have HBT := Lib.hid (show badK ns j = true from by rw [HB3.out, hI2]; rfl)
                  clear ht
                  refine wp_region_plan_last [([0, 1, 2, 3, 4, 5, 6, 7, 8, 9, 10, 11, 12, 13, 14, 15, 16, 17, 18, 19, 20, 21, 22, 23, 24, 25, 26, 27, 28], 29)] [30, 31, 32, 33, 34, 35, 36] (fun w' => w'.cell? ⟨B, 0, none⟩ = some (.string (str xn)) ∧ w'.cell? ⟨B, 1, none⟩ = some (.int .i64 xc) ∧ w'.cell? ⟨RB, 3, none⟩ = some (.slice (some ⟨b, o, none⟩) ns.length nc) ∧ w'.cell? ⟨b, o + m * 2, none⟩ = some (.string (str pr))) (by kernel_rfl) (by kernel_rfl) HQ.out ?_
                  iterate 29
                    first
                    | (refine plan_skip rfl rfl ?_)
                    | (refine plan_take (v := ?_) rfl rfl (fun w' hS => ?_) ?_
                       rotate_left
                       · skip
                         go_simp; try with_reducible rfl)
                    simp only [HLQ.out, Act.put, List.getElem_toArray, List.getElem_cons_zero, List.getElem_cons_succ, List.setIfInBounds_toArray, List.set_cons_zero, List.set_cons_succ]
                  refine plan_act rfl (fun K2 hK2 => ?_)
                  go_wp2_with fail
                  refine (HNU.out _).mono ?_
                  rintro e w2 ⟨rfl, rfl⟩
                  go_wp2_with fail
                  refine hK2.out _ _ (.inr HQ.out) ?_
                  iterate 7
                    first
                    | (refine plan_lskip rfl rfl ?_)
                    | (refine plan_last (v := ?_) rfl rfl (fun w' hS => ?_) ?_
                       rotate_left
                       · skip
                         go_simp; try with_reducible rfl)
                    simp only [Act.put, List.getElem_toArray, List.getElem_cons_zero, List.getElem_cons_succ, List.setIfInBounds_toArray, List.set_cons_zero, List.set_cons_succ]
                  refine plan_end ?_
                  go_wp2_with fail
                  have HR2 := Lib.hid (HF3.out (HALL.out HBT.out).out)
                  go_ret
                  exact ⟨by rw [HR2.out]; rfl, HU.out.trans (Upd.drew _ _)⟩
                · have hI2 : decide (xc < 0) = false := decide_eq_false ht
                  have HS2 : Hid ((List.range (j + 1)).any (badK ns) = false) := Lib.hid (by rw [HS.out, HB3.out, hI2]; rfl)
                  clear ht
                  refine wp_region_plan_last [([0, 1, 2, 3, 4, 5, 6, 7, 8, 9, 10, 11, 12, 13, 14, 15, 16, 17, 18, 19, 20, 21, 22, 23, 24, 25, 26, 27, 28], 29)] [30, 31, 32, 33, 34, 35, 36] (fun w' => w'.cell? ⟨B, 0, none⟩ = some (.string (str xn)) ∧ w'.cell? ⟨B, 1, none⟩ = some (.int .i64 xc) ∧ w'.cell? ⟨RB, 3, none⟩ = some (.slice (some ⟨b, o, none⟩) ns.length nc) ∧ w'.cell? ⟨b, o + m * 2, none⟩ = some (.string (str pr))) (by kernel_rfl) (by kernel_rfl) HQ.out ?_
                  iterate 29
                    first
                    | (refine plan_skip rfl rfl ?_)
                    | (refine plan_take (v := ?_) rfl rfl (fun w' hS => ?_) ?_
                       rotate_left
                       · skip
                         go_simp; try with_reducible rfl)
                    simp only [HLQ.out, Act.put, List.getElem_toArray, List.getElem_cons_zero, List.getElem_cons_succ, List.setIfInBounds_toArray, List.set_cons_zero, List.set_cons_succ]
                  refine plan_act rfl (fun K2 hK2 => ?_)
                  go_wp2_with fail
                  refine (HNU.out _).mono ?_
                  rintro e w2 ⟨rfl, rfl⟩
                  go_wp2_with fail
                  refine hK2.out _ _ (.inr HQ.out) ?_
                  iterate 7
                    first
                    | (refine plan_lskip rfl rfl ?_)
                    | (refine plan_last (v := ?_) rfl rfl (fun w' hS => ?_) ?_
                       rotate_left
                       · skip
                         go_simp; try with_reducible rfl)
                    simp only [Act.put, List.getElem_toArray, List.getElem_cons_zero, List.getElem_cons_succ, List.setIfInBounds_toArray, List.set_cons_zero, List.set_cons_succ]
                  refine plan_end ?_
                  go_wp2_with fail
                  go_roundw
                  case rel => exact ⟨j + 1, by omega, by first | rfl | go_num, Lib.hid HS2.out, Lib.hid (HUY.out.trans (Upd.drew _ _))⟩
                  case measure => simp [intOf]; omega
          · obtain rfl : j = 0 := by omega
            have hBAD := HB1.out
            rw [show decide (0 < 0) = false from rfl, Bool.false_and, Bool.or_false] at hBAD
            have HB3 := Lib.hid hBAD
            clear hBAD HB1
            obtain ⟨j, hj0⟩ : ∃ j : Nat, j = 0 := ⟨_, rfl⟩
            cases b2 with
            | false =>
              have HBT := Lib.hid (show badK ns 0 = true from by rw [HB3.out]; simp)
              refine wp_region_plan_last [([0, 1, 2, 3, 4, 5, 6, 7, 8, 9, 10, 11, 12, 13, 14, 15, 16, 17, 18, 19, 20, 21, 22, 23, 24, 25, 26, 27, 28], 29)] [30, 31, 32, 33, 34, 35, 36] (fun w' => w'.cell? ⟨B, 0, none⟩ = some (.string (str xn)) ∧ w'.cell? ⟨B, 1, none⟩ = some (.int .i64 xc)) (by kernel_rfl) (by kernel_rfl) HQ.out ?_
              iterate 29
                first
                | (refine plan_skip rfl rfl ?_)
                | (refine plan_take (v := ?_) rfl rfl (fun w' hS => ?_) ?_
                   rotate_left
                   · skip
                     go_simp; try with_reducible rfl)
                simp only [Act.put, List.getElem_toArray, List.getElem_cons_zero, List.getElem_cons_succ, List.setIfInBounds_toArray, List.set_cons_zero, List.set_cons_succ]
              refine plan_act rfl (fun K2 hK2 => ?_)
              go_wp2_with fail
              refine (HNU.out _).mono ?_
              rintro e w2 ⟨rfl, rfl⟩
              go_wp2_with fail
              refine hK2.out _ _ (.inr HQ.out) ?_
              iterate 7
                first
                | (refine plan_lskip rfl rfl ?_)
                | (refine plan_last (v := ?_) rfl rfl (fun w' hS => ?_) ?_
                   rotate_left
                   · skip
                     go_simp; try with_reducible rfl)
                simp only [Act.put, List.getElem_toArray, List.getElem_cons_zero, List.getElem_cons_succ, List.setIfInBounds_toArray, List.set_cons_zero, List.set_cons_succ]
              refine plan_end ?_
              go_wp2_with fail
              have HR2 := Lib.hid (HF3.out (HALL.out HBT.out).out)
              go_ret
              exact ⟨by rw [HR2.out]; rfl, HU.out.trans (Upd.drew _ _)⟩
            | true =>
              by_cases ht : xc < 0
              · have hI2 : decide (xc < 0) = true := decide_eq_true ht
                have HBT := Lib.hid (show badK ns 0 = true from by rw [HB3.out, hI2]; rfl)
                clear ht
                refine wp_region_plan_last [([0, 1, 2, 3, 4, 5, 6, 7, 8, 9, 10, 11, 12, 13, 14, 15, 16, 17, 18, 19, 20, 21, 22, 23, 24, 25, 26, 27, 28], 29)] [30, 31, 32, 33, 34, 35, 36] (fun w' => w'.cell? ⟨B, 0, none⟩ = some (.string (str xn)) ∧ w'.cell? ⟨B, 1, none⟩ = some (.int .i64 xc)) (by kernel_rfl) (by kernel_rfl) HQ.out ?_
                iterate 29
                  first
                  | (refine plan_skip rfl rfl ?_)
                  | (refine plan_take (v := ?_) rfl rfl (fun w' hS => ?_) ?_
                     rotate_left
                     · skip
                       go_simp; try with_reducible rfl)
                  simp only [Act.put, List.getElem_toArray, List.getElem_cons_zero, List.getElem_cons_succ, List.setIfInBounds_toArray, List.set_cons_zero, List.set_cons_succ]
                refine plan_act rfl (fun K2 hK2 => ?_)
                go_wp2_with fail
                refine (HNU.out _).mono ?_
                rintro e w2 ⟨rfl, rfl⟩
                go_wp2_with fail
                refine hK2.out _ _ (.inr HQ.out) ?_
                iterate 7
                  first
                  | (refine plan_lskip rfl rfl ?_)
                  | (refine plan_last (v := ?_) rfl rfl (fun w' hS => ?_) ?_
                     rotate_left
                     · skip
                       go_simp; try with_reducible rfl)
                  simp only [Act.put, List.getElem_toArray, List.getElem_cons_zero, List.getElem_cons_succ, List.setIfInBounds_toArray, List.set_cons_zero, List.set_cons_succ]
                refine plan_end ?_
                go_wp2_with fail
                have HR2 := Lib.hid (HF3.out (HALL.out HBT.out).out)
                go_ret
                exact ⟨by rw [HR2.out]; rfl, HU.out.trans (Upd.drew _ _)⟩
              · have hI2 : decide (xc < 0) = false := decide_eq_false ht
                have HS2 : Hid ((List.range (0 + 1)).any (badK ns) = false) := Lib.hid (by rw [HS.out, HB3.out, hI2]; rfl)
                clear ht
                refine wp_region_plan_last [([0, 1, 2, 3, 4, 5, 6, 7, 8, 9, 10, 11, 12, 13, 14, 15, 16, 17, 18, 19, 20, 21, 22, 23, 24, 25, 26, 27, 28], 29)] [30, 31, 32, 33, 34, 35, 36] (fun w' => w'.cell? ⟨B, 0, none⟩ = some (.string (str xn)) ∧ w'.cell? ⟨B, 1, none⟩ = some (.int .i64 xc)) (by kernel_rfl) (by kernel_rfl) HQ.out ?_
                iterate 29
                  first
                  | (refine plan_skip rfl rfl ?_)
                  | (refine plan_take (v := ?_) rfl rfl (fun w' hS => ?_) ?_
                     rotate_left
                     · skip
                       go_simp; try with_reducible rfl)
                  simp only [Act.put, List.getElem_toArray, List.getElem_cons_zero, List.getElem_cons_succ, List.setIfInBounds_toArray, List.set_cons_zero, List.set_cons_succ]
                refine plan_act rfl (fun K2 hK2 => ?_)
                go_wp2_with fail
                refine (HNU.out _).mono ?_
                rintro e w2 ⟨rfl, rfl⟩
                go_wp2_with fail
                refine hK2.out _ _ (.inr HQ.out) ?_
                iterate 7
                  first
                  | (refine plan_lskip rfl rfl ?_)
                  | (refine plan_last (v := ?_) rfl rfl (fun w' hS => ?_) ?_
                     rotate_left
                     · skip
                       go_simp; try with_reducible rfl)
                  simp only [Act.put, List.getElem_toArray, List.getElem_cons_zero, List.getElem_cons_succ, List.setIfInBounds_toArray, List.set_cons_zero, List.set_cons_succ]
                refine plan_end ?_
                go_wp2_with fail
                go_roundw
                case rel => exact ⟨1, by omega, by first | rfl | go_num, Lib.hid HS2.out, Lib.hid (HUY.out.trans (Upd.drew _ _))⟩
                case measure => simp [intOf]; omega
        · obtain rfl : j = ns.length := by omega
          have hI : ¬ (ns.length : Int) < (ns.length : Int) := by omega
          have HR := Lib.hid (HOK3.out hA.out)
          clear hlt hj
          go_wp2_with fail
          go_ret
          exact ⟨by rw [HR.out]; rfl, HU0.out.trans HU.out⟩
end Go.Proofs.YtccejkikphpnfaaGreatDoor

namespace Go.Proofs.YtccejkikphpnfaaGreatDoor
set_option linter.unusedSimpArgs false
set_option linter.unusedVariables false
set_option maxRecDepth 100000
open Go.ChangeShapes Go.WideShapes Go.ChangeAt Go.RowKit

theorem waitB_bad (p : Wt) (h : p.on = false ∨ numB p.src = false ∨ numB p.dst = false ∨ numB p.com = false ∨ 2000 < p.ss.length ∨ 100 < p.cs.length ∨ p.ss.any badS = true ∨ p.cs.any badC = true) : waitB p = false := by
  cases hb : waitB p with
  | false => rfl
  | true =>
    exfalso
    simp only [waitB, Bool.and_eq_true, decide_eq_true_eq, Bool.not_eq_true'] at hb
    obtain ⟨h1, h2, h3, h4, h5, h6, h7, h8⟩ := hb
    rcases h with h | h | h | h | h | h | h | h
    · rw [h1] at h; cases h
    · rw [h2] at h; cases h
    · rw [h3] at h; cases h
    · rw [h4] at h; cases h
    · omega
    · omega
    · rw [h7] at h; cases h
    · rw [h8] at h; cases h
theorem waitB_ok (p : Wt) (h1 : p.on = true) (h2 : numB p.src = true) (h3 : numB p.dst = true) (h4 : numB p.com = true) (h5 : ¬ 2000 < p.ss.length) (h6 : ¬ 100 < p.cs.length) (h7 : p.ss.any badS = false) (h8 : p.cs.any badC = false) : waitB p = true := by
  simp only [waitB, Bool.and_eq_true, decide_eq_true_eq, Bool.not_eq_true']
  exact ⟨h1, h2, h3, h4, by omega, by omega, h7, h8⟩

set_option maxHeartbeats 32000000 in
theorem waitMay_any (p : Wt) (w : World) (h : WtIn w p) : Calls Tryz.prog 55 #[.agg (wtA p)] w fun e w' => e = .returned (.bool (waitB p)) ∧ Upd (fun _ => False) w w' := by
  have hU := Upd.alloc (fun _ => False) w (.cells (wtA p) 30)
  have hrow := heap_alloc_new w (.cells (wtA p) 30)
  have hb := waitB_bad p
  have hok := waitB_ok p
  generalize waitB p = R at *
  obtain ⟨on, re, src, dst, sa, sc, ss, com, ca, cc, cs⟩ := p
  unfold wtA at *
  dsimp only at *
  have hcm := h.sv.cap
  have hlm := h.sv.le
  have hcn := h.cv.cap
  have hln := h.cv.le
  unfold maxLen at hcm hcn
  dsimp only at hcm hlm hcn hln
  have HI := Lib.hid h
  have HF1 : Hid (on = false ∨ numB src = false ∨ numB dst = false ∨ numB com = false ∨ 2000 < ss.length ∨ 100 < cs.length → R = false) := Lib.hid (fun h => hb (by rcases h with h | h | h | h | h | h <;> simp [h]))
  have HF2 : Hid (ss.any badS = true → R = false) := Lib.hid (fun h => hb (.inr (.inr (.inr (.inr (.inr (.inr (.inl h))))))))
  have HF3 : Hid (cs.any badC = true → R = false) := Lib.hid (fun h => hb (.inr (.inr (.inr (.inr (.inr (.inr (.inr h))))))))
  have HOK := Lib.hid hok
  have HNU : Hid (∀ v w', Calls Tryz.prog 85 #[.int .i64 v] w' fun e w2 => e = .returned (.bool (numB v)) ∧ w' = w2) := Lib.hid (fun v w' => rnumber_any v w')
  have HU0 := Lib.hid hU
  have HR0 := Lib.hid hrow
  clear hU hrow hb hok h
  go_enter Tryz.func55, Tryz.ntmps55
  go_upto_region 1 with (fail)
  generalize w.alloc (.cells #[.bool on, .bool re, .int .i64 src, .int .i64 dst, .slice sa ss.length sc, .int .i64 com, .slice ca cs.length cc] 30) = y0 at *
  obtain ⟨RB, hRB⟩ : ∃ B, w.heap.size = B := ⟨_, rfl⟩
  rw [hRB] at HR0 ⊢
  have HZ := Lib.hid hRB
  clear hRB
  have HCC : Hid (∀ w', Upd (fun _ => False) y0 w' → w'.cell? ⟨RB, 0, none⟩ = some (.bool on) ∧ w'.cell? ⟨RB, 1, none⟩ = some (.bool re) ∧ w'.cell? ⟨RB, 2, none⟩ = some (.int .i64 src) ∧ w'.cell? ⟨RB, 3, none⟩ = some (.int .i64 dst) ∧ w'.cell? ⟨RB, 4, none⟩ = some (.slice sa ss.length sc) ∧ w'.cell? ⟨RB, 5, none⟩ = some (.int .i64 com) ∧ w'.cell? ⟨RB, 6, none⟩ = some (.slice ca cs.length cc)) := Lib.hid (fun w' h => row7 ((h.block RB (lt_of_heap HR0.out) (fun h => h)).trans HR0.out))
  obtain ⟨z0, z1, z2, z3, z4, z5, z6⟩ := HCC.out y0 (Upd.refl _ _)
  cases on with
  | false =>
    have HR := Lib.hid (HF1.out (.inl rfl))
    go_wp2_with fail
    go_ret
    exact ⟨by rw [HR.out]; rfl, HU0.out⟩
  | true =>
  have hn0 := HNU.out src y0
  generalize hb0 : numB src = b0 at hn0
  have HB0 := Lib.hid hb0
  clear hb0
  have hn1 := HNU.out dst y0
  generalize hb1 : numB dst = b1 at hn1
  have HB1 := Lib.hid hb1
  clear hb1
  have hn2 := HNU.out com y0
  generalize hb2 : numB com = b2 at hn2
  have HB2 := Lib.hid hb2
  clear hb2
  cases b0 with
  | false =>
    have HR := Lib.hid (HF1.out (.inr (.inl HB0.out)))
    go_wp2_with fail
    refine hn0.mono ?_
    rintro e w' ⟨rfl, rfl⟩
    go_wp2_with fail
    go_ret
    exact ⟨by rw [HR.out]; rfl, HU0.out⟩
  | true =>
  cases b1 with
  | false =>
    have HR := Lib.hid (HF1.out (.inr (.inr (.inl HB1.out))))
    go_wp2_with fail
    refine hn0.mono ?_
    rintro e w' ⟨rfl, rfl⟩
    go_wp2_with fail
    refine hn1.mono ?_
    rintro e w' ⟨rfl, rfl⟩
    go_wp2_with fail
    go_ret
    exact ⟨by rw [HR.out]; rfl, HU0.out⟩
  | true =>
  cases b2 with
  | false =>
    have HR := Lib.hid (HF1.out (.inr (.inr (.inr (.inl HB2.out)))))
    go_wp2_with fail
    refine hn0.mono ?_
    rintro e w' ⟨rfl, rfl⟩
    go_wp2_with fail
    refine hn1.mono ?_
    rintro e w' ⟨rfl, rfl⟩
    go_wp2_with fail
    refine hn2.mono ?_
    rintro e w' ⟨rfl, rfl⟩
    go_wp2_with fail
    go_ret
    exact ⟨by rw [HR.out]; rfl, HU0.out⟩
  | true =>
  by_cases c5 : 2000 < ss.length
  case pos =>
    have HR := Lib.hid (HF1.out (.inr (.inr (.inr (.inr (.inl c5))))))
    have hI : decide ((2000 : Int) < (ss.length : Int)) = true := by rw [decide_eq_true_iff]; omega
    go_wp2_with fail
    refine hn0.mono ?_
    rintro e w' ⟨rfl, rfl⟩
    go_wp2_with fail
    refine hn1.mono ?_
    rintro e w' ⟨rfl, rfl⟩
    go_wp2_with fail
    refine hn2.mono ?_
    rintro e w' ⟨rfl, rfl⟩
    go_wp2_with fail
    go_ret
    exact ⟨by rw [HR.out]; rfl, HU0.out⟩
  case neg =>
  have ic5 : decide ((2000 : Int) < (ss.length : Int)) = false := by rw [decide_eq_false_iff_not]; omega
  by_cases c6 : 100 < cs.length
  case pos =>
    have HR := Lib.hid (HF1.out (.inr (.inr (.inr (.inr (.inr c6))))))
    have hI : decide ((100 : Int) < (cs.length : Int)) = true := by rw [decide_eq_true_iff]; omega
    go_wp2_with fail
    refine hn0.mono ?_
    rintro e w' ⟨rfl, rfl⟩
    go_wp2_with fail
    refine hn1.mono ?_
    rintro e w' ⟨rfl, rfl⟩
    go_wp2_with fail
    refine hn2.mono ?_
    rintro e w' ⟨rfl, rfl⟩
    go_wp2_with fail
    go_ret
    exact ⟨by rw [HR.out]; rfl, HU0.out⟩
  case neg =>
  have ic6 : decide ((100 : Int) < (cs.length : Int)) = false := by rw [decide_eq_false_iff_not]; omega
  have HOK2 : Hid (ss.any badS = false → cs.any badC = false → R = true) := Lib.hid (HOK.out rfl HB0.out HB1.out HB2.out c5 c6)
  clear c5 c6 HOK
  go_wp2_with fail
  refine hn0.mono ?_
  rintro e w' ⟨rfl, rfl⟩
  go_wp2_with fail
  refine hn1.mono ?_
  rintro e w' ⟨rfl, rfl⟩
  go_wp2_with fail
  refine hn2.mono ?_
  rintro e w' ⟨rfl, rfl⟩
  go_wp2_with fail
  clear ic5 ic6 z0 z1 z2 z3 z4 z5 z6 hn0 hn1 hn2 HB0 HB1 HB2
  go_loopw [3] (fun i wr => ∃ j : Nat, j ≤ ss.length ∧ i = .int .i64 (j : Int) ∧ Hid ((ss.take j).any badS = false) ∧ Hid (Upd (fun _ => False) y0 wr)) (fun i _ => ss.length - (intOf i).toNat)
  case atStart => exact ⟨0, Nat.zero_le _, rfl, (by show _ = _; simp), Lib.hid (Upd.refl _ _)⟩
  case round =>
    obtain ⟨j, hj, rfl, hA, HU⟩ := hrel
    obtain ⟨z0, z1, z2, z3, z4, z5, z6⟩ := HCC.out _ HU.out
    clear z0 z1 z2 z3 z5 z6
    by_cases hlt : j < ss.length
    · have hI : (j : Int) < (ss.length : Int) := by omega
      obtain ⟨b, o, hb, hcell⟩ := (HI.out.sv.upd (HU0.out.trans HU.out) (fun _ _ h => h)).at (show 0 < ss.length by omega) (by decide)
      dsimp only at hb
      subst hb
      have q0 : wr.cell? ⟨b, o + j * 2, none⟩ = some (.int .i64 ss[j].com) := hcell (j * 2 + 0) _ (st_get ss j 0 hlt (by decide))
      have q1 : wr.cell? ⟨b, o + j * 2 + 1, none⟩ = some (.slice ss[j].a ss[j].fs.length ss[j].c) := hcell (j * 2 + 1) _ (st_get ss j 1 hlt (by decide))
      have hmx := (HI.out.se ss[j] (List.getElem_mem hlt)).upd (HU0.out.trans HU.out)
      have hs := any_take_succ badS ss j hlt
      rw [hA.out, Bool.false_or] at hs
      have hall := any_of_take badS ss (j + 1)
      rw [hs] at hall
      clear hcell
      generalize ss[j] = x at *
      have HS := Lib.hid hs
      have HALL := Lib.hid hall
      have HBD : Hid (badS x = (!numB x.com || !rightT x.fs)) := Lib.hid rfl
      obtain ⟨xm, xf, xa, xc⟩ := x
      dsimp only at *
      have hright := r11Right_any xa xc xf wr hmx.v hmx.t
      rw [← right_eq] at hright
      have hnum := HNU.out xm wr
      clear hs hall hA hmx
      generalize rightT xf = bt at *
      generalize numB xm = bo at *
      cases bo with
      | false =>
        have HR := Lib.hid (HF2.out (HALL.out (by rw [HBD.out]; simp)))
        clear hright
        go_wp2_with fail
        refine hnum.mono ?_
        rintro e w' ⟨rfl, rfl⟩
        go_wp2_with fail
        go_ret
        exact ⟨by rw [HR.out]; rfl, HU0.out.trans HU.out⟩
      | true =>
      cases bt with
      | false =>
        have HR := Lib.hid (HF2.out (HALL.out (by rw [HBD.out]; simp)))
        go_wp2_with fail
        refine hnum.mono ?_
        rintro e w' ⟨rfl, rfl⟩
        go_wp2_with fail
        refine hright.mono ?_
        rintro e w2 ⟨rfl, hU2⟩
        have HU2 := Lib.hid (HU.out.trans hU2)
        clear hright hU2
        go_wp2_with fail
        go_ret
        exact ⟨by rw [HR.out]; rfl, HU0.out.trans HU2.out⟩
      | true =>
        have HS2 : Hid ((ss.take (j + 1)).any badS = false) := Lib.hid (by rw [HS.out, HBD.out]; rfl)
        go_wp2_with fail
        refine hnum.mono ?_
        rintro e w' ⟨rfl, rfl⟩
        go_wp2_with fail
        refine hright.mono ?_
        rintro e w2 ⟨rfl, hU2⟩
        have HU2 := Lib.hid (HU.out.trans hU2)
        clear hright hnum hU2 q0 q1 z4
        go_wp2_with fail
        go_roundw
        case rel => exact ⟨j + 1, by omega, by first | rfl | go_num, Lib.hid HS2.out, HU2⟩
        case measure => simp [intOf]; omega
    · obtain rfl : j = ss.length := by omega
      have hI : ¬ (ss.length : Int) < (ss.length : Int) := by omega
      have h0 := hA.out
      rw [List.take_length] at h0
      have HOK3 : Hid (cs.any badC = false → R = true) := Lib.hid (HOK2.out h0)
      have HUS := HU
      clear h0 hA hlt hj HOK2 HU
      go_wp2_with fail
      clear z4 hI
      go_loopw [4] (fun i wz => ∃ j : Nat, j ≤ cs.length ∧ i = .int .i64 (j : Int) ∧ Hid ((cs.take j).any badC = false) ∧ wr = wz) (fun i _ => cs.length - (intOf i).toNat)
      case atStart => exact ⟨0, Nat.zero_le _, rfl, (by show _ = _; simp), rfl⟩
      case round =>
        obtain ⟨j, hj, rfl, hA, rfl⟩ := hrel
        obtain ⟨z0, z1, z2, z3, z4, z5, z6⟩ := HCC.out _ HUS.out
        clear z0 z1 z2 z3 z5 z4
        by_cases hlt : j < cs.length
        · have hI : (j : Int) < (cs.length : Int) := by omega
          obtain ⟨b, o, hb, hcell⟩ := (HI.out.cv.upd (HU0.out.trans HUS.out) (fun _ _ h => h)).at (show 0 < cs.length by omega) (by decide)
          dsimp only at hb
          subst hb
          have q1 : wr.cell? ⟨b, o + j * 3 + 1, none⟩ = some (.int .i64 cs[j].kind) := hcell (j * 3 + 1) _ (cl_get cs j 1 hlt (by decide))
          have hs := any_take_succ badC cs j hlt
          rw [hA.out, Bool.false_or] at hs
          have hall := any_of_take badC cs (j + 1)
          rw [hs] at hall
          clear hcell
          generalize cs[j] = x at *
          have HS := Lib.hid hs
          have HALL := Lib.hid hall
          have HBD : Hid (badC x = !numB x.kind) := Lib.hid rfl
          obtain ⟨xp, xk, xt⟩ := x
          dsimp only at *
          have hnum := HNU.out xk wr
          clear hs hall hA
          generalize numB xk = bo at *
          cases bo with
          | false =>
            have HR := Lib.hid (HF3.out (HALL.out (by rw [HBD.out]; rfl)))
            go_wp2_with fail
            refine hnum.mono ?_
            rintro e w' ⟨rfl, rfl⟩
            go_wp2_with fail
            go_ret
            exact ⟨by rw [HR.out]; rfl, HU0.out.trans HUS.out⟩
          | true =>
            have HS2 : Hid ((cs.take (j + 1)).any badC = false) := Lib.hid (by rw [HS.out, HBD.out]; rfl)
            go_wp2_with fail
            refine hnum.mono ?_
            rintro e w' ⟨rfl, rfl⟩
            clear hnum q1 z6
            go_wp2_with fail
            go_roundw
            case rel => exact ⟨j + 1, by omega, by first | rfl | go_num, Lib.hid HS2.out, by first | rfl | trivial⟩
            case measure => simp [intOf]; omega
        · obtain rfl : j = cs.length := by omega
          have hI : ¬ (cs.length : Int) < (cs.length : Int) := by omega
          have h0 := hA.out
          rw [List.take_length] at h0
          have HR := Lib.hid (HOK3.out h0)
          clear h0 hA hlt hj
          go_wp2_with fail
          go_ret
          exact ⟨by rw [HR.out]; rfl, HU0.out.trans HUS.out⟩
end Go.Proofs.YtccejkikphpnfaaGreatDoor
