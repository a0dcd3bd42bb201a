
/- The reference's Right of commands. -/
import Derived.Test.YteefceainlfdfaaDoorRc2
namespace Go.Proofs.YteefceainlfdfaaDoor
set_option linter.unusedSimpArgs false
set_option linter.unusedVariables false
set_option maxRecDepth 100000
open Go.ChangeShapes Go.WideShapes Go.ChangeAt Go.RowKit

set_option maxHeartbeats 8000000 in
theorem r25Right_any (c : Cmd) (a1 : Option Addr) (c1 : Nat) (a2 : Option Addr) (c2 : Nat) (w : World) (h : CmdIn w c a1 c1 a2 c2) (hnm : c.name.length ≤ 4000000) :
    Calls Tryd.prog 30 #[cmdV c a1 c1 a2 c2] w fun e w' => e = .returned (.int .i64 (rightL c)) ∧ Upd (fun _ => False) w w' := by
  have hU1 := Upd.alloc (fun _ => False) w (.cells (cmdV c a1 c1 a2 c2).cells 25)
  have hrow := heap_alloc_new w (.cells (cmdV c a1 c1 a2 c2).cells 25)
  have h1 := h.upd hU1
  have hlong := r25long_any c a1 c1 a2 c2 _ h1
  have hcap := h.ch.cap
  have hlc := h.ch.le
  have hcap2 := h.ps.cap
  have hlc2 := h.ps.le
  unfold maxLen at hcap hcap2
  have HD : Hid (rightL c = rightOf c.kind c.count (longL c) (pathsL c) (nameL c.name)) := Lib.hid rfl
  unfold rightOf at HD
  have HPL : Hid (pathsL c = (!c.ch.any badCh && !c.ps.any badPa)) := Lib.hid rfl
  unfold cmdV at hU1 hrow h1 hlong ⊢
  unfold sv at hU1 hrow h1 hlong ⊢
  dsimp only [Value.cells] at hU1 hrow h1 hlong
  have HP := Lib.hid (And.intro hU1 (And.intro hrow (And.intro h1 hlong)))
  clear hU1 hrow h1 h hlong
  go_enter Tryd.func30, Tryd.ntmps30
  go_upto_region 1 with (fail)
  obtain ⟨hU1, hrow, h1, hlong⟩ := HP.out
  generalize w.alloc (.cells #[.int .i64 c.kind, .string (str c.msg), .slice a1 c.ch.length c1, .slice a2 c.ps.length c2, .int .i64 c.count, .int .i64 c.commit, .int .i64 c.dest, .string (str c.name)] 25) = y0 at *
  obtain ⟨B, hB⟩ : ∃ B, B = w.heap.size := ⟨_, rfl⟩
  rw [← hB] at hrow ⊢
  have HU := Lib.hid hU1
  have HI := Lib.hid h1
  have HR0 := Lib.hid hrow
  have HLO := Lib.hid hlong
  obtain ⟨z0, z1, z2, z3, z4, z5, z6, z7⟩ := cmd_cells hrow (Upd.refl _ y0)
  clear hU1 hrow h1 HP hB hlong
  by_cases k1 : c.kind < 1
  · have HR : Hid (rightL c = 16) := Lib.hid (by rw [HD.out, if_pos (.inl k1)])
    go_wp2_with fail
    go_ret
    exact ⟨by rw [HR.out]; rfl, HU.out⟩
  by_cases k2 : 15 < c.kind
  · have HR : Hid (rightL c = 16) := Lib.hid (by rw [HD.out, if_pos (.inr k2)])
    have k1' : decide (c.kind < 1) = false := by rw [decide_eq_false_iff_not]; omega
    go_wp2_with fail
    go_ret
    exact ⟨by rw [HR.out]; rfl, HU.out⟩
  have HD1 : Hid (rightL c = _) := Lib.hid (HD.out.trans (if_neg (by omega)))
  have k1' : decide (c.kind < 1) = false := by rw [decide_eq_false_iff_not]; omega
  have k2' : decide (15 < c.kind) = false := by rw [decide_eq_false_iff_not]; omega
  have hlong := HLO.out
  clear HD HLO k1 k2
  cases hl : longL c with
  | true =>
    rw [hl] at hlong HD1
    have HR : Hid (rightL c = 6) := Lib.hid (by rw [HD1.out, if_pos rfl])
    clear HD1 hl
    go_wp2_with fail
    refine hlong.mono ?_
    rintro e w1 ⟨rfl, hU⟩
    have HU2 := Lib.hid (HU.out.trans hU)
    clear hU hlong z0 z1 z2 z3 z4 z5 z6 z7
    go_wp2_with fail
    go_ret
    exact ⟨by rw [HR.out]; rfl, HU2.out⟩
  | false =>
  rw [hl] at hlong HD1
  have HD2 : Hid (rightL c = _) := Lib.hid (HD1.out.trans (if_neg (by simp)))
  clear hl HD1
  go_wp2_with fail
  refine hlong.mono ?_
  rintro e w1 ⟨rfl, hU⟩
  have HU1 := Lib.hid hU
  clear hU hlong z0 z1 z2 z3 z4 z5 z6 z7
  go_wp2_with fail
  go_loopw [3] (fun i wr => ∃ j : Nat, j ≤ c.ch.length ∧ i = .int .i64 (j : Int) ∧ Hid ((c.ch.take j).any badCh = false) ∧ Hid (Upd (fun _ => False) y0 wr)) (fun i _ => c.ch.length - (intOf i).toNat)
  case atStart => exact ⟨0, Nat.zero_le _, rfl, (by show _ = _; simp), HU1⟩
  case round =>
    clear HU1
    obtain ⟨j, hj, rfl, hA, HUr⟩ := hrel
    obtain ⟨z0, z1, z2, z3, z4, z5, z6, z7⟩ := cmd_cells HR0.out HUr.out
    by_cases hlt : j < c.ch.length
    · have hI : (j : Int) < (c.ch.length : Int) := by omega
      obtain ⟨b, o, hb, hcell⟩ := (HI.out.ch.upd HUr.out (fun _ _ h => h)).at (by omega) (by decide)
      rw [hb] at z2 ⊢
      have q0 : wr.cell? ⟨b, o + j * 4, none⟩ = some (sv c.ch[j].path) := hcell (j * 4 + 0) _ (chV_get c.ch j 0 hlt (by decide))
      have hs1 := any_take_succ badCh c.ch j hlt
      rw [hA.out, Bool.false_or] at hs1
      have hall := any_of_take badCh c.ch (j + 1)
      rw [hs1] at hall
      have hbp : badCh c.ch[j] = !pathL c.ch[j].path := rfl
      have hcal := r11Path_any c.ch[j].path wr
      have HS := Lib.hid hs1
      have HALL := Lib.hid hall
      have HBP := Lib.hid hbp
      unfold sv at q0 hcal
      clear hs1 hall hA hcell hbp z0 z1 z3 z4 z5 z6 z7
      generalize badCh c.ch[j] = bd at *
      generalize c.ch[j].path = p at *
      cases hp : pathL p with
      | false =>
        rw [hp] at hcal HBP
        have HR : Hid (rightL c = 11) := Lib.hid (by rw [HD2.out, if_pos (by rw [HPL.out, HALL.out HBP.out]; rfl)])
        clear hp HALL HS
        go_wp2_with fail
        refine hcal.mono ?_
        rintro e w2 ⟨rfl, hU⟩
        have HU2 := Lib.hid (HU.out.trans (HUr.out.trans hU))
        clear hU hcal q0 z2
        go_wp2_with fail
        go_ret
        exact ⟨by rw [HR.out]; rfl, HU2.out⟩
      | true =>
        rw [hp] at hcal HBP
        have HN : Hid ((c.ch.take (j + 1)).any badCh = false) := Lib.hid (by rw [HS.out, HBP.out]; rfl)
        clear hp HALL HS
        go_wp2_with fail
        refine hcal.mono ?_
        rintro e w2 ⟨rfl, hU⟩
        have HU2 := Lib.hid (HUr.out.trans hU)
        clear hU hcal q0 z2
        go_wp2_with fail
        go_roundw
        case rel => exact ⟨j + 1, by omega, by first | rfl | go_num, HN, HU2⟩
        case measure => simp [intOf]; omega
    · obtain rfl : j = c.ch.length := by omega
      have h0 := hA.out
      rw [List.take_length] at h0
      have H0 := Lib.hid h0
      clear h0 hA z0 z1 z3 z4 z5 z6 z7
      go_wp2_with fail
      clear z2
      go_loopw [4] (fun i wx => ∃ j : Nat, j ≤ c.ps.length ∧ i = .int .i64 (j : Int) ∧ Hid ((c.ps.take j).any badPa = false) ∧ Hid (Upd (fun _ => False) y0 wx)) (fun i _ => c.ps.length - (intOf i).toNat)
      case atStart => exact ⟨0, Nat.zero_le _, rfl, Lib.hid (by simp), HUr⟩
      case round =>
        clear HUr
        obtain ⟨j, hj, rfl, hA, HUr⟩ := hrel
        obtain ⟨z0, z1, z2, z3, z4, z5, z6, z7⟩ := cmd_cells HR0.out HUr.out
        by_cases hlt : j < c.ps.length
        · have hI : (j : Int) < (c.ps.length : Int) := by omega
          obtain ⟨b, o, hb, hcell⟩ := (HI.out.ps.upd HUr.out (fun _ _ h => h)).at (by omega) (by decide)
          rw [hb] at z3 ⊢
          have q0 := hcell j (sv c.ps[j]) (by simp [List.getElem?_map, List.getElem?_eq_getElem hlt])
          have hs1 := any_take_succ badPa c.ps j hlt
          rw [hA.out, Bool.false_or] at hs1
          have hall := any_of_take badPa c.ps (j + 1)
          rw [hs1] at hall
          have hbp : badPa c.ps[j] = !pathL c.ps[j] := rfl
          have hcal := r11Path_any c.ps[j] wr
          have HS := Lib.hid hs1
          have HALL := Lib.hid hall
          have HBP := Lib.hid hbp
          unfold sv at q0 hcal
          clear hs1 hall hA hcell hbp z0 z1 z2 z4 z5 z6 z7
          generalize badPa c.ps[j] = bd at *
          generalize c.ps[j] = p at *
          cases hp : pathL p with
          | false =>
            rw [hp] at hcal HBP
            have HR : Hid (rightL c = 11) := Lib.hid (by rw [HD2.out, if_pos (by rw [HPL.out, HALL.out HBP.out]; simp)])
            clear hp HALL HS
            go_wp2_with fail
            refine hcal.mono ?_
            rintro e w2 ⟨rfl, hU⟩
            have HU2 := Lib.hid (HU.out.trans (HUr.out.trans hU))
            clear hU hcal q0 z3
            go_wp2_with fail
            go_ret
            exact ⟨by rw [HR.out]; rfl, HU2.out⟩
          | true =>
            rw [hp] at hcal HBP
            have HN : Hid ((c.ps.take (j + 1)).any badPa = false) := Lib.hid (by rw [HS.out, HBP.out]; rfl)
            clear hp HALL HS
            go_wp2_with fail
            refine hcal.mono ?_
            rintro e w2 ⟨rfl, hU⟩
            have HU2 := Lib.hid (HUr.out.trans hU)
            clear hU hcal q0 z3
            go_wp2_with fail
            go_roundw
            case rel => exact ⟨j + 1, by omega, by first | rfl | go_num, HN, HU2⟩
            case measure => simp [intOf]; omega
        · obtain rfl : j = c.ps.length := by omega
          have h0 := hA.out
          rw [List.take_length] at h0
          have hpa : pathsL c = true := by rw [HPL.out, H0.out, h0]; rfl
          have HD3 : Hid (rightL c = if (c.kind = 12 ∨ c.kind = 13) ∧ nameL c.name = false then 24 else if c.kind = 4 ∧ (c.count < 2 ∨ 100 < c.count) then 1 else 0) := Lib.hid (by rw [HD2.out, if_neg (by rw [hpa]; simp)])
          have hname := r25name_any c.name wr hnm
          unfold sv at hname
          clear h0 hA hpa HD2 z1 z2 z5 z6
          by_cases hm : c.kind = 12 ∨ c.kind = 13
          · cases hnn : nameL c.name with
            | false =>
              rw [hnn] at hname HD3
              have HR : Hid (rightL c = 24) := Lib.hid (by rw [HD3.out, if_pos ⟨hm, rfl⟩])
              clear hnn HD3
              rcases hm with hm | hm
              all_goals
                rw [hm] at z0
                go_wp2_with fail
                refine hname.mono ?_
                rintro e w2 ⟨rfl, rfl⟩
                go_wp2_with fail
                go_ret
                exact ⟨by rw [HR.out]; rfl, HU.out.trans HUr.out⟩
            | true =>
              rw [hnn] at hname HD3
              have HR : Hid (rightL c = 0) := Lib.hid (by rw [HD3.out, if_neg (by simp), if_neg (by omega)])
              clear hnn HD3
              rcases hm with hm | hm
              all_goals
                rw [hm] at z0
                go_wp2_with fail
                refine hname.mono ?_
                rintro e w2 ⟨rfl, rfl⟩
                go_wp2_with fail
                go_ret
                exact ⟨by rw [HR.out]; rfl, HU.out.trans HUr.out⟩
          · have e12 : (c.kind == 12) = false := by rw [beq_eq_false_iff_ne]; omega
            have e13 : (c.kind == 13) = false := by rw [beq_eq_false_iff_ne]; omega
            have HD4 : Hid (rightL c = if c.kind = 4 ∧ (c.count < 2 ∨ 100 < c.count) then 1 else 0) := Lib.hid (by rw [HD3.out, if_neg (fun h => hm h.1)])
            clear HD3 hname
            by_cases h4 : c.kind = 4
            · have e4 : (c.kind == 4) = true := by rw [beq_iff_eq]; exact h4
              by_cases hc1 : c.count < 2
              · have HR : Hid (rightL c = 1) := Lib.hid (by rw [HD4.out, if_pos ⟨h4, .inl hc1⟩])
                clear HD4 h4 hm
                go_wp2_with fail
                go_ret
                exact ⟨by rw [HR.out]; rfl, HU.out.trans HUr.out⟩
              · have hd1 : decide (c.count < 2) = false := by rw [decide_eq_false_iff_not]; omega
                by_cases hc2 : 100 < c.count
                · have HR : Hid (rightL c = 1) := Lib.hid (by rw [HD4.out, if_pos ⟨h4, .inr hc2⟩])
                  clear HD4 h4 hm
                  go_wp2_with fail
                  go_ret
                  exact ⟨by rw [HR.out]; rfl, HU.out.trans HUr.out⟩
                · have hd2 : decide (100 < c.count) = false := by rw [decide_eq_false_iff_not]; omega
                  have HR : Hid (rightL c = 0) := Lib.hid (by rw [HD4.out, if_neg (by omega)])
                  clear HD4 h4 hm
                  go_wp2_with fail
                  go_ret
                  exact ⟨by rw [HR.out]; rfl, HU.out.trans HUr.out⟩
            · have e4 : (c.kind == 4) = false := by rw [beq_eq_false_iff_ne]; exact h4
              have HR : Hid (rightL c = 0) := Lib.hid (by rw [HD4.out, if_neg (fun h => h4 h.1)])
              clear HD4 h4 hm
              go_wp2_with fail
              go_ret
              exact ⟨by rw [HR.out]; rfl, HU.out.trans HUr.out⟩
end Go.Proofs.YteefceainlfdfaaDoor
