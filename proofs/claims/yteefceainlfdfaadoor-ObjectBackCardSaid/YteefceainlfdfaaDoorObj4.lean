
/- The reference's 'entries'. -/
import Derived.Test.YteefceainlfdfaaDoorObj3
namespace Go.Proofs.YteefceainlfdfaaDoor
set_option linter.unusedSimpArgs false
set_option linter.unusedVariables false
set_option maxRecDepth 100000
open Go.ChangeShapes Go.WideShapes Go.ChangeAt Go.RowKit

set_option maxHeartbeats 4000000 in
theorem r15entries_any (a : Option Addr) (c : Nat) (l : List Ent) (w : World) (hv : Vw w a l.length c 34 (l.flatMap entV)) :
    Calls Tryd.prog 52 #[.slice a l.length c] w fun e w' => e = .returned (.bool (treeL l)) ∧ Upd (fun _ => False) w w' := by
  have hcap := hv.cap
  have hlc := hv.le
  unfold maxLen at hcap
  have HV := Lib.hid hv
  clear hv
  by_cases h100 : l.length ≤ 100
  case neg =>
    have hI : (100 : Int) < (l.length : Int) := by omega
    have hT : Hid (treeL l = false) := by show _ = _; unfold treeL; rw [decide_eq_false h100]; rfl
    clear h100
    go_enter Tryd.func52, Tryd.ntmps52
    go_wp2_with fail
    go_ret
    exact ⟨by rw [hT.out]; rfl, Upd.refl _ _⟩
  have hI1 : decide ((100 : Int) < (l.length : Int)) = false := by rw [decide_eq_false_iff_not]; omega
  have hT : Hid (treeL l = !(List.range l.length).any (badAt l)) := by show _ = _; unfold treeL; rw [decide_eq_true h100]; rfl
  go_enter Tryd.func52, Tryd.ntmps52
  go_wp2_with fail
  clear hI1
  go_loopw [3] (fun i wr => ∃ j : Nat, j ≤ l.length ∧ i = .int .i64 (j : Int) ∧ Hid ((List.range j).any (badAt l) = false) ∧ Upd (fun _ => False) w wr) (fun i _ => l.length - (intOf i).toNat)
  case atStart => exact ⟨0, Nat.zero_le _, rfl, (by show _ = _; simp), Upd.refl _ _⟩
  case round =>
    obtain ⟨j, hj, rfl, hA, hU⟩ := hrel
    by_cases hlt : j < l.length
    · have hI : (j : Int) < (l.length : Int) := by omega
      obtain ⟨b, o, hb, hcell⟩ := ent_at HV.out (by omega)
      subst hb
      have HCE : Hid (∀ w', Upd (fun _ => False) w w' → ∀ k (hk : k < l.length), w'.cell? ⟨b, o + k * 34, none⟩ = some (.string (str l[k].path))) := Lib.hid (fun w' h k hk => by
        have := ent_path (hcell k hk)
        exact (h.cell (p := ⟨b, o + k * 34, none⟩) (World.block_lt_of_cell? w _ this) (fun h => h)).trans this)
      have HCX := Lib.hid (fun w' h => HCE.out w' h j hlt)
      have hs := range_any_succ (badAt l) j
      rw [hA.out, Bool.false_or] at hs
      have hbad : badAt l j = (!pathL l[j].path || (decide (0 < j) && leS l[j].path ((l[j - 1]?.map (·.path)).getD [])) || (l.take j).any (clashWith l[j].path)) := by
        unfold badAt; rw [List.getElem?_eq_getElem hlt]
      have hpr : ∀ (h1 : 0 < j), (l[j - 1]?.map (·.path)).getD [] = (l[j - 1]'(by omega)).path := fun h1 => by
        rw [List.getElem?_eq_getElem (show j - 1 < l.length by omega)]; rfl
      have HSH := Lib.hid (taken_short l j hj hA.out)
      have hall : badAt l j = true → Hid ((List.range l.length).any (badAt l) = true) := fun h => Lib.hid (range_any_le (badAt l) (j + 1) l.length (by omega) (by rw [hs, h]))
      have HS := Lib.hid hs
      have HALL := Lib.hid hall
      have HBAD := Lib.hid hbad
      have HPR := Lib.hid hpr
      have hxlen : pathL l[j].path = true → l[j].path.length ≤ 100 := pathL_len _
      have HXL := Lib.hid hxlen
      clear hcell hs hall hbad hpr hxlen hA
      generalize l[j] = x at *
      have HRI : Hid (∀ w, Calls Tryd.prog 13 #[.string (str x.path)] w fun e w' => e = .returned (.bool (pathL x.path)) ∧ Upd (fun _ => False) w w') := Lib.hid (fun w => r11Path_any x.path w)
      have HU := Lib.hid hU
      have HQ := Lib.hid (HCX.out wr hU)
      clear hU
      cases hP : pathL x.path with
      | false =>
        have HR := HALL.out (by rw [HBAD.out, hP]; rfl)
        rw [hP] at HRI
        go_upto_region 6 with (fail)
        refine wp_region_plan_last [([0, 1, 2, 3, 4], 5)] [6, 7, 8, 9, 10, 11, 12, 13, 14, 15, 16, 17, 18, 19, 20, 21, 22, 23, 24] (fun w' => w'.cell? ⟨b, o + j * 34, none⟩ = some (.string (str x.path))) (by kernel_rfl) (by kernel_rfl) HQ.out ?_
        iterate 5
          first
          | (refine plan_skip rfl rfl ?_)
          | (refine plan_take (v := ?_) rfl rfl (fun w' hS => ?_) ?_
             rotate_left
             · skip
               go_simp; try with_reducible rfl)
          simp only [Act.put, List.getElem_toArray, List.getElem_cons_zero, List.getElem_cons_succ, List.setIfInBounds_toArray, List.set_cons_zero, List.set_cons_succ]
        refine plan_act rfl (fun KK hKK => ?_)
        go_wp2_with fail
        refine (HRI.out _).mono ?_
        rintro e w2 ⟨rfl, hU2⟩
        have hq2 := (hU2.cell (p := ⟨b, o + j * 34, none⟩) (World.block_lt_of_cell? _ _ HQ.out) (fun h => h)).trans HQ.out
        have hU3 := (HU.out.trans (Upd.drew _ _)).trans hU2
        have HU3 := Lib.hid hU3
        have HQ2 := Lib.hid hq2
        clear hU2 hU3 hq2
        go_wp2_with fail
        refine hKK.out _ _ (.inr HQ2.out) ?_
        iterate 19
          first
          | (refine plan_lskip rfl rfl ?_)
          | (refine plan_last (v := ?_) rfl rfl (fun w' hS => ?_) ?_
             rotate_left
             · skip
               go_simp; try with_reducible rfl)
          simp only [Act.put, List.getElem_toArray, List.getElem_cons_zero, List.getElem_cons_succ, List.setIfInBounds_toArray, List.set_cons_zero, List.set_cons_succ]
        refine plan_end ?_
        go_wp2_with fail
        go_ret
        exact ⟨by rw [hT.out, HR.out]; rfl, HU3.out⟩
      | true =>
        rw [hP] at HRI
        have hBAD := HBAD.out
        rw [hP] at hBAD
        simp only [Bool.not_true, Bool.false_or] at hBAD
        have HBAD := Lib.hid hBAD
        have hxl := HXL.out hP
        clear hBAD HXL
        by_cases h0 : 0 < j
        · have hpv := HCE.out wr HU.out (j - 1) (by omega)
          rw [← HPR.out h0] at hpv
          have hj1 : (j : Int) - 1 = ((j - 1 : Nat) : Int) := by omega
          have hj2 : j - 1 < l.length := by omega
          rw [decide_eq_true h0, Bool.true_and] at HBAD
          generalize (l[j - 1]?.map (·.path)).getD [] = pr at *
          generalize j - 1 = m at hpv hj1 hj2
          have hwj : IntKind.i64.wrap (m : Int) = (m : Int) := IntWalk.i64_in _ (by omega)
          have hj3 : (m : Int) < (l.length : Int) := by omega
          have HQ1 := Lib.hid hpv
          have hI0 : (0 : Int) < (j : Int) := by omega
          have HLQ : Hid ((Op.bytesLess x.path pr || x.path == pr) = leS x.path pr) := Lib.hid rfl
          clear hpv
          generalize leS x.path pr = le at *
          cases le with
          | true =>
            have HR := HALL.out (by rw [HBAD.out]; rfl)
            go_upto_region 6 with (fail)
            refine wp_region_plan_last [([0, 1, 2, 3, 4], 5)] [6, 7, 8, 9, 10, 11, 12, 13, 14, 15, 16, 17, 18, 19, 20, 21, 22, 23, 24] (fun w' => w'.cell? ⟨b, o + j * 34, none⟩ = some (.string (str x.path)) ∧ w'.cell? ⟨b, o + m * 34, none⟩ = some (.string (str pr))) (by kernel_rfl) (by kernel_rfl) ⟨HQ.out, HQ1.out⟩ ?_
            iterate 5
              first
              | (refine plan_skip rfl rfl ?_)
              | (refine plan_take (v := ?_) rfl rfl (fun w' hS => ?_) ?_
                 rotate_left
                 · skip
                   go_simp; try with_reducible rfl)
              simp only [Act.put, List.getElem_toArray, List.getElem_cons_zero, List.getElem_cons_succ, List.setIfInBounds_toArray, List.set_cons_zero, List.set_cons_succ]
            refine plan_act rfl (fun KK hKK => ?_)
            go_wp2_with fail
            refine (HRI.out _).mono ?_
            rintro e w2 ⟨rfl, hU2⟩
            have hq2 := (hU2.cell (p := ⟨b, o + j * 34, none⟩) (World.block_lt_of_cell? _ _ HQ.out) (fun h => h)).trans HQ.out
            have hq3 := (hU2.cell (p := ⟨b, o + m * 34, none⟩) (World.block_lt_of_cell? _ _ HQ1.out) (fun h => h)).trans HQ1.out
            have hU3 := (HU.out.trans (Upd.drew _ _)).trans hU2
            have HU3 := Lib.hid hU3
            have HQ2 := Lib.hid (And.intro hq2 hq3)
            clear hU2 hU3 hq2 hq3
            go_wp2_with fail
            refine hKK.out _ _ (.inr HQ2.out) ?_
            iterate 19
              first
              | (refine plan_lskip rfl rfl ?_)
              | (refine plan_last (v := ?_) rfl rfl (fun w' hS => ?_) ?_
                 rotate_left
                 · skip
                   go_simp; try with_reducible rfl)
              simp only [HLQ.out, Act.put, List.getElem_toArray, List.getElem_cons_zero, List.getElem_cons_succ, List.setIfInBounds_toArray, List.set_cons_zero, List.set_cons_succ]
            refine plan_end ?_
            go_wp2_with fail
            go_ret
            exact ⟨by rw [hT.out, HR.out]; rfl, HU3.out⟩
          | false =>
            rw [Bool.false_or] at HBAD
            go_upto_region 6 with (fail)
            refine wp_region_plan_last [([0, 1, 2, 3, 4], 5)] [6, 7, 8, 9, 10, 11, 12, 13, 14, 15, 16, 17, 18, 19, 20, 21, 22, 23, 24] (fun w' => w'.cell? ⟨b, o + j * 34, none⟩ = some (.string (str x.path)) ∧ w'.cell? ⟨b, o + m * 34, none⟩ = some (.string (str pr))) (by kernel_rfl) (by kernel_rfl) ⟨HQ.out, HQ1.out⟩ ?_
            iterate 5
              first
              | (refine plan_skip rfl rfl ?_)
              | (refine plan_take (v := ?_) rfl rfl (fun w' hS => ?_) ?_
                 rotate_left
                 · skip
                   go_simp; try with_reducible rfl)
              simp only [Act.put, List.getElem_toArray, List.getElem_cons_zero, List.getElem_cons_succ, List.setIfInBounds_toArray, List.set_cons_zero, List.set_cons_succ]
            refine plan_act rfl (fun KK hKK => ?_)
            go_wp2_with fail
            refine (HRI.out _).mono ?_
            rintro e w2 ⟨rfl, hU2⟩
            have hq2 := (hU2.cell (p := ⟨b, o + j * 34, none⟩) (World.block_lt_of_cell? _ _ HQ.out) (fun h => h)).trans HQ.out
            have hq3 := (hU2.cell (p := ⟨b, o + m * 34, none⟩) (World.block_lt_of_cell? _ _ HQ1.out) (fun h => h)).trans HQ1.out
            have hU3 := (HU.out.trans (Upd.drew _ _)).trans hU2
            have HU3 := Lib.hid hU3
            have HQ2 := Lib.hid (And.intro hq2 hq3)
            clear hU2 hU3 hq2 hq3
            go_wp2_with fail
            refine hKK.out _ _ (.inr HQ2.out) ?_
            iterate 19
              first
              | (refine plan_lskip rfl rfl ?_)
              | (refine plan_last (v := ?_) rfl rfl (fun w' hS => ?_) ?_
                 rotate_left
                 · skip
                   go_simp; try with_reducible rfl)
              simp only [HLQ.out, Act.put, List.getElem_toArray, List.getElem_cons_zero, List.getElem_cons_succ, List.setIfInBounds_toArray, List.set_cons_zero, List.set_cons_succ]
            refine plan_end ?_
            go_wp2_with fail
            clear HQ HQ1 HQ2 HLQ hwj hj1 hj2 hj3 hI0 HPR HRI
            go_loopw [4] (fun i wy => ∃ k : Nat, k ≤ j ∧ i = .int .i64 (k : Int) ∧ Hid ((l.take k).any (clashWith x.path) = false) ∧ Upd (fun _ => False) w wy) (fun i _ => j - (intOf i).toNat)
            case atStart => exact ⟨0, Nat.zero_le _, rfl, Lib.hid (by simp), HU3.out⟩
            case round =>
              obtain ⟨k, hk, rfl, hA, hU4⟩ := hrel
              by_cases hkj : k < j
              · have hI2 : (k : Int) < (j : Int) := by omega
                have hkl : (k : Int) < (l.length : Int) := by omega
                have hv := HV.out.upd hU4 (fun _ _ h => h)
                have hq1 := HCE.out _ hU4 k (by omega)
                have hq0 := HCX.out _ hU4
                have hs := any_take_succ (clashWith x.path) l k (by omega)
                rw [hA.out, Bool.false_or] at hs
                have hcw : clashWith x.path (l[k]'(by omega)) = clashL (l[k]'(by omega)).path x.path := rfl
                rw [hcw] at hs
                have hsh := HSH.out (l[k]'(by omega)) (by rw [List.mem_take_iff_getElem]; exact ⟨k, by omega, rfl⟩)
                have hcl := fun w => r11Clash_any (l[k]'(by omega)).path x.path w (by omega) (by omega)
                have hmono := any_of_take (clashWith x.path) (l.take j) (k + 1)
                rw [List.take_take, Nat.min_eq_left (show k + 1 ≤ j by omega), hs] at hmono
                have HMO := Lib.hid hmono
                have HS2 := Lib.hid hs
                clear hcw hs hA hv hmono
                generalize clashL (l[k]'(by omega)).path x.path = cl at *
                generalize (l[k]'(by omega)).path = pk at *
                unfold sv at hcl
                have HC := Lib.hid hcl
                have HQ := Lib.hid (And.intro hq0 hq1)
                have HU4 := Lib.hid hU4
                clear hcl hq0 hq1 hsh hU4
                go_upto_region 11 with (fail)
                refine wp_region_plan_last [([0, 1, 2, 3, 4, 5, 6, 7, 8, 9], 10)] [] (fun w' => w'.cell? ⟨b, o + j * 34, none⟩ = some (.string (str x.path)) ∧ w'.cell? ⟨b, o + k * 34, none⟩ = some (.string (str pk))) (by kernel_rfl) (by kernel_rfl) HQ.out ?_
                iterate 10
                  first
                  | (refine plan_skip rfl rfl ?_)
                  | (refine plan_take (v := ?_) rfl rfl (fun w' hS => ?_) ?_
                     rotate_left
                     · skip
                       go_simp; try with_reducible rfl)
                  simp only [Act.put, List.getElem_toArray, List.getElem_cons_zero, List.getElem_cons_succ, List.setIfInBounds_toArray, List.set_cons_zero, List.set_cons_succ]
                refine plan_act rfl (fun KK hKK => ?_)
                go_wp2_with fail
                refine (HC.out _).mono ?_
                rintro e w4 ⟨rfl, rfl⟩
                cases cl with
                | true =>
                  have HR := HALL.out (by rw [HBAD.out, HMO.out rfl])
                  go_wp2_with fail
                  refine hKK.out _ _ (.inr HQ.out) ?_
                  refine plan_end ?_
                  go_wp2_with fail
                  go_ret
                  exact ⟨by rw [hT.out, HR.out]; rfl, HU4.out.trans (Upd.drew _ _)⟩
                | false =>
                  go_wp2_with fail
                  refine hKK.out _ _ (.inr HQ.out) ?_
                  refine plan_end ?_
                  go_wp2_with fail
                  go_roundw
                  case rel => exact ⟨k + 1, by omega, by first | rfl | go_num, HS2, HU4.out.trans (Upd.drew _ _)⟩
                  case measure => simp [intOf]; omega
              · obtain rfl : k = j := by omega
                have hno := hA.out
                have HBN : Hid (badAt l k = false) := Lib.hid (by rw [HBAD.out, hno])
                have HU4 := Lib.hid hU4
                clear hno hA hU4
                go_wp2_with fail
                go_roundw
                case rel => exact ⟨k + 1, by omega, by first | rfl | go_num, Lib.hid (by rw [HS.out, HBN.out]), HU4.out⟩
                case measure => simp [intOf]; omega
        · have hI0 : decide ((0 : Int) < (j : Int)) = false := by rw [decide_eq_false_iff_not]; omega
          rw [decide_eq_false h0, Bool.false_and, Bool.false_or] at HBAD
          go_upto_region 6 with (fail)
          refine wp_region_plan_last [([0, 1, 2, 3, 4], 5)] [6, 7, 8, 9, 10, 11, 12, 13, 14, 15, 16, 17, 18, 19, 20, 21, 22, 23, 24] (fun w' => w'.cell? ⟨b, o + j * 34, none⟩ = some (.string (str x.path))) (by kernel_rfl) (by kernel_rfl) HQ.out ?_
          iterate 5
            first
            | (refine plan_skip rfl rfl ?_)
            | (refine plan_take (v := ?_) rfl rfl (fun w' hS => ?_) ?_
               rotate_left
               · skip
                 go_simp; try with_reducible rfl)
            simp only [Act.put, List.getElem_toArray, List.getElem_cons_zero, List.getElem_cons_succ, List.setIfInBounds_toArray, List.set_cons_zero, List.set_cons_succ]
          refine plan_act rfl (fun KK hKK => ?_)
          go_wp2_with fail
          refine (HRI.out _).mono ?_
          rintro e w2 ⟨rfl, hU2⟩
          have hU3 := (HU.out.trans (Upd.drew _ _)).trans hU2
          have hq2 := (hU2.cell (p := ⟨b, o + j * 34, none⟩) (World.block_lt_of_cell? _ _ HQ.out) (fun h => h)).trans HQ.out
          have HU3 := Lib.hid hU3
          have HQ2 := Lib.hid hq2
          clear hU2 hU3 hq2
          go_wp2_with fail
          refine hKK.out _ _ (.inr HQ2.out) ?_
          iterate 19
            first
            | (refine plan_lskip rfl rfl ?_)
            | (refine plan_last (v := ?_) rfl rfl (fun w' hS => ?_) ?_
               rotate_left
               · skip
                 go_simp; try with_reducible rfl)
            simp only [Act.put, List.getElem_toArray, List.getElem_cons_zero, List.getElem_cons_succ, List.setIfInBounds_toArray, List.set_cons_zero, List.set_cons_succ]
          refine plan_end ?_
          go_wp2_with fail
          clear HQ HQ2 hI0 HPR HRI
          go_loopw [4] (fun i wy => ∃ k : Nat, k ≤ j ∧ i = .int .i64 (k : Int) ∧ Hid ((l.take k).any (clashWith x.path) = false) ∧ Upd (fun _ => False) w wy) (fun i _ => j - (intOf i).toNat)
          case atStart => exact ⟨0, Nat.zero_le _, rfl, Lib.hid (by simp), HU3.out⟩
          case round =>
            obtain ⟨k, hk, rfl, hA, hU4⟩ := hrel
            by_cases hkj : k < j
            · have hI2 : (k : Int) < (j : Int) := by omega
              have hkl : (k : Int) < (l.length : Int) := by omega
              have hv := HV.out.upd hU4 (fun _ _ h => h)
              have hq1 := HCE.out _ hU4 k (by omega)
              have hq0 := HCX.out _ hU4
              have hs := any_take_succ (clashWith x.path) l k (by omega)
              rw [hA.out, Bool.false_or] at hs
              have hcw : clashWith x.path (l[k]'(by omega)) = clashL (l[k]'(by omega)).path x.path := rfl
              rw [hcw] at hs
              have hsh := HSH.out (l[k]'(by omega)) (by rw [List.mem_take_iff_getElem]; exact ⟨k, by omega, rfl⟩)
              have hcl := fun w => r11Clash_any (l[k]'(by omega)).path x.path w (by omega) (by omega)
              have hmono := any_of_take (clashWith x.path) (l.take j) (k + 1)
              rw [List.take_take, Nat.min_eq_left (show k + 1 ≤ j by omega), hs] at hmono
              have HMO := Lib.hid hmono
              have HS2 := Lib.hid hs
              clear hcw hs hA hv hmono
              generalize clashL (l[k]'(by omega)).path x.path = cl at *
              generalize (l[k]'(by omega)).path = pk at *
              unfold sv at hcl
              have HC := Lib.hid hcl
              have HQ := Lib.hid (And.intro hq0 hq1)
              have HU4 := Lib.hid hU4
              clear hcl hq0 hq1 hsh hU4
              go_upto_region 11 with (fail)
              refine wp_region_plan_last [([0, 1, 2, 3, 4, 5, 6, 7, 8, 9], 10)] [] (fun w' => w'.cell? ⟨b, o + j * 34, none⟩ = some (.string (str x.path)) ∧ w'.cell? ⟨b, o + k * 34, none⟩ = some (.string (str pk))) (by kernel_rfl) (by kernel_rfl) HQ.out ?_
              iterate 10
                first
                | (refine plan_skip rfl rfl ?_)
                | (refine plan_take (v := ?_) rfl rfl (fun w' hS => ?_) ?_
                   rotate_left
                   · skip
                     go_simp; try with_reducible rfl)
                simp only [Act.put, List.getElem_toArray, List.getElem_cons_zero, List.getElem_cons_succ, List.setIfInBounds_toArray, List.set_cons_zero, List.set_cons_succ]
              refine plan_act rfl (fun KK hKK => ?_)
              go_wp2_with fail
              refine (HC.out _).mono ?_
              rintro e w4 ⟨rfl, rfl⟩
              cases cl with
              | true =>
                have HR := HALL.out (by rw [HBAD.out, HMO.out rfl])
                go_wp2_with fail
                refine hKK.out _ _ (.inr HQ.out) ?_
                refine plan_end ?_
                go_wp2_with fail
                go_ret
                exact ⟨by rw [hT.out, HR.out]; rfl, HU4.out.trans (Upd.drew _ _)⟩
              | false =>
                go_wp2_with fail
                refine hKK.out _ _ (.inr HQ.out) ?_
                refine plan_end ?_
                go_wp2_with fail
                go_roundw
                case rel => exact ⟨k + 1, by omega, by first | rfl | go_num, HS2, HU4.out.trans (Upd.drew _ _)⟩
                case measure => simp [intOf]; omega
            · obtain rfl : k = j := by omega
              have hno := hA.out
              have HBN : Hid (badAt l k = false) := Lib.hid (by rw [HBAD.out, hno])
              have HU4 := Lib.hid hU4
              clear hno hA hU4
              go_wp2_with fail
              go_roundw
              case rel => exact ⟨k + 1, by omega, by first | rfl | go_num, Lib.hid (by rw [HS.out, HBN.out]), HU4.out⟩
              case measure => simp [intOf]; omega
    · obtain rfl : j = l.length := by omega
      have hA2 := hA.out
      have HA := Lib.hid hA2
      clear hA2 hA
      go_wp2_with fail
      go_ret
      exact ⟨by rw [hT.out, HA.out]; rfl, hU⟩
end Go.Proofs.YteefceainlfdfaaDoor
