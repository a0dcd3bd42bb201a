
/- Lists of entries held against each other. -/
import Derived.Test.YteefceainlfdfaaDoorObj11
namespace Go.Proofs.YteefceainlfdfaaDoor
set_option linter.unusedSimpArgs false
set_option linter.unusedVariables false
set_option maxRecDepth 100000
open Go.ChangeShapes Go.WideShapes Go.ChangeAt Go.RowKit

set_option maxHeartbeats 2000000 in
theorem sameE_any (a a2 : Option Addr) (c c2 : Nat) (l : List Ent) (w : World) (hv : Vw w a l.length c 34 (l.flatMap entV)) (hv2 : Vw w a2 l.length c2 34 (l.flatMap entV)) :
    Calls Tryd.prog 82 #[.slice a l.length c, .slice a2 l.length c2, .func (.func 83) #[] #[]] w fun e w' => e = .returned (.bool true) ∧ Upd (fun _ => False) w w' := by
  have hcap := hv.cap
  have hlc := hv.le
  unfold maxLen at hcap
  have HV := Lib.hid (And.intro hv hv2)
  clear hv hv2
  have hb : ((l.length : Int) != (l.length : Int)) = false := by simp
  go_enter Tryd.func82, Tryd.ntmps82
  go_wp2_with fail
  clear hb
  go_loopw [7] (fun i wr => ∃ j : Nat, j ≤ l.length ∧ i = .int .i64 (j : Int) ∧ Upd (fun _ => False) w wr) (fun i _ => l.length - (intOf i).toNat)
  case atStart => exact ⟨0, Nat.zero_le _, rfl, Upd.refl _ _⟩
  case round =>
    obtain ⟨j, hj, rfl, hU⟩ := hrel
    by_cases hlt : j < l.length
    · have hI : (j : Int) < (l.length : Int) := by omega
      have hI0 : (0 : Int) ≤ (j : Int) := by omega
      obtain ⟨b, o, hb, hcell⟩ := ent_at (HV.out.1.upd hU (fun _ _ h => h)) (by omega)
      obtain ⟨b2, o2, hb2, hcell2⟩ := ent_at (HV.out.2.upd hU (fun _ _ h => h)) (by omega)
      subst hb hb2
      have HS := Lib.hid (And.intro (hcell j hlt) (hcell2 j hlt))
      have HU := Lib.hid hU
      clear hcell hcell2 hU
      generalize l[j] = x at *
      have heq := fun w => eqlE_any x w
      have HEQ := Lib.hid heq
      clear heq
      go_upto_region 6 with (fail)
      refine wp_region_plan_last [([0, 1, 2, 3, 4, 5, 6, 7, 8], 9)] [10] (fun w' => w'.rangeAt b (o + j * 34) (entV x) ∧ w'.rangeAt b2 (o2 + j * 34) (entV x)) (by kernel_rfl) (by kernel_rfl) HS.out ?_
      iterate 4
        refine plan_take (v := ?_) rfl rfl (fun w' hS => ?_) ?_
        rotate_left
        · skip
          go_simp; try with_reducible rfl
        simp only [Act.put, List.getElem_toArray, List.getElem_cons_zero, List.getElem_cons_succ, List.setIfInBounds_toArray, List.set_cons_zero, List.set_cons_succ]
      refine plan_take (v := .agg (entA x)) rfl rfl (fun w' hS => exec_load_ent (.tmp 22) rfl b (o + j * 34) rfl x hS.1) ?_
      simp only [Act.put, List.getElem_toArray, List.getElem_cons_zero, List.getElem_cons_succ, List.setIfInBounds_toArray, List.set_cons_zero, List.set_cons_succ]
      iterate 3
        refine plan_take (v := ?_) rfl rfl (fun w' hS => ?_) ?_
        rotate_left
        · skip
          go_simp; try with_reducible rfl
        simp only [Act.put, List.getElem_toArray, List.getElem_cons_zero, List.getElem_cons_succ, List.setIfInBounds_toArray, List.set_cons_zero, List.set_cons_succ]
      refine plan_take (v := .agg (entA x)) rfl rfl (fun w' hS => exec_load_ent (.tmp 26) rfl b2 (o2 + j * 34) rfl x hS.2) ?_
      simp only [Act.put, List.getElem_toArray, List.getElem_cons_zero, List.getElem_cons_succ, List.setIfInBounds_toArray, List.set_cons_zero, List.set_cons_succ]
      refine plan_act rfl (fun KK hKK => ?_)
      go_wp2_with fail
      refine (HEQ.out _).mono ?_
      rintro e w2 ⟨rfl, hU2⟩
      have hU3 := (HU.out.trans (Upd.drew (fun _ => False) wr)).trans hU2
      have hU4 := (Upd.drew (fun _ => False) wr).trans hU2
      have HU3 := Lib.hid hU3
      have HS2 := Lib.hid (And.intro (range_upd HS.out.1 hU4 (fun h => h)) (range_upd HS.out.2 hU4 (fun h => h)))
      clear hU2 hU3 hU4
      go_wp2_with fail
      refine hKK.out _ _ (.inr HS2.out) ?_
      iterate 1
        refine plan_last (v := ?_) rfl rfl (fun w' hS => ?_) ?_
        rotate_left
        · skip
          go_simp; try with_reducible rfl
        simp only [Act.put, List.getElem_toArray, List.getElem_cons_zero, List.getElem_cons_succ, List.setIfInBounds_toArray, List.set_cons_zero, List.set_cons_succ]
      refine plan_end ?_
      go_wp2_with fail
      go_roundw
      case rel => exact ⟨j + 1, by omega, by first | rfl | go_num, HU3.out⟩
      case measure => simp [intOf]; omega
    · obtain rfl : j = l.length := by omega
      go_wp2_with fail
      go_ret
      exact ⟨rfl, hU⟩
theorem plainE_any (a a2 : Option Addr) (c c2 : Nat) (l : List Ent) (w : World) (hv : Vw w a l.length c 34 (l.flatMap entV)) (hv2 : Vw w a2 l.length c2 34 (l.flatMap entV)) :
    Calls Tryd.prog 41 #[.slice a l.length c, .slice a2 l.length c2] w fun e w' => e = .returned (.bool true) ∧ Upd (fun _ => False) w w' := by
  have h := sameE_any a a2 c c2 l w hv hv2
  go_enter Tryd.func41, Tryd.ntmps41
  go_wp2_with fail
  refine h.mono ?_
  rintro e w1 ⟨rfl, hU⟩
  go_wp2_with fail
  go_ret
  exact ⟨rfl, hU⟩
end Go.Proofs.YteefceainlfdfaaDoor
