
/- Changes, and texts, held against each other: equal ones. -/
import Derived.Test.YteefceainlfdfaaDoorCmd4
namespace Go.Proofs.YteefceainlfdfaaDoor
set_option linter.unusedSimpArgs false
set_option linter.unusedVariables false
set_option maxRecDepth 100000
open Go.ChangeShapes Go.WideShapes Go.ChangeAt Go.RowKit

theorem eqlS_any (x : List UInt8) (w : World) : Calls Tryd.prog 104 #[sv x, sv x] w fun e w' => e = .returned (.bool true) ∧ w = w' := by
  unfold sv
  go_enter Tryd.func104, Tryd.ntmps104
  go_wp2_with fail
  go_ret
  exact ⟨rfl, rfl⟩
set_option maxHeartbeats 2000000 in
theorem sameS_any (a a2 : Option Addr) (c c2 : Nat) (l : List (List UInt8)) (w : World) (hv : Vw w a l.length c 1 (l.map sv)) (hv2 : Vw w a2 l.length c2 1 (l.map sv)) :
    Calls Tryd.prog 103 #[.slice a l.length c, .slice a2 l.length c2, .func (.func 104) #[] #[]] w fun e w' => e = .returned (.bool true) ∧ Upd (fun _ => False) w w' := by
  have hcap := hv.cap
  have hlc := hv.le
  unfold maxLen at hcap
  have HV := Lib.hid (And.intro hv hv2)
  clear hv hv2
  have hb : ((l.length : Int) != (l.length : Int)) = false := by simp
  go_enter Tryd.func103, Tryd.ntmps103
  go_wp2_with fail
  clear hb
  go_loopw [7] (fun i wr => ∃ j : Nat, j ≤ l.length ∧ i = .int .i64 (j : Int) ∧ Upd (fun _ => False) w wr) (fun i _ => l.length - (intOf i).toNat)
  case atStart => exact ⟨0, Nat.zero_le _, rfl, Upd.refl _ _⟩
  case round =>
    obtain ⟨j, hj, rfl, hU⟩ := hrel
    by_cases hlt : j < l.length
    · have hI : (j : Int) < (l.length : Int) := by omega
      have hI0 : (0 : Int) ≤ (j : Int) := by omega
      obtain ⟨b, o, hb, hcell⟩ := (HV.out.1.upd hU (fun _ _ h => h)).at (by omega) (by decide)
      obtain ⟨b2, o2, hb2, hcell2⟩ := (HV.out.2.upd hU (fun _ _ h => h)).at (by omega) (by decide)
      subst hb hb2
      have q1 := hcell j (sv l[j]) (by simp [List.getElem?_map, List.getElem?_eq_getElem hlt])
      have q2 := hcell2 j (sv l[j]) (by simp [List.getElem?_map, List.getElem?_eq_getElem hlt])
      have heq := fun w => eqlS_any l[j] w
      unfold sv at q1 q2 heq
      have HS := Lib.hid (And.intro q1 q2)
      have HU := Lib.hid hU
      have HEQ := Lib.hid heq
      clear hcell hcell2 hU q1 q2 heq
      generalize l[j] = x at *
      go_upto_region 6 with (fail)
      refine wp_region_plan_last [([0, 1, 2, 3, 4, 5, 6, 7, 8], 9)] [10] (fun w' => w'.cell? ⟨b, o + j, none⟩ = some (.string (str x)) ∧ w'.cell? ⟨b2, o2 + j, none⟩ = some (.string (str x))) (by kernel_rfl) (by kernel_rfl) HS.out ?_
      iterate 9
        refine plan_take (v := ?_) rfl rfl (fun w' hS => ?_) ?_
        rotate_left
        · skip
          go_simp; try with_reducible rfl
        simp only [Act.put, List.getElem_toArray, List.getElem_cons_zero, List.getElem_cons_succ, List.setIfInBounds_toArray, List.set_cons_zero, List.set_cons_succ]
      refine plan_act rfl (fun KK hKK => ?_)
      go_wp2_with fail
      refine (HEQ.out _).mono ?_
      rintro e w2 ⟨rfl, rfl⟩
      go_wp2_with fail
      refine hKK.out _ _ (.inr HS.out) ?_
      iterate 1
        refine plan_last (v := ?_) rfl rfl (fun w' hS => ?_) ?_
        rotate_left
        · skip
          go_simp; try with_reducible rfl
        simp only [Act.put, List.getElem_toArray, List.getElem_cons_zero, List.getElem_cons_succ, List.setIfInBounds_toArray, List.set_cons_zero, List.set_cons_succ]
      refine plan_end ?_
      go_wp2_with fail
      go_roundw
      case rel => exact ⟨j + 1, by omega, by first | rfl | go_num, HU.out.trans (Upd.drew _ _)⟩
      case measure => simp [intOf]; omega
    · obtain rfl : j = l.length := by omega
      go_wp2_with fail
      go_ret
      exact ⟨rfl, hU⟩
theorem plainS_any (a a2 : Option Addr) (c c2 : Nat) (l : List (List UInt8)) (w : World) (hv : Vw w a l.length c 1 (l.map sv)) (hv2 : Vw w a2 l.length c2 1 (l.map sv)) :
    Calls Tryd.prog 77 #[.slice a l.length c, .slice a2 l.length c2] w fun e w' => e = .returned (.bool true) ∧ Upd (fun _ => False) w w' := by
  have h := sameS_any a a2 c c2 l w hv hv2
  go_enter Tryd.func77, Tryd.ntmps77
  go_wp2_with fail
  refine h.mono ?_
  rintro e w1 ⟨rfl, hU⟩
  go_wp2_with fail
  go_ret
  exact ⟨rfl, hU⟩
end Go.Proofs.YteefceainlfdfaaDoor
