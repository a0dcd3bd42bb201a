
/- Equal changes held against each other. -/
import Derived.Test.YteefceainlfdfaaDoorRc6
namespace Go.Proofs.YteefceainlfdfaaDoor
set_option linter.unusedSimpArgs false
set_option linter.unusedVariables false
set_option maxRecDepth 100000
open Go.ChangeShapes Go.WideShapes Go.ChangeAt Go.RowKit

set_option maxHeartbeats 2000000 in
theorem eqlC_any (x : Chg) (w : World) : Calls Tryd.prog 102 #[.agg #[sv x.path, .bool x.del, .bool x.exec, sv x.text], .agg #[sv x.path, .bool x.del, .bool x.exec, sv x.text]] w fun e w' => e = .returned (.bool true) ∧ Upd (fun _ => False) w w' := by
  obtain ⟨xp, xd, xe, xt⟩ := x
  unfold sv
  have hU := (Upd.alloc (fun _ => False) w (.cells #[.string (str xp), .bool xd, .bool xe, .string (str xt)] 30)).trans (Upd.alloc (fun _ => False) (w.alloc (.cells #[.string (str xp), .bool xd, .bool xe, .string (str xt)] 30)) (.cells #[.string (str xp), .bool xd, .bool xe, .string (str xt)] 30))
  have HU := Lib.hid hU
  clear hU
  go_enter Tryd.func102, Tryd.ntmps102
  go_wp2_with fail
  go_ret
  exact ⟨by first | rfl | simp, HU.out⟩
set_option maxHeartbeats 2000000 in
theorem sameC_any (a a2 : Option Addr) (c c2 : Nat) (l : List Chg) (w : World) (hv : Vw w a l.length c 4 (l.flatMap chV)) (hv2 : Vw w a2 l.length c2 4 (l.flatMap chV)) :
    Calls Tryd.prog 101 #[.slice a l.length c, .slice a2 l.length c2, .func (.func 102) #[] #[]] w fun e w' => e = .returned (.bool true) ∧ Upd (fun _ => False) w w' := by
  have hcap := hv.cap
  have hlc := hv.le
  unfold maxLen at hcap
  have HV := Lib.hid (And.intro hv hv2)
  clear hv hv2
  have hb : ((l.length : Int) != (l.length : Int)) = false := by simp
  go_enter Tryd.func101, Tryd.ntmps101
  go_wp2_with fail
  clear hb
  go_loopw [7] (fun i wr => ∃ j : Nat, j ≤ l.length ∧ i = .int .i64 (j : Int) ∧ Upd (fun _ => False) w wr) (fun i _ => l.length - (intOf i).toNat)
  case atStart => exact ⟨0, Nat.zero_le _, rfl, Upd.refl _ _⟩
  case round =>
    obtain ⟨j, hj, rfl, hU⟩ := hrel
    by_cases hlt : j < l.length
    · have hI : (j : Int) < (l.length : Int) := by omega
      have hI0 : (0 : Int) ≤ (j : Int) := by omega
      obtain ⟨b, o, hb, hcell⟩ := (HV.out.1.upd hU (fun _ _ h => h)).at (by omega) (by decide)
      obtain ⟨b2, o2, hb2, hcell2⟩ := (HV.out.2.upd hU (fun _ _ h => h)).at (by omega) (by decide)
      subst hb hb2
      have hq : ∀ r (hr : r < 4), wr.cell? ⟨b, o + j * 4 + r, none⟩ = (chV l[j])[r]? ∧ wr.cell? ⟨b2, o2 + j * 4 + r, none⟩ = (chV l[j])[r]? := fun r hr => by
        have hx : ∃ v, (chV l[j])[r]? = some v := ⟨_, List.getElem?_eq_getElem (show r < (chV l[j]).length from hr)⟩
        obtain ⟨v, hx⟩ := hx
        rw [hx]
        have e := (chV_get l j r hlt hr).trans hx
        exact ⟨by rw [Nat.add_assoc]; exact hcell _ _ e, by rw [Nat.add_assoc]; exact hcell2 _ _ e⟩
      have heq := fun w => eqlC_any l[j] w
      have HU := Lib.hid hU
      have HEQ := Lib.hid heq
      have HQ := Lib.hid hq
      clear hcell hcell2 hU heq hq
      generalize l[j] = x at *
      obtain ⟨xp, xd, xe, xt⟩ := x
      have HS : Hid ((wr.cell? ⟨b, o + j * 4, none⟩ = some (.string (str xp)) ∧ wr.cell? ⟨b, o + j * 4 + 1, none⟩ = some (.bool xd) ∧ wr.cell? ⟨b, o + j * 4 + 2, none⟩ = some (.bool xe) ∧ wr.cell? ⟨b, o + j * 4 + 3, none⟩ = some (.string (str xt))) ∧
          (wr.cell? ⟨b2, o2 + j * 4, none⟩ = some (.string (str xp)) ∧ wr.cell? ⟨b2, o2 + j * 4 + 1, none⟩ = some (.bool xd) ∧ wr.cell? ⟨b2, o2 + j * 4 + 2, none⟩ = some (.bool xe) ∧ wr.cell? ⟨b2, o2 + j * 4 + 3, none⟩ = some (.string (str xt)))) :=
        Lib.hid ⟨⟨(HQ.out 0 (by decide)).1, (HQ.out 1 (by decide)).1, (HQ.out 2 (by decide)).1, (HQ.out 3 (by decide)).1⟩, (HQ.out 0 (by decide)).2, (HQ.out 1 (by decide)).2, (HQ.out 2 (by decide)).2, (HQ.out 3 (by decide)).2⟩
      unfold sv at HEQ
      go_upto_region 6 with (fail)
      refine wp_region_plan_last [([0, 1, 2, 3, 4, 5, 6, 7, 8], 9)] [10] (fun wr => (wr.cell? ⟨b, o + j * 4, none⟩ = some (.string (str xp)) ∧ wr.cell? ⟨b, o + j * 4 + 1, none⟩ = some (.bool xd) ∧ wr.cell? ⟨b, o + j * 4 + 2, none⟩ = some (.bool xe) ∧ wr.cell? ⟨b, o + j * 4 + 3, none⟩ = some (.string (str xt))) ∧
          (wr.cell? ⟨b2, o2 + j * 4, none⟩ = some (.string (str xp)) ∧ wr.cell? ⟨b2, o2 + j * 4 + 1, none⟩ = some (.bool xd) ∧ wr.cell? ⟨b2, o2 + j * 4 + 2, none⟩ = some (.bool xe) ∧ wr.cell? ⟨b2, o2 + j * 4 + 3, none⟩ = some (.string (str xt)))) (by kernel_rfl) (by kernel_rfl) HS.out ?_
      iterate 9
        refine plan_take (v := ?_) rfl rfl (fun w' hS => ?_) ?_
        rotate_left
        · skip
          go_simp; try with_reducible rfl
        simp only [Act.put, List.getElem_toArray, List.getElem_cons_zero, List.getElem_cons_succ, List.setIfInBounds_toArray, List.set_cons_zero, List.set_cons_succ]
      refine plan_act rfl (fun KK hKK => ?_)
      go_wp2_with fail
      refine (HEQ.out _).mono ?_
      rintro e w2 ⟨rfl, hU2⟩
      have hU4 := (Upd.drew (fun _ => False) wr).trans hU2
      have HU2 := Lib.hid (HU.out.trans hU4)
      have cc : ∀ (q : Addr) (v : Value), wr.cell? q = some v → w2.cell? q = some v := fun q v h => (hU4.cell (World.block_lt_of_cell? wr q h) (fun h => h)).trans h
      have HS2 := Lib.hid (And.intro (And.intro (cc _ _ HS.out.1.1) (And.intro (cc _ _ HS.out.1.2.1) (And.intro (cc _ _ HS.out.1.2.2.1) (cc _ _ HS.out.1.2.2.2)))) (And.intro (cc _ _ HS.out.2.1) (And.intro (cc _ _ HS.out.2.2.1) (And.intro (cc _ _ HS.out.2.2.2.1) (cc _ _ HS.out.2.2.2.2)))))
      clear hU2 hU4 cc
      go_wp2_with fail
      refine hKK.out _ _ (.inr HS2.out) ?_
      iterate 1
        refine plan_last (v := ?_) rfl rfl (fun w' hS => ?_) ?_
        rotate_left
        · skip
          go_simp; try with_reducible rfl
        simp only [Act.put, List.getElem_toArray, List.getElem_cons_zero, List.getElem_cons_succ, List.setIfInBounds_toArray, List.set_cons_zero, List.set_cons_succ]
      refine plan_end ?_
      go_wp2_with fail
      go_roundw
      case rel => exact ⟨j + 1, by omega, by first | rfl | go_num, HU2.out⟩
      case measure => simp [intOf]; omega
    · obtain rfl : j = l.length := by omega
      go_wp2_with fail
      go_ret
      exact ⟨rfl, hU⟩
theorem plainC_any (a a2 : Option Addr) (c c2 : Nat) (l : List Chg) (w : World) (hv : Vw w a l.length c 4 (l.flatMap chV)) (hv2 : Vw w a2 l.length c2 4 (l.flatMap chV)) :
    Calls Tryd.prog 76 #[.slice a l.length c, .slice a2 l.length c2] w fun e w' => e = .returned (.bool true) ∧ Upd (fun _ => False) w w' := by
  have h := sameC_any a a2 c c2 l w hv hv2
  go_enter Tryd.func76, Tryd.ntmps76
  go_wp2_with fail
  refine h.mono ?_
  rintro e w1 ⟨rfl, hU⟩
  go_wp2_with fail
  go_ret
  exact ⟨rfl, hU⟩
end Go.Proofs.YteefceainlfdfaaDoor
