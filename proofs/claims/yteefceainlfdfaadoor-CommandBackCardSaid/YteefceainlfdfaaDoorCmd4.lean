
/- Why a command may not be: command.Right. -/
import Derived.Test.YteefceainlfdfaaDoorCmd3
namespace Go.Proofs.YteefceainlfdfaaDoor
set_option linter.unusedSimpArgs false
set_option linter.unusedVariables false
set_option maxRecDepth 100000
open Go.ChangeShapes Go.WideShapes Go.ChangeAt Go.RowKit

def rightOf (k cnt : Int) (lo pa nm : Bool) : Int :=
  if k < 1 ∨ 15 < k then 16 else if lo = true then 6 else if pa = false then 11 else
  if (k = 12 ∨ k = 13) ∧ nm = false then 24 else if k = 4 ∧ (cnt < 2 ∨ 100 < cnt) then 1 else 0
def rightL (c : Cmd) : Int := rightOf c.kind c.count (longL c) (pathsL c) (nameL c.name)
/-- A struct of a command's eight cells, in a block of its own. -/
theorem cmd_cells {w w' : World} {b : Nat} {T : TypeId} {x0 x1 x2 x3 x4 x5 x6 x7 : Value} {fr : Nat × Nat} (hr : w.heap[b]? = some (.cells #[x0, x1, x2, x3, x4, x5, x6, x7] T fr)) (hU : Upd (fun _ => False) w w') :
    w'.cell? ⟨b, 0, none⟩ = some x0 ∧ w'.cell? ⟨b, 1, none⟩ = some x1 ∧ w'.cell? ⟨b, 2, none⟩ = some x2 ∧ w'.cell? ⟨b, 3, none⟩ = some x3 ∧ w'.cell? ⟨b, 4, none⟩ = some x4 ∧ w'.cell? ⟨b, 5, none⟩ = some x5 ∧ w'.cell? ⟨b, 6, none⟩ = some x6 ∧ w'.cell? ⟨b, 7, none⟩ = some x7 := by
  have hr2 := (hU.block _ (lt_of_heap hr) (fun h => h)).trans hr
  refine ⟨?_, ?_, ?_, ?_, ?_, ?_, ?_, ?_⟩ <;> (rw [cell_of_row _ _ _ _ _ _ hr2]; rfl)

set_option maxHeartbeats 4000000 in
theorem cRight_any (c : Cmd) (a1 : Option Addr) (c1 : Nat) (a2 : Option Addr) (c2 : Nat) (w : World) (h : CmdIn w c a1 c1 a2 c2) :
    Calls Tryd.prog 12 #[cmdV c a1 c1 a2 c2] w fun e w' => e = .returned (.int .i64 (rightL c)) ∧ Upd (fun _ => False) w w' := by
  have hU1 := Upd.alloc (fun _ => False) w (.cells (cmdV c a1 c1 a2 c2).cells 25)
  have hrow := heap_alloc_new w (.cells (cmdV c a1 c1 a2 c2).cells 25)
  have h1 := h.upd hU1
  clear h
  have hcl := cLong_any c a1 c1 a2 c2 _ h1
  have hcp := fun w' (hU : Upd (fun _ => False) _ w') => cPaths_any c a1 c1 a2 c2 w' (h1.upd hU)
  have hR : rightL c = rightOf c.kind c.count (longL c) (pathsL c) (nameL c.name) := rfl
  generalize hRR : rightL c = RR at *
  unfold cmdV at hU1 hcl hcp hrow ⊢
  unfold sv at hU1 hcl hcp hrow ⊢
  dsimp only [Value.cells] at hU1 hcl hcp hrow
  have hlo : ∃ b, longL c = b := ⟨_, rfl⟩
  have hpa : ∃ b, pathsL c = b := ⟨_, rfl⟩
  obtain ⟨lo, hlo⟩ := hlo
  obtain ⟨pa, hpa⟩ := hpa
  have hnm := fun w' => cName_any c.name w'
  unfold sv at hnm
  obtain ⟨nm, hna⟩ : ∃ b, nameL c.name = b := ⟨_, rfl⟩
  rw [hlo] at hcl hR
  rw [hpa, hna] at hR
  simp only [hpa] at hcp
  simp only [hna] at hnm
  clear h1 hlo hpa hna hRR
  unfold rightOf at hR
  obtain ⟨k, msg, ch, ps, cnt, cm, ds, name⟩ := c
  dsimp only at *
  have HR := Lib.hid hR
  clear hR
  have HCP := Lib.hid hcp
  have HU1 := Lib.hid (And.intro hU1 hrow)
  have HNM := Lib.hid hnm
  clear hcp hU1 hrow hnm
  by_cases h0 : k < 1
  · have hr := HR.out
    rw [if_pos (Or.inl h0)] at hr
    have HB := Lib.hid hr
    clear hr HR hcl
    go_enter Tryd.func12, Tryd.ntmps12
    go_wp2_with fail
    go_ret
    exact ⟨by rw [HB.out]; rfl, HU1.out.1⟩
  have hi0 : decide (k < 1) = false := by rw [decide_eq_false_iff_not]; omega
  by_cases h15 : 15 < k
  · have hr := HR.out
    rw [if_pos (Or.inr h15)] at hr
    have HB := Lib.hid hr
    clear hr HR hcl h0
    go_enter Tryd.func12, Tryd.ntmps12
    go_wp2_with fail
    go_ret
    exact ⟨by rw [HB.out]; rfl, HU1.out.1⟩
  have hi15 : decide (15 < k) = false := by rw [decide_eq_false_iff_not]; omega
  have hr := HR.out
  rw [if_neg (by omega)] at hr
  have HR2 := Lib.hid hr
  clear hr HR h0 h15
  cases lo with
  | true =>
    have hr := HR2.out
    rw [if_pos rfl] at hr
    have HB := Lib.hid hr
    clear hr
    go_enter Tryd.func12, Tryd.ntmps12
    go_wp2_with fail
    refine hcl.mono ?_
    rintro e w2 ⟨rfl, hU2⟩
    clear hcl
    go_wp2_with fail
    go_ret
    exact ⟨by rw [HB.out]; rfl, HU1.out.1.trans hU2⟩
  | false =>
  have hr := HR2.out
  rw [if_neg (by decide)] at hr
  have HR3 := Lib.hid hr
  clear hr HR2
  go_enter Tryd.func12, Tryd.ntmps12
  go_wp2_with fail
  refine hcl.mono ?_
  rintro e w2 ⟨rfl, hU2⟩
  clear hcl
  obtain ⟨z0, z1, z2, z3, z4, z5, z6, z7⟩ := cmd_cells HU1.out.2 hU2
  have hcp := HCP.out w2 hU2
  have HU2 := Lib.hid hU2
  clear hU2
  cases pa with
  | false =>
    have hr := HR3.out
    rw [if_pos rfl] at hr
    have HB := Lib.hid hr
    clear hr
    go_wp2_with fail
    refine hcp.mono ?_
    rintro e w3 ⟨rfl, hU3⟩
    clear hcp z0 z1 z2 z3 z4 z5 z6 z7
    go_wp2_with fail
    go_ret
    exact ⟨by rw [HB.out]; rfl, HU1.out.1.trans (HU2.out.trans hU3)⟩
  | true =>
  have hr := HR3.out
  rw [if_neg (by decide)] at hr
  have HR4 := Lib.hid hr
  clear hr HR3
  go_wp2_with fail
  refine hcp.mono ?_
  rintro e w3 ⟨rfl, hU3⟩
  clear hcp z0 z1 z2 z3 z4 z5 z6 z7
  have hU3' := HU2.out.trans hU3
  obtain ⟨z0, z1, z2, z3, z4, z5, z6, z7⟩ := cmd_cells HU1.out.2 hU3'
  have HU3 := Lib.hid hU3'
  clear hU3 hU3' z1 z2 z3 z5 z6
  by_cases hm : k = 12 ∨ k = 13
  · have hn := HNM.out w3
    have hr := HR4.out
    have hk4 : (k == 4) = false := by rw [beq_eq_false_iff_ne]; omega
    cases nm with
    | false =>
      rw [if_pos ⟨hm, rfl⟩] at hr
      have HB := Lib.hid hr
      clear hr
      rcases hm with rfl | rfl
      all_goals
        go_wp2_with fail
        refine hn.mono ?_
        rintro e w4 ⟨rfl, hU4⟩
        clear hn
        go_wp2_with fail
        go_ret
        exact ⟨by rw [HB.out]; rfl, HU1.out.1.trans (HU3.out.trans hU4)⟩
    | true =>
      rw [if_neg (by rintro ⟨_, h⟩; cases h), if_neg (by omega)] at hr
      have HB := Lib.hid hr
      clear hr
      rcases hm with rfl | rfl
      all_goals
        go_wp2_with fail
        refine hn.mono ?_
        rintro e w4 ⟨rfl, hU4⟩
        clear hn z0 z4 z7
        have hU4' := HU3.out.trans hU4
        obtain ⟨z0, z1, z2, z3, z4, z5, z6, z7⟩ := cmd_cells HU1.out.2 hU4'
        have HU4 := Lib.hid hU4'
        clear hU4 hU4' z1 z2 z3 z5 z6 z7
        go_wp2_with fail
        go_ret
        exact ⟨by rw [HB.out]; rfl, HU1.out.1.trans HU4.out⟩
  · have e12 : (k == 12) = false := by rw [beq_eq_false_iff_ne]; omega
    have e13 : (k == 13) = false := by rw [beq_eq_false_iff_ne]; omega
    have hr := HR4.out
    rw [if_neg (by intro h; exact hm h.1)] at hr
    clear hm
    by_cases h4 : k = 4
    · subst h4
      by_cases hc2 : cnt < 2
      · rw [if_pos ⟨rfl, Or.inl hc2⟩] at hr
        have HB := Lib.hid hr
        clear hr
        go_wp2_with fail
        go_ret
        exact ⟨by rw [HB.out]; rfl, HU1.out.1.trans HU3.out⟩
      · have d2 : decide (cnt < 2) = false := by rw [decide_eq_false_iff_not]; omega
        by_cases hc100 : 100 < cnt
        · rw [if_pos ⟨rfl, Or.inr hc100⟩] at hr
          have HB := Lib.hid hr
          clear hr hc2
          go_wp2_with fail
          go_ret
          exact ⟨by rw [HB.out]; rfl, HU1.out.1.trans HU3.out⟩
        · have d100 : decide (100 < cnt) = false := by rw [decide_eq_false_iff_not]; omega
          rw [if_neg (by omega)] at hr
          have HB := Lib.hid hr
          clear hr hc2 hc100
          go_wp2_with fail
          go_ret
          exact ⟨by rw [HB.out]; rfl, HU1.out.1.trans HU3.out⟩
    · have e4 : (k == 4) = false := by rw [beq_eq_false_iff_ne]; exact h4
      rw [if_neg (by intro h; exact h4 h.1)] at hr
      have HB := Lib.hid hr
      clear hr h4
      go_wp2_with fail
      go_ret
      exact ⟨by rw [HB.out]; rfl, HU1.out.1.trans HU3.out⟩
end Go.Proofs.YteefceainlfdfaaDoor
