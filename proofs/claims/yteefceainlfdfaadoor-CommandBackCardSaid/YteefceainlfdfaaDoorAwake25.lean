
/- 'awake' of the statements of layer 25. -/
import Derived.Test.YteefceainlfdfaaDoorCmd5
namespace Go.Proofs.YteefceainlfdfaaDoor
set_option linter.unusedSimpArgs false
set_option linter.unusedVariables false
set_option maxRecDepth 100000
open Go.ChangeShapes Go.WideShapes Go.ChangeAt Go.RowKit

def awC : Cmd := ⟨12, [], [], [], 0, 0, 0, [97]⟩
def zeroC : Cmd := ⟨0, [], [], [], 0, 0, 0, []⟩
theorem awC_in (w : World) : CmdIn w awC none 0 none 0 := ⟨Vw.nl w 4, Vw.nl w 1⟩
theorem zeroC_in (w : World) : CmdIn w zeroC none 0 none 0 := ⟨Vw.nl w 4, Vw.nl w 1⟩
theorem awC_right : rightL awC = 0 := by decide +kernel
theorem zeroC_right : rightL zeroC = 16 := by decide +kernel
theorem awC_pack : (packL awC).length = 30 := by decide +kernel

set_option maxHeartbeats 4000000 in
theorem awake25_any (w : World) : Calls Tryd.prog 11 #[] w fun e w' => e = .returned (.bool true) ∧ Upd (fun _ => False) w w' := by
  have hU1 := Upd.alloc (fun _ => False) w (.cells (cmdV awC none 0 none 0).cells 25)
  have hrow := heap_alloc_new w (.cells (cmdV awC none 0 none 0).cells 25)
  have hpk := fun w => cPack_any awC none 0 none 0 w (awC_in w) (by decide)
  have hra := fun w => cRight_any awC none 0 none 0 w (awC_in w)
  have hrz := fun w => cRight_any zeroC none 0 none 0 w (zeroC_in w)
  rw [awC_right] at hpk
  simp only [awC_right] at hra
  simp only [zeroC_right] at hrz
  have hpl := awC_pack
  generalize packL awC = l at *
  unfold cmdV awC at hU1 hrow hpk hra
  unfold cmdV zeroC at hrz
  unfold sv at hU1 hrow hpk hra hrz
  dsimp only [Value.cells, List.length_nil] at hU1 hrow hpk hra hrz
  have hs0 : str [] = ByteArray.empty := rfl
  have hs1 : str [97] = ⟨#[97]⟩ := rfl
  simp only [hs0, hs1] at hU1 hrow hpk hra hrz
  have HPK := Lib.hid hpk
  have HRA := Lib.hid hra
  have HRZ := Lib.hid hrz
  have HP := Lib.hid (And.intro hU1 hrow)
  clear hpk hra hrz hU1 hrow hs0 hs1
  go_enter Tryd.func11, Tryd.ntmps11
  go_wp2_with fail
  refine (HPK.out _).mono ?_
  rintro e w1 ⟨a, c, rfl, hv, hfr, hU2⟩
  obtain ⟨hU1, hrow⟩ := HP.out
  have hr1 := (hU2.block _ (lt_of_heap hrow) (fun h => h)).trans hrow
  have hU01 := hU1.trans hU2
  have HU := Lib.hid (And.intro hr1 hU01)
  clear hv hfr hU2 hU1 hrow HP hr1 hU01
  rw [hpl]
  go_wp2_with fail
  refine (HRZ.out _).mono ?_
  rintro e w2 ⟨rfl, hU2⟩
  obtain ⟨hr1, hU01⟩ := HU.out
  obtain ⟨z0, z1, z2, z3, z4, z5, z6, z7⟩ := cmd_cells hr1 hU2
  have HU2 := Lib.hid (hU01.trans hU2)
  clear hr1 hU01 hU2 HU
  go_wp2_with fail
  refine (HRA.out _).mono ?_
  rintro e w3 ⟨rfl, hU3⟩
  clear z0 z1 z2 z3 z4 z5 z6 z7
  go_wp2_with fail
  go_ret
  exact ⟨rfl, HU2.out.trans hU3⟩
end Go.Proofs.YteefceainlfdfaaDoor
