
/- rickhelp.Command on equal commands. -/
import Derived.Test.YteefceainlfdfaaDoorRc7
namespace Go.Proofs.YteefceainlfdfaaDoor
set_option linter.unusedSimpArgs false
set_option linter.unusedVariables false
set_option maxRecDepth 100000
open Go.ChangeShapes Go.WideShapes Go.ChangeAt Go.RowKit

set_option maxHeartbeats 8000000 in
theorem sameCmd_any (c : Cmd) (a1 : Option Addr) (c1 : Nat) (a2 : Option Addr) (c2 : Nat) (a3 : Option Addr) (c3 : Nat) (a4 : Option Addr) (c4 : Nat) (w : World) (h : CmdIn w c a1 c1 a2 c2) (k : CmdIn w c a3 c3 a4 c4) :
    Calls Tryd.prog 31 #[cmdV c a1 c1 a2 c2, cmdV c a3 c3 a4 c4] w fun e w' => e = .returned (.bool true) ∧ Upd (fun _ => False) w w' := by
  have hU1 := Upd.alloc (fun _ => False) w (.cells (cmdV c a1 c1 a2 c2).cells 25)
  have hU2 := Upd.alloc (fun _ => False) (w.alloc (.cells (cmdV c a1 c1 a2 c2).cells 25)) (.cells (cmdV c a3 c3 a4 c4).cells 25)
  have hr1 := (hU2.block _ (lt_of_heap (heap_alloc_new w (.cells (cmdV c a1 c1 a2 c2).cells 25))) (fun e => e)).trans (heap_alloc_new w (.cells (cmdV c a1 c1 a2 c2).cells 25))
  have hr2 := heap_alloc_new (w.alloc (.cells (cmdV c a1 c1 a2 c2).cells 25)) (.cells (cmdV c a3 c3 a4 c4).cells 25)
  have h1 := h.upd (hU1.trans hU2)
  have k1 := k.upd (hU1.trans hU2)
  have hU := hU1.trans hU2
  have hsz : (w.alloc (.cells (cmdV c a1 c1 a2 c2).cells 25)).heap.size = w.heap.size + 1 := by simp
  rw [hsz] at hr2
  clear h k hU1 hU2 hsz
  unfold cmdV at hU hr1 hr2 h1 k1 ⊢
  unfold sv at hU hr1 hr2 h1 k1 ⊢
  dsimp only [Value.cells] at hU hr1 hr2 h1 k1
  have HP := Lib.hid (And.intro hU (And.intro hr1 (And.intro hr2 (And.intro h1 k1))))
  clear hU hr1 hr2 h1 k1
  go_enter Tryd.func31, Tryd.ntmps31
  go_upto_region 1 with (fail)
  obtain ⟨hU, hr1, hr2, h1, k1⟩ := HP.out
  generalize (w.alloc (.cells #[.int .i64 c.kind, .string (str c.msg), .slice a1 c.ch.length c1, .slice a2 c.ps.length c2, .int .i64 c.count, .int .i64 c.commit, .int .i64 c.dest, .string (str c.name)] 25)).alloc (.cells #[.int .i64 c.kind, .string (str c.msg), .slice a3 c.ch.length c3, .slice a4 c.ps.length c4, .int .i64 c.count, .int .i64 c.commit, .int .i64 c.dest, .string (str c.name)] 25) = y0 at *
  have hpc := plainC_any a1 a3 c1 c3 c.ch y0 h1.ch k1.ch
  have hps := fun w' (hU : Upd (fun _ => False) y0 w') => plainS_any a2 a4 c2 c4 c.ps w' (h1.ps.upd hU (fun _ _ h => h)) (k1.ps.upd hU (fun _ _ h => h))
  have HR := Lib.hid (And.intro hr1 hr2)
  have HU := Lib.hid hU
  have HPS := Lib.hid hps
  obtain ⟨z0, z1, z2, z3, z4, z5, z6, z7⟩ := cmd_cells hr1 (Upd.refl _ y0)
  obtain ⟨x0, x1, x2, x3, x4, x5, x6, x7⟩ := cmd_cells hr2 (Upd.refl _ y0)
  clear hU hr1 hr2 h1 k1 hps HP
  go_wp2_with fail
  refine hpc.mono ?_
  rintro e w1 ⟨rfl, hV⟩
  clear z0 z1 z2 z3 z4 z5 z6 z7 x0 x1 x2 x3 x4 x5 x6 x7 hpc
  obtain ⟨z0, z1, z2, z3, z4, z5, z6, z7⟩ := cmd_cells HR.out.1 hV
  obtain ⟨x0, x1, x2, x3, x4, x5, x6, x7⟩ := cmd_cells HR.out.2 hV
  have hps := HPS.out w1 hV
  have HV := Lib.hid hV
  clear hV
  go_wp2_with fail
  refine hps.mono ?_
  rintro e w2 ⟨rfl, hV⟩
  have hV2 := HV.out.trans hV
  clear z0 z1 z2 z3 z4 z5 z6 z7 x0 x1 x2 x3 x4 x5 x6 x7 hps hV
  obtain ⟨z0, z1, z2, z3, z4, z5, z6, z7⟩ := cmd_cells HR.out.1 hV2
  obtain ⟨x0, x1, x2, x3, x4, x5, x6, x7⟩ := cmd_cells HR.out.2 hV2
  have HV2 := Lib.hid hV2
  clear hV2
  go_wp2_with fail
  go_ret
  exact ⟨rfl, HU.out.trans HV2.out⟩
end Go.Proofs.YteefceainlfdfaaDoor
