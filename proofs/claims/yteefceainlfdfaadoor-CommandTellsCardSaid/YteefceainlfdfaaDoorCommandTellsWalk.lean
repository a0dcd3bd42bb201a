
/- The walk of CommandTells. -/
import Derived.Test.YteefceainlfdfaaDoorRt6
import Derived.Test.YteefceainlfdfaaDoorRc5
import Derived.Test.YteefceainlfdfaaDoorRc8
import Derived.Test.YteefceainlfdfaaDoorAwake25
namespace Go.Proofs.YteefceainlfdfaaDoor
set_option linter.unusedSimpArgs false
set_option linter.unusedVariables false
set_option maxRecDepth 100000
open Go.ChangeShapes Go.WideShapes Go.ChangeAt Go.RowKit

theorem exec_load_cmd {w : World} {ev : Operand → Value} {o : Oper} (x : Operand) (ho : o.op = .load 25 x) (b : Nat) (hx : ev x = .pointer (some ⟨b, 0, none⟩)) (c : Cmd) (a1 : Option Addr) (c1 : Nat) (a2 : Option Addr) (c2 : Nat)
    (hr : w.heap[b]? = some (.cells (cmdA c a1 c1 a2 c2) 25)) : (execOp ev o).run Tryd.prog w = .ok (.value (.agg (cmdA c a1 c1 a2 c2))) w := by
  have hl := run_loadVar_row (P := Tryd.prog) w b 25 25 (cmdA c a1 c1 a2 c2) (0, 0) _ hr Tryd.underlying25 (by simp) (infoCmd2 c a1 c1 a2 c2)
  unfold execOp
  simp only [ho, hx, Instr.loadAt, Instr.sureAddr, Sem.run_bind, Sem.run_pure, Result.andThen_ok, hl]

set_option maxHeartbeats 16000000 in
theorem CommandTells_walk (w : World) (c : Cmd) (a1 : Option Addr) (c1 : Nat) (a2 : Option Addr) (c2 : Nat) (hin : CmdIn w c a1 c1 a2 c2) (hfit : Fits c)
    (a : Option Addr) (c0 : Nat) (l : List UInt8) (hv : Vw w a l.length c0 1 (bvs l)) (hb : ∀ b, blk a = some b → b < w.heap.size) :
    Calls Tryd.prog 7 #[cmdV c a1 c1 a2 c2, .slice a l.length c0] w fun e w' => e = .returned (.bool true) ∧ Below w.heap.size w w' := by
  have hcap := hv.cap
  have hlc := hv.le
  unfold maxLen at hcap
  have hU1 := Upd.alloc (fun _ => False) w (.cells (cmdV c a1 c1 a2 c2).cells 25)
  have hrow := heap_alloc_new w (.cells (cmdV c a1 c1 a2 c2).cells 25)
  have h1 := hin.upd hU1
  have hfew := few25_any c a1 c1 a2 c2 _ h1 hfit
  have hnm : fewL c = true → c.name.length ≤ 30000 := fun h => by
    unfold fewL at h
    simp only [Bool.and_eq_true, decide_eq_true_eq] at h
    have := h.2
    unfold fewN at this
    omega
  have hvy := hv.upd hU1 (fun _ _ h => h)
  have hsy := hU1.size
  unfold cmdV at hU1 hrow h1 hfew hvy hsy ⊢
  unfold sv at hU1 hrow h1 hfew hvy hsy ⊢
  dsimp only [Value.cells] at hU1 hrow h1 hfew hvy hsy
  have HNM := Lib.hid hnm
  have HP := Lib.hid (And.intro hU1 (And.intro hrow (And.intro h1 (And.intro hfew (And.intro hvy hsy)))))
  clear hU1 hrow h1 hfew hvy hsy hv hin hnm
  have HB0 := Lib.hid hb
  clear hb
  go_enter Tryd.func7, Tryd.ntmps7
  go_upto_region 1 with (fail)
  obtain ⟨hU1, hrow, h1, hfew, hvy, hsy⟩ := HP.out
  generalize w.alloc (.cells #[.int .i64 c.kind, .string (str c.msg), .slice a1 c.ch.length c1, .slice a2 c.ps.length c2, .int .i64 c.count, .int .i64 c.commit, .int .i64 c.dest, .string (str c.name)] 25) = y0 at *
  obtain ⟨B, hB⟩ : ∃ B, B = w.heap.size := ⟨_, rfl⟩
  rw [← hB] at hrow ⊢
  obtain ⟨z0, z1, z2, z3, z4, z5, z6, z7⟩ := cmd_cells hrow (Upd.refl _ y0)
  have HU := Lib.hid hU1
  have HI := Lib.hid h1
  have HR0 : Hid (y0.heap[B]? = some (.cells (cmdA c a1 c1 a2 c2) 25)) := Lib.hid hrow
  have HV := Lib.hid hvy
  have HB : Hid (∀ b, blk a = some b → b < y0.heap.size) := Lib.hid (fun b h => by have := HB0.out b h; omega)
  clear hU1 hrow h1 hvy hsy HP HB0 hB
  cases hf : fewL c with
  | false =>
    rw [hf] at hfew
    clear hf
    go_wp2_with fail
    refine hfew.mono ?_
    rintro e w1 ⟨rfl, hU⟩
    have HU1 := Lib.hid (HU.out.trans hU)
    clear hU hfew z0 z1 z2 z3 z4 z5 z6 z7
    go_wp2_with fail
    refine (awake25_any _).mono ?_
    rintro e w2 ⟨rfl, hU⟩
    have HU2 := Lib.hid (HU1.out.trans hU)
    clear hU
    go_wp2_with fail
    go_ret
    exact ⟨rfl, HU2.out.clean⟩
  | true =>
  rw [hf] at hfew
  have hnm := HNM.out hf
  clear hf HNM
  go_wp2_with fail
  refine hfew.mono ?_
  rintro e w1 ⟨rfl, hU⟩
  have HW1 := Lib.hid hU
  clear hU hfew z0 z1 z2 z3 z4 z5 z6 z7
  by_cases hl : 4000 < l.length
  · have hI : (4000 : Int) < (l.length : Int) := by omega
    go_wp2_with fail
    refine (awake25_any _).mono ?_
    rintro e w2 ⟨rfl, hU⟩
    have HU2 := Lib.hid (HU.out.trans (HW1.out.trans hU))
    clear hU
    go_wp2_with fail
    go_ret
    exact ⟨rfl, HU2.out.clean⟩
  have hI : decide ((4000 : Int) < (l.length : Int)) = false := by rw [decide_eq_false_iff_not]; omega
  go_wp2_with fail
  have hown : Calls Tryd.prog 25 #[.slice a l.length c0, .int .u8 71] w1 (OwnedB w1 l 71) := ownB_any a c0 l 71 w1 (HV.out.upd HW1.out (fun _ _ h => h)) (by omega)
  refine hown.mono ?_
  unfold OwnedB
  rintro e w2 ⟨g, rfl, hown2, hU, hg⟩
  have HW2 := Lib.hid (HW1.out.trans hU)
  have HO := Lib.hid hown2
  clear hU hg hown hown2 hI HW1
  obtain ⟨z0, z1, z2, z3, z4, z5, z6, z7⟩ := cmd_cells HR0.out HW2.out
  unfold sv at z1 z7
  have hpk := cPack_any c a1 c1 a2 c2 w2 (HI.out.upd HW2.out) (by omega)
  unfold cmdV sv at hpk
  have HPK := Lib.hid hpk
  clear hpk
  go_upto_region 4 with (fail)
  have hpk := HPK.out
  go_wp2_with fail
  refine hpk.mono ?_
  unfold Packed
  rintro e w3 ⟨ax, cx, rfl, hvx, hfx, hU⟩
  have HW3 := Lib.hid (HW2.out.trans hU)
  have HX := Lib.hid hvx
  have HO3 := Lib.hid (ownsRow_upd HO.out hU (fun _ _ h => h))
  clear hU hvx hfx hpk HPK z0 z1 z2 z3 z4 z5 z6 z7 HO HW2
  obtain ⟨z0, z1, z2, z3, z4, z5, z6, z7⟩ := cmd_cells HR0.out HW3.out
  unfold sv at z1 z7
  have hpk := r25Pack_any c a1 c1 a2 c2 w3 (HI.out.upd HW3.out) (by omega)
  unfold cmdV sv at hpk
  have HPK := Lib.hid hpk
  clear hpk
  go_upto_region 5 with (fail)
  have hpk := HPK.out
  go_wp2_with fail
  refine hpk.mono ?_
  unfold Packed
  rintro e w4 ⟨ay, cy, rfl, hvy, hfy, hU⟩
  have HW4 := Lib.hid (HW3.out.trans hU)
  have HX4 := Lib.hid (HX.out.upd hU (fun _ _ h => h))
  have HY4 := Lib.hid hvy
  have HO4 := Lib.hid (ownsRow_upd HO3.out hU (fun _ _ h => h))
  clear hU hvy hfy hpk HPK z0 z1 z2 z3 z4 z5 z6 z7 HO3 HW3 HX
  have hvi : Vw w4 (some ⟨g, 0, none⟩) l.length (l.length + 3) 1 (bvs l) := by
    have := (Vw.of_own HO4.out).pre l.length (by omega)
    simpa [bvs] using this
  have htk := cTake_any (some ⟨g, 0, none⟩) (l.length + 3) l w4 hvi (by omega)
  clear hvi
  go_wp2_with fail
  refine htk.mono ?_
  unfold TookCmd
  rintro e w5 ⟨p1, k1, p2, k2, rfl, hin5, hU⟩
  have hal := Upd.alloc (fun _ => False) w5 (.cells (cmdA (takeC l) p1 k1 p2 k2) 25)
  have hrw := heap_alloc_new w5 (.cells (cmdA (takeC l) p1 k1 p2 k2) 25)
  have hU46 := hU.trans hal
  have hW6 := HW4.out.trans hU46
  have hT6 := hin5.upd hal
  have hO6 := ownsRow_upd HO4.out hU46 (fun _ _ h => h)
  have hX6 := HX4.out.upd hU46 (fun _ _ h => h)
  have hY6 := HY4.out.upd hU46 (fun _ _ h => h)
  have H6 := Lib.hid (And.intro hrw (And.intro hW6 (And.intro hT6 (And.intro hO6 (And.intro hX6 hY6)))))
  unfold cmdA sv at H6
  unfold cmdV sv
  clear hal hrw hU46 hW6 hT6 hO6 hX6 hY6 hU hin5 htk HW4 HO4 HX4 HY4
  go_upto_region 7 with (fail)
  have h6 := H6.out
  generalize w5.alloc (.cells #[.int .i64 (takeC l).kind, .string (str (takeC l).msg), .slice p1 (takeC l).ch.length k1, .slice p2 (takeC l).ps.length k2, .int .i64 (takeC l).count, .int .i64 (takeC l).commit, .int .i64 (takeC l).dest, .string (str (takeC l).name)] 25) = w6 at *
  obtain ⟨b10, hb10⟩ : ∃ b, b = w5.heap.size := ⟨_, rfl⟩
  rw [← hb10] at H6 ⊢
  clear h6 hb10
  have htk := r25Take_any a c0 l w6 (HV.out.upd H6.out.2.1 (fun _ _ h => h)) (by omega) (fun b h => by have := HB.out b h; have := H6.out.2.1.size; omega)
  go_wp2_with fail
  refine htk.mono ?_
  unfold TookCmd
  rintro e w7 ⟨p3, k3, p4, k4, rfl, hin7, hU⟩
  have hal := Upd.alloc (fun _ => False) w7 (.cells (cmdA (takeC l) p3 k3 p4 k4) 25)
  have hrw := heap_alloc_new w7 (.cells (cmdA (takeC l) p3 k3 p4 k4) 25)
  have hU68 := hU.trans hal
  have hW8 := H6.out.2.1.trans hU68
  have hrow6 : w6.heap[b10]? = some (.cells (cmdA (takeC l) p1 k1 p2 k2) 25) := H6.out.1
  have hR8 := (hU68.block b10 (lt_of_heap hrow6) (fun h => h)).trans hrow6
  have hT8 := H6.out.2.2.1.upd hU68
  have hS8 := hin7.upd hal
  have hO8 := ownsRow_upd H6.out.2.2.2.1 hU68 (fun _ _ h => h)
  have hX8 := H6.out.2.2.2.2.1.upd hU68 (fun _ _ h => h)
  have hY8 := H6.out.2.2.2.2.2.upd hU68 (fun _ _ h => h)
  have H8 := Lib.hid (And.intro hrw (And.intro hW8 (And.intro hR8 (And.intro hT8 (And.intro hS8 (And.intro hO8 (And.intro hX8 hY8)))))))
  unfold cmdA sv at H8
  unfold cmdV sv
  clear hal hrw hU68 hW8 hR8 hrow6 hT8 hS8 hO8 hX8 hY8 hU hin7 htk H6
  go_upto_region 8 with (fail)
  generalize w7.alloc (.cells #[.int .i64 (takeC l).kind, .string (str (takeC l).msg), .slice p3 (takeC l).ch.length k3, .slice p4 (takeC l).ps.length k4, .int .i64 (takeC l).count, .int .i64 (takeC l).commit, .int .i64 (takeC l).dest, .string (str (takeC l).name)] 25) = w8 at *
  obtain ⟨b12, hb12⟩ : ∃ b, b = w7.heap.size := ⟨_, rfl⟩
  rw [← hb12] at H8 ⊢
  clear hb12
  have HS : Hid (∀ w', Upd (fun _ => False) w8 w' → w'.heap[B]? = some (.cells (cmdA c a1 c1 a2 c2) 25) ∧ w'.heap[b10]? = some (.cells (cmdA (takeC l) p1 k1 p2 k2) 25) ∧ w'.heap[b12]? = some (.cells (cmdA (takeC l) p3 k3 p4 k4) 25)) := Lib.hid (fun w' hU =>
    have hh := H8.out.2.1.trans hU
    have r10 : w8.heap[b10]? = some (.cells (cmdA (takeC l) p1 k1 p2 k2) 25) := H8.out.2.2.1
    have r12 : w8.heap[b12]? = some (.cells (cmdA (takeC l) p3 k3 p4 k4) 25) := H8.out.1
    ⟨(hh.block B (lt_of_heap HR0.out) (fun h => h)).trans HR0.out, (hU.block b10 (lt_of_heap r10) (fun h => h)).trans r10, (hU.block b12 (lt_of_heap r12) (fun h => h)).trans r12⟩)
  have hUd := Upd.drew (fun _ => False) w8
  have hSd := HS.out _ hUd
  refine wp_region_plan_last [([], 0), ([1, 2, 4], 3), ([], 5), ([6, 7, 8, 9, 10], 11), ([12, 13, 14, 15, 16, 17, 18, 19, 20], 21), ([22, 23, 24, 25, 26, 27, 28, 29, 30], 31)] [32, 33] (fun w' => w'.heap[B]? = some (.cells (cmdA c a1 c1 a2 c2) 25) ∧ w'.heap[b10]? = some (.cells (cmdA (takeC l) p1 k1 p2 k2) 25) ∧ w'.heap[b12]? = some (.cells (cmdA (takeC l) p3 k3 p4 k4) 25)) (by kernel_rfl) (by kernel_rfl) hSd ?_
  clear hSd
  refine plan_act rfl (fun K0 hK0 => ?_)
  go_wp2_with fail
  refine (awake25_any _).mono ?_
  rintro e u1 ⟨rfl, hU⟩
  have V1 := Lib.hid (hUd.trans hU)
  clear hU
  clear hUd
  go_wp2_with fail
  refine hK0.out _ _ (.inr (HS.out _ V1.out)) ?_
  refine plan_take (v := ?_) rfl rfl (fun w' hS => ?_) ?_
  rotate_left
  · skip
    go_simp; try with_reducible rfl
  simp only [Act.put, List.getElem_toArray, List.getElem_cons_zero, List.getElem_cons_succ, List.setIfInBounds_toArray, List.set_cons_zero, List.set_cons_succ]
  refine plan_take (v := .agg (cmdA c a1 c1 a2 c2)) rfl rfl (fun w' hS => exec_load_cmd (.tmp 2) rfl B rfl _ _ _ _ _ hS.1) ?_
  try simp only [Act.put, List.getElem_toArray, List.getElem_cons_zero, List.getElem_cons_succ, List.setIfInBounds_toArray, List.set_cons_zero, List.set_cons_succ]
  refine plan_take (v := .agg (cmdA c a1 c1 a2 c2)) rfl rfl (fun w' hS => exec_load_cmd (.tmp 2) rfl B rfl _ _ _ _ _ hS.1) ?_
  try simp only [Act.put, List.getElem_toArray, List.getElem_cons_zero, List.getElem_cons_succ, List.setIfInBounds_toArray, List.set_cons_zero, List.set_cons_succ]
  refine plan_act rfl (fun K3 hK3 => ?_)
  go_wp2_with fail
  refine (cRight_any c a1 c1 a2 c2 _ (HI.out.upd (H8.out.2.1.trans V1.out))).mono ?_
  rintro e u2 ⟨rfl, hU⟩
  have V2 := Lib.hid (V1.out.trans hU)
  clear hU
  go_wp2_with fail
  refine hK3.out _ _ (.inr (HS.out _ V2.out)) ?_
  refine plan_act rfl (fun K5 hK5 => ?_)
  go_wp2_with fail
  refine (r25Right_any c a1 c1 a2 c2 _ (HI.out.upd (H8.out.2.1.trans V2.out)) (by omega)).mono ?_
  rintro e u3 ⟨rfl, hU⟩
  have V3 := Lib.hid (V2.out.trans hU)
  clear hU
  go_wp2_with fail
  refine hK5.out _ _ (.inr (HS.out _ V3.out)) ?_
  iterate 5
    refine plan_take (v := ?_) rfl rfl (fun w' hS => ?_) ?_
    rotate_left
    · skip
      go_simp; try with_reducible rfl
    simp only [Act.put, List.getElem_toArray, List.getElem_cons_zero, List.getElem_cons_succ, List.setIfInBounds_toArray, List.set_cons_zero, List.set_cons_succ]
  refine plan_act rfl (fun K11 hK11 => ?_)
  go_wp2_with fail
  refine (sBytes_any ax ay cx cy (packL c) (packL c) _ (H8.out.2.2.2.2.2.2.1.upd V3.out (fun _ _ h => h)) (H8.out.2.2.2.2.2.2.2.upd V3.out (fun _ _ h => h))).mono ?_
  rintro e u4 ⟨rfl, rfl⟩
  rw [beq_self_eq_true]
  go_wp2_with fail
  refine hK11.out _ _ (.inr (HS.out _ V3.out)) ?_
  iterate 7
    refine plan_take (v := ?_) rfl rfl (fun w' hS => ?_) ?_
    rotate_left
    · skip
      go_simp; try with_reducible rfl
    simp only [Act.put, List.getElem_toArray, List.getElem_cons_zero, List.getElem_cons_succ, List.setIfInBounds_toArray, List.set_cons_zero, List.set_cons_succ]
  refine plan_take (v := .agg (cmdA (takeC l) p1 k1 p2 k2)) rfl rfl (fun w' hS => exec_load_cmd (.tmp 10) rfl b10 rfl _ _ _ _ _ hS.2.1) ?_
  try simp only [Act.put, List.getElem_toArray, List.getElem_cons_zero, List.getElem_cons_succ, List.setIfInBounds_toArray, List.set_cons_zero, List.set_cons_succ]
  refine plan_take (v := .agg (cmdA (takeC l) p3 k3 p4 k4)) rfl rfl (fun w' hS => exec_load_cmd (.tmp 12) rfl b12 rfl _ _ _ _ _ hS.2.2) ?_
  try simp only [Act.put, List.getElem_toArray, List.getElem_cons_zero, List.getElem_cons_succ, List.setIfInBounds_toArray, List.set_cons_zero, List.set_cons_succ]
  refine plan_act rfl (fun K21 hK21 => ?_)
  go_wp2_with fail
  refine (sameCmd_any (takeC l) p1 k1 p2 k2 p3 k3 p4 k4 _ (H8.out.2.2.2.1.upd V3.out) (H8.out.2.2.2.2.1.upd V3.out)).mono ?_
  rintro e u5 ⟨rfl, hU⟩
  have V5 := Lib.hid (V3.out.trans hU)
  clear hU
  go_wp2_with fail
  refine hK21.out _ _ (.inr (HS.out _ V5.out)) ?_
  iterate 9
    refine plan_take (v := ?_) rfl rfl (fun w' hS => ?_) ?_
    rotate_left
    · skip
      go_simp; try with_reducible rfl
    simp only [Act.put, List.getElem_toArray, List.getElem_cons_zero, List.getElem_cons_succ, List.setIfInBounds_toArray, List.set_cons_zero, List.set_cons_succ]
  refine plan_act rfl (fun K31 hK31 => ?_)
  go_wp2_with fail
  refine (keptB_any g a c0 l 71 _ (by omega) (ownsRow_upd H8.out.2.2.2.2.2.1 V5.out (fun _ _ h => h)) (HV.out.upd (H8.out.2.1.trans V5.out) (fun _ _ h => h))).mono ?_
  rintro e u6 ⟨rfl, hU⟩
  have V6 := Lib.hid (V5.out.trans hU)
  clear hU
  go_wp2_with fail
  refine hK31.out _ _ (.inr (HS.out _ V6.out)) ?_
  iterate 2
    refine plan_last (v := ?_) rfl rfl (fun w' hS => ?_) ?_
    rotate_left
    · skip
      go_simp; try with_reducible rfl
    simp only [Act.put, List.getElem_toArray, List.getElem_cons_zero, List.getElem_cons_succ, List.setIfInBounds_toArray, List.set_cons_zero, List.set_cons_succ]
  refine plan_end ?_
  go_wp2_with fail
  go_ret
  exact ⟨rfl, (HU.out.trans (H8.out.2.1.trans V6.out)).clean⟩
end Go.Proofs.YteefceainlfdfaaDoor
