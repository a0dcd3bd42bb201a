
/- The walk of ObjectWrites. -/
import Derived.Test.YteefceainlfdfaaDoorAwake15
import Derived.Test.YteefceainlfdfaaDoorOpenE
namespace Go.Proofs.YteefceainlfdfaaDoor
set_option linter.unusedSimpArgs false
set_option linter.unusedVariables false
set_option maxRecDepth 100000
open Go.ChangeShapes Go.WideShapes Go.ChangeAt Go.RowKit

theorem infoCom : (Tryd.prog.info? 41).map (·.size) = some 67 := by kernel_rfl
theorem wpList_load_com {ops : Array Oper} {rest : List Oper} {op : Oper} {a : Act} {w : World} {Q : Exit → Act → World → Prop} (hgd : op.guard = none) (x : Operand) (ho : op.op = .load 41 x)
    (b : Nat) (hx : a.eval x = .pointer (some ⟨b, 0, none⟩)) (e : Com) (hr : w.heap[b]? = some (.cells (comA e) 41)) (h : wpList Tryd.prog ops Q rest (a.put op.dst (.agg (comA e))) w) : wpList Tryd.prog ops Q (op :: rest) a w :=
  wpList_load_mid hgd 41 x ho b 0 hx (comV e) _ (fun j u hu => by rw [cell_of_row _ _ _ _ _ _ hr]; simpa [comA] using hu) Tryd.underlying41 rfl (by rw [infoCom, comV_len]) h
def fillE : Ent := ⟨[55, 49], false, key0, rfl⟩

set_option maxHeartbeats 8000000 in
theorem ObjectWrites_walk (w : World) (ss : ByteArray) (ws : ss.size ≤ maxLen) (a : Option Addr) (c : Nat) (l : List Ent) (hv : Vw w a l.length c 34 (l.flatMap entV)) (cm : Com) :
    Calls Tryd.prog 5 #[.string ss, .slice a l.length c, .agg (comA cm)] w fun e w' => e = .returned (.bool true) ∧ Below w.heap.size w w' := by
  obtain ⟨s, rfl⟩ : ∃ s, ss = str s := ⟨ss.data.toList, (str_data ss).symm⟩
  clear ws
  have hss := str_size s
  have hsm := str_size cm.msg
  have hcap := hv.cap
  have hlc := hv.le
  unfold maxLen at hcap
  have hUa := Upd.alloc (fun _ => False) w (.cells (comA cm) 41)
  have hrow := heap_alloc_new w (.cells (comA cm) 41)
  have HF := Lib.hid (And.intro hUa (And.intro hrow (hv.upd hUa (fun _ _ h => h))))
  clear hv hUa hrow
  go_enter Tryd.func5, Tryd.ntmps5
  go_upto_region 1 with (fail)
  obtain ⟨hUa, hrow, hv⟩ := HF.out
  obtain ⟨B, hB⟩ : ∃ B, B = w.heap.size := ⟨_, rfl⟩
  rw [← hB] at hrow ⊢
  generalize w.alloc (.cells (comA cm) 41) = y at *
  have hcell := (com_cells hrow).2.2.2.1
  have HY := Lib.hid (And.intro hUa (And.intro hrow hv))
  clear hUa hrow hv HF hB
  by_cases h1 : 30000 < s.length
  · have hI : (30000 : Int) < (s.length : Int) := by omega
    go_wp2_with fail
    refine (awake15_any _).mono ?_
    rintro e w3 ⟨rfl, hU⟩
    have HU4 := Lib.hid (HY.out.1.trans hU)
    clear hU
    go_wp2_with fail
    go_ret
    exact ⟨rfl, HU4.out.clean⟩
  have hI1 : decide ((30000 : Int) < (s.length : Int)) = false := by rw [decide_eq_false_iff_not]; omega
  by_cases h2 : 110 < l.length
  · have hI : (110 : Int) < (l.length : Int) := by omega
    go_wp2_with fail
    refine (awake15_any _).mono ?_
    rintro e w3 ⟨rfl, hU⟩
    have HU4 := Lib.hid (HY.out.1.trans hU)
    clear hU
    go_wp2_with fail
    go_ret
    exact ⟨rfl, HU4.out.clean⟩
  have hI2 : decide ((110 : Int) < (l.length : Int)) = false := by rw [decide_eq_false_iff_not]; omega
  by_cases h3 : 2000 < cm.msg.length
  · have hI : (2000 : Int) < (cm.msg.length : Int) := by omega
    go_wp2_with fail
    refine (awake15_any _).mono ?_
    rintro e w3 ⟨rfl, hU⟩
    have HU4 := Lib.hid (HY.out.1.trans hU)
    clear hU
    go_wp2_with fail
    go_ret
    exact ⟨rfl, HU4.out.clean⟩
  have hI3 : decide ((2000 : Int) < (cm.msg.length : Int)) = false := by rw [decide_eq_false_iff_not]; omega
  have hown0 := ownE_any a c l fillE y HY.out.2.2 (by omega)
  have HOW := Lib.hid hown0
  clear hown0
  go_wp2_with fail
  refine HOW.out.mono ?_
  unfold OwnedE
  rintro e w1 ⟨g, rfl, hown, hU1, hg⟩
  have hvi : Vw w1 (some ⟨g, 0, none⟩) l.length (l.length + 3) 34 (l.flatMap entV) := by
    have := (Vw.of_own hown).pre l.length (by omega)
    rwa [ent_take _ _ (by simp), List.take_left] at this
  have HW1 := Lib.hid (And.intro hown (And.intro hvi (And.intro (HY.out.2.2.upd hU1 (fun _ _ h => h)) (And.intro ((hU1.block B (lt_of_heap HY.out.2.1) (fun h => h)).trans HY.out.2.1) (HY.out.1.trans hU1)))))
  clear hown hvi hU1 hg HOW hcell HY
  have HU1 := Lib.hid (Upd.refl (fun _ => False) w1)
  go_wp2_with fail
  refine (oBlob_any s _).mono ?_
  unfold Packed
  rintro e w2 ⟨a2, c2, rfl, hv2, hf, hU⟩
  have HV2 := Lib.hid hv2
  have HS2 := Lib.hid hU
  have HU2 := Lib.hid (HU1.out.trans hU)
  clear hv2 hf hU
  go_wp2_with fail
  refine (r15Blob_any s _).mono ?_
  unfold Packed
  rintro e w3 ⟨a3, c3, rfl, hv3, hf, hU⟩
  have HV3 := Lib.hid hv3
  have HS3 := Lib.hid hU
  have HU3 := Lib.hid (HU2.out.trans hU)
  clear hv3 hf hU
  go_wp2_with fail
  refine (oTree_any (some ⟨g, 0, none⟩) (l.length + 3) l _ (HW1.out.2.1.upd HU3.out (fun _ _ h => h))).mono ?_
  unfold Packed
  rintro e w4 ⟨a4, c4, rfl, hv4, hf, hU⟩
  have HV4 := Lib.hid hv4
  have HS4 := Lib.hid hU
  have HU4 := Lib.hid (HU3.out.trans hU)
  clear hv4 hf hU
  go_wp2_with fail
  refine (r15Tree_any a c l _ (HW1.out.2.2.1.upd HU4.out (fun _ _ h => h))).mono ?_
  unfold Packed
  rintro e w5 ⟨a5, c5, rfl, hv5, hf, hU⟩
  have HV5 := Lib.hid hv5
  have HS5 := Lib.hid hU
  have HU5 := Lib.hid (HU4.out.trans hU)
  clear hv5 hf hU
  go_wp2_with (refine wpList_load_com rfl (.tmp 5) rfl B rfl cm ((HU5.out.block B (lt_of_heap HW1.out.2.2.2.1) (fun h => h)).trans HW1.out.2.2.2.1) ?_)
  refine (oCommit_any cm _).mono ?_
  unfold Packed
  rintro e w6 ⟨a6, c6, rfl, hv6, hf, hU⟩
  have HV6 := Lib.hid hv6
  have HS6 := Lib.hid hU
  have HU6 := Lib.hid (HU5.out.trans hU)
  clear hv6 hf hU
  go_wp2_with (refine wpList_load_com rfl (.tmp 5) rfl B rfl cm ((HU6.out.block B (lt_of_heap HW1.out.2.2.2.1) (fun h => h)).trans HW1.out.2.2.2.1) ?_)
  refine (r15Commit_any cm _).mono ?_
  unfold Packed
  rintro e w7 ⟨a7, c7, rfl, hv7, hf, hU⟩
  have HV7 := Lib.hid hv7
  have HS7 := Lib.hid hU
  have HU7 := Lib.hid (HU6.out.trans hU)
  clear hv7 hf hU
  go_wp2_with fail
  refine (awake15_any _).mono ?_
  rintro e w8 ⟨rfl, hU⟩
  have HS8 := Lib.hid hU
  have HU8 := Lib.hid (HU7.out.trans hU)
  clear hU
  have hx1 := sBytes_any a2 a3 c2 c3 (blobL s) (blobL s) w8 (HV2.out.upd (((((((Upd.refl (fun _ => False) w2).trans HS3.out).trans HS4.out).trans HS5.out).trans HS6.out).trans HS7.out).trans HS8.out) (fun _ _ h => h)) (HV3.out.upd ((((((Upd.refl (fun _ => False) w3).trans HS4.out).trans HS5.out).trans HS6.out).trans HS7.out).trans HS8.out) (fun _ _ h => h))
  have hx2 := sBytes_any a4 a5 c4 c5 (treeB l) (treeB l) w8 (HV4.out.upd (((((Upd.refl (fun _ => False) w4).trans HS5.out).trans HS6.out).trans HS7.out).trans HS8.out) (fun _ _ h => h)) (HV5.out.upd ((((Upd.refl (fun _ => False) w5).trans HS6.out).trans HS7.out).trans HS8.out) (fun _ _ h => h))
  have hx3 := sBytes_any a6 a7 c6 c7 (comB cm) (comB cm) w8 (HV6.out.upd (((Upd.refl (fun _ => False) w6).trans HS7.out).trans HS8.out) (fun _ _ h => h)) (HV7.out.upd ((Upd.refl (fun _ => False) w7).trans HS8.out) (fun _ _ h => h))
  rw [beq_self_eq_true] at hx1 hx2 hx3
  have hkp : Calls Tryd.prog 23 #[.slice (some ⟨g, 0, none⟩) l.length (l.length + 3), .slice a l.length c, .agg (entA fillE)] w8 _ := keptE_any g a c l fillE w8 (by omega) (ownsRow_upd HW1.out.1 HU8.out (fun _ _ h => h)) (HW1.out.2.2.1.upd HU8.out (fun _ _ h => h))
  generalize blobE s = eB at *
  generalize treeE l = eT at *
  generalize comE cm = eC at *
  have HX := Lib.hid (And.intro hx1 (And.intro hx2 (And.intro hx3 hkp)))
  clear hx1 hx2 hx3 hkp
  go_wp2_with fail
  refine HX.out.1.mono ?_
  rintro e w9 ⟨rfl, rfl⟩
  go_wp2_with fail
  refine HX.out.2.1.mono ?_
  rintro e w9 ⟨rfl, rfl⟩
  go_wp2_with fail
  refine HX.out.2.2.1.mono ?_
  rintro e w9 ⟨rfl, rfl⟩
  go_wp2_with fail
  refine HX.out.2.2.2.mono ?_
  rintro e w9 ⟨rfl, hU⟩
  have HU9 := Lib.hid ((HW1.out.2.2.2.2.trans HU8.out).trans hU)
  clear hU
  go_wp2_with fail
  go_ret
  exact ⟨rfl, HU9.out.clean⟩
end Go.Proofs.YteefceainlfdfaaDoor
