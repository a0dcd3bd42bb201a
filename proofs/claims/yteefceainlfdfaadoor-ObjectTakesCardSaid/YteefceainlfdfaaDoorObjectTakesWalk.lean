
/- The walk of ObjectTakes. -/
import Derived.Test.YteefceainlfdfaaDoorTake8
import Derived.Test.YteefceainlfdfaaDoorObj11
import Derived.Test.YteefceainlfdfaaDoorAwake15
namespace Go.Proofs.YteefceainlfdfaaDoor
set_option linter.unusedSimpArgs false
set_option linter.unusedVariables false
set_option maxRecDepth 100000
open Go.ChangeShapes Go.WideShapes Go.ChangeAt Go.RowKit

/-! Commits held against each other -/
theorem com_part0 (x : Com) (w : World) : (part 4 (comA x) 0).run Tryd.prog w = .ok (.bool x.rooted) w := by
  simp [part, isAgg, run_underlying Tryd.underlying4, comA, comV]
theorem sizeKey (w : World) : (sizeOf 38).run Tryd.prog w = .ok 32 w := by
  cases hq : Tryd.prog.info? 38 with
  | none => have := infoKey; rw [hq] at this; cases this
  | some i =>
    have := infoKey; rw [hq] at this
    simp at this
    simp [sizeOf, typeInfo, hq, this]
theorem com_extract (x : Com) : (comA x).extract 1 (1 + 32) = (bvs x.parent).toArray ∧ (comA x).extract 33 (33 + 32) = (bvs x.tree).toArray := by
  obtain ⟨r, p, t, m, s, hp, ht, h0, h1⟩ := x
  unfold comA comV
  constructor
  · rw [List.extract_toArray]
    congr 1
    simp [List.extract, bvs, hp]
  · rw [List.extract_toArray]
    congr 1
    simp [List.extract, bvs]
    rw [List.drop_append_of_le_length (by simp [hp]), List.drop_of_length_le (by simp [hp]), List.nil_append, List.take_append_of_le_length (by simp [ht]), List.take_of_length_le (by simp [ht])]
theorem com_part1 (x : Com) (w : World) : (part 38 (comA x) 1).run Tryd.prog w = .ok (.agg (bvs x.parent).toArray) w := by
  simp only [part, isAgg, run_underlying Tryd.underlying38, Sem.run_bind, Result.andThen_ok, Sem.run_pure, if_true, sizeKey, (com_extract x).1]
theorem com_part2 (x : Com) (w : World) : (part 38 (comA x) 33).run Tryd.prog w = .ok (.agg (bvs x.tree).toArray) w := by
  simp only [part, isAgg, run_underlying Tryd.underlying38, Sem.run_bind, Result.andThen_ok, Sem.run_pure, if_true, sizeKey, (com_extract x).2]
theorem com_part3 (x : Com) (w : World) : (part 9 (comA x) 65).run Tryd.prog w = .ok (.string (str x.msg)) w := by
  have h := (com_at x).2.2.2.1
  have e : (comA x)[65]? = some (sv x.msg) := (List.getElem?_toArray).trans h
  simp [part, isAgg, run_underlying Tryd.underlying9, e, sv]
theorem com_part4 (x : Com) (w : World) : (part 39 (comA x) 66).run Tryd.prog w = .ok (.int .u64 x.serial) w := by
  have h := (com_at x).2.2.2.2
  have e : (comA x)[66]? = some (.int .u64 x.serial) := (List.getElem?_toArray).trans h
  simp [part, isAgg, run_underlying Tryd.underlying39, e]
theorem com_eqIn (x : Com) (w : World) : (Op.equalIn 10000 41 (.agg (comA x)) (.agg (comA x))).run Tryd.prog w = .ok true w := by
  have hk := fun (k : List UInt8) (h : k.length = 32) => run_equalIn_bytes (P := Tryd.prog) w 9997 38 5 32 Tryd.underlying38 Tryd.underlying5 (fun w => run_sizeOf_u8 w) k k h h
  rw [run_equalIn_agg (P := Tryd.prog) w 9999 41 (comA x) (comA x) (by kernel_rfl) (by kernel_rfl)]
  have hk1 : (Op.equalIn 9999 38 (.agg (bvs x.parent).toArray) (.agg (bvs x.parent).toArray)).run Tryd.prog w = .ok true w := by
    have e : (bvs x.parent).toArray = (x.parent.map Extern.Stop.cell).toArray := rfl
    rw [e, hk _ x.hp]; simp
  have hk2 : (Op.equalIn 9999 38 (.agg (bvs x.tree).toArray) (.agg (bvs x.tree).toArray)).run Tryd.prog w = .ok true w := by
    have e : (bvs x.tree).toArray = (x.tree.map Extern.Stop.cell).toArray := rfl
    rw [e, hk _ x.ht]; simp
  have h0 : (Op.equalIn 9999 4 (.bool x.rooted) (.bool x.rooted)).run Tryd.prog w = .ok true w := by
    have := run_equalIn_bool' (P := Tryd.prog) w 9998 4 x.rooted x.rooted Tryd.underlying4
    rw [this, beq_self_eq_true]
  have h3 : (Op.equalIn 9999 9 (.string (str x.msg)) (.string (str x.msg))).run Tryd.prog w = .ok true w := by
    have := run_equalIn_string (P := Tryd.prog) w 9998 9 (str x.msg) (str x.msg) Tryd.underlying9
    rw [this, beq_self_eq_true]
  have h4 : (Op.equalIn 9999 39 (.int .u64 x.serial) (.int .u64 x.serial)).run Tryd.prog w = .ok true w := by
    have := run_equalIn_int (P := Tryd.prog) w 9998 39 .u64 .u64 x.serial x.serial Tryd.underlying39
    rw [this, beq_self_eq_true]
  have p0 := com_part0 x w
  have p1 := com_part1 x w
  have p2 := com_part2 x w
  have p3 := com_part3 x w
  have p4 := com_part4 x w
  unfold Program.fieldsOf
  rw [Tryd.underlying41]
  generalize comA x = X at *
  generalize (bvs x.parent).toArray = k1 at *
  generalize (bvs x.tree).toArray = k2 at *
  clear hk
  generalize (9999 : Nat) = d at *
  exact (eqF_cons (by decide) p0 p0 h0).trans ((eqF_cons (by decide) p1 p1 hk1).trans ((eqF_cons (by decide) p2 p2 hk2).trans ((eqF_cons (by decide) p3 p3 h3).trans ((eqF_cons (by decide) p4 p4 h4).trans rfl))))
theorem com_eql (x : Com) (w : World) : (binOp .eql 41 (.agg (comA x)) (.agg (comA x))).run Tryd.prog w = .ok (.bool true) w := by
  rw [run_eql_struct, com_eqIn]; rfl
theorem exec_eql_com {w : World} {ev : Operand → Value} {o : Oper} (x y : Operand) (t : TypeId) (ho : o.op = .binOp .eql 41 x y t) (e : Com) (hx : ev x = .agg (comA e)) (hy : ev y = .agg (comA e)) :
    (execOp ev o).run Tryd.prog w = .ok (.value (.bool true)) w := by
  have hg := run_eqGuard_agg (P := Tryd.prog) w .eql 41 x y (comA e) (comA e) (by kernel_rfl)
  unfold execOp
  simp only [ho, hx, hy, Sem.run_bind, hg, Result.andThen_ok, com_eql, Sem.run_pure]
theorem wpList_eqlG {ops : Array Oper} {rest : List Oper} {op : Oper} {a : Act} {w : World} {Q : Exit → Act → World → Prop} (hw : Region.wanted op (yielded ops a.tmps) = true) (x y : Operand) (t : TypeId) (ho : op.op = .binOp .eql 41 x y t)
    (e : Com) (hx : a.eval x = .agg (comA e)) (hy : a.eval y = .agg (comA e)) (h : wpList Tryd.prog ops Q rest (a.put op.dst (.bool true)) w) : wpList Tryd.prog ops Q (op :: rest) a w := by
  simp only [wpList, hw, if_true]
  refine .inl ?_
  unfold Oper.wp
  rw [exec_eql_com x y t ho e hx hy]
  exact h
theorem wpList_loadCG {ops : Array Oper} {rest : List Oper} {op : Oper} {a : Act} {w : World} {Q : Exit → Act → World → Prop} (hw : Region.wanted op (yielded ops a.tmps) = true) (x : Operand) (ho : op.op = .load 41 x)
    (b : Nat) (hx : a.eval x = .pointer (some ⟨b, 0, none⟩)) (e : Com) (hr : w.heap[b]? = some (.cells (comA e) 41)) (h : wpList Tryd.prog ops Q rest (a.put op.dst (.agg (comA e))) w) : wpList Tryd.prog ops Q (op :: rest) a w := by
  have hl := run_loadVar_mid (P := Tryd.prog) w b 0 41 (comV e) _ (fun j u hu => by rw [cell_of_row _ _ _ _ _ _ hr]; simpa [comA] using hu) Tryd.underlying41 rfl (by rw [infoComm, comV_len])
  simp only [wpList, hw, if_true]
  refine .inl ?_
  unfold Oper.wp execOp
  simp only [ho, hx, Instr.loadAt, Instr.sureAddr, Sem.run_bind, Sem.run_pure, Result.andThen_ok, hl]
  exact h

set_option maxHeartbeats 8000000 in
theorem ObjectTakes_walk (w : World) (a : Option Addr) (c : Nat) (l : List UInt8) (hv : Vw w a l.length c 1 (bvs l)) (hb : ∀ b, blk a = some b → b < w.heap.size) :
    Calls Tryd.prog 9 #[.slice a l.length c] w fun e w' => e = .returned (.bool true) ∧ Below w.heap.size w w' := by
  have hcap := hv.cap
  have hlc := hv.le
  unfold maxLen at hcap
  by_cases h1 : 4000 < l.length
  · have hI : (4000 : Int) < (l.length : Int) := by omega
    go_enter Tryd.func9, Tryd.ntmps9
    go_wp2_with fail
    refine (awake15_any _).mono ?_
    rintro e w3 ⟨rfl, hU⟩
    go_wp2_with fail
    go_ret
    exact ⟨rfl, hU.clean⟩
  have hI : decide ((4000 : Int) < (l.length : Int)) = false := by rw [decide_eq_false_iff_not]; omega
  have hown : Calls Tryd.prog 25 #[.slice a l.length c, .int .u8 71] w (OwnedB w l 71) := ownB_any a c l 71 w hv (by omega)
  have HOW := Lib.hid hown
  have HV := Lib.hid hv
  have HB := Lib.hid hb
  clear hown hv hb
  go_enter Tryd.func9, Tryd.ntmps9
  go_wp2_with fail
  refine HOW.out.mono ?_
  unfold OwnedB
  rintro e w1 ⟨g, rfl, hown, hU1, hg⟩
  have hvi : Vw w1 (some ⟨g, 0, none⟩) l.length (l.length + 3) 1 (bvs l) := by
    have := (Vw.of_own hown).pre l.length (by omega)
    simpa [bvs] using this
  have HW1 := Lib.hid (And.intro hown (And.intro hvi (And.intro (HV.out.upd hU1 (fun _ _ h => h)) hU1)))
  clear hown hvi hU1 hg HOW hI
  go_wp2_with fail
  refine (oTakeBlob_any (some ⟨g, 0, none⟩) (l.length + 3) l w1 HW1.out.2.1).mono ?_
  rintro e w' ⟨rfl, rfl⟩
  go_wp2_with fail
  refine (r15TakeBlob_any a c l w1 HW1.out.2.2.1).mono ?_
  rintro e w' ⟨rfl, rfl⟩
  go_wp2_with fail
  refine (oTakeTree_any (some ⟨g, 0, none⟩) (l.length + 3) l w1 HW1.out.2.1 (by omega)).mono ?_
  unfold TookE
  rintro e w2 ⟨a2, c2, rfl, hv2, hU2⟩
  have HV2 := Lib.hid hv2
  have HU2 := Lib.hid hU2
  clear hv2 hU2
  go_wp2_with fail
  refine (r15TakeTree_any a c l w2 (HW1.out.2.2.1.upd HU2.out (fun _ _ h => h)) (by omega) (fun b h => by have := HB.out b h; have := HW1.out.2.2.2.size; have := HU2.out.size; omega)).mono ?_
  unfold TookE
  rintro e w3 ⟨a3, c3, rfl, hv3, hU3⟩
  have HV3 := Lib.hid hv3
  have HU3 := Lib.hid hU3
  clear hv3 hU3
  go_wp2_with fail
  refine (oTakeCommit_any (some ⟨g, 0, none⟩) (l.length + 3) l w3 (HW1.out.2.1.upd (HU2.out.trans HU3.out) (fun _ _ h => h)) (by omega)).mono ?_
  unfold TookC
  rintro e w4 ⟨rfl, hU4⟩
  have hUa := Upd.alloc (fun _ => False) w4 (.cells (comA (tcomC l)) 41)
  have HA := Lib.hid (And.intro (hU4.trans hUa) (heap_alloc_new w4 (.cells (comA (tcomC l)) 41)))
  clear hU4 hUa
  generalize hxx : tcomC l = x at *
  have HXX := Lib.hid hxx
  clear hxx
  obtain ⟨b12, hb12⟩ : ∃ b, b = w4.heap.size := ⟨_, rfl⟩
  have hrz := heap_alloc_new w4 (.cells Tryd.zeroCells41 41)
  have hrx := alloc_setRow w4 Tryd.zeroCells41 (comA x) 41
  have HZ := Lib.hid (And.intro hrz hrx)
  clear hrz hrx
  go_upto_region 9 with (refine wpList_storeC rfl (.tmp 12) (.tmp 45) rfl w4.heap.size Tryd.zeroCells41 rfl x rfl HZ.out.1 rfl ?_; rw [HZ.out.2])
  try simp only [Act.put]
  rw [← hb12] at HA ⊢
  generalize w4.alloc (.cells (comA x) 41) = w5 at *
  clear HZ hb12
  have htc := r15TakeCommit_any a c l w5 (HW1.out.2.2.1.upd ((HU2.out.trans HU3.out).trans HA.out.1) (fun _ _ h => h)) (by omega) (fun b h => by have := HB.out b h; have := HW1.out.2.2.2.size; have := HU2.out.size; have := HU3.out.size; have := HA.out.1.size; omega)
  rw [HXX.out] at htc
  have HTC := Lib.hid htc
  clear htc
  go_wp2_with fail
  refine HTC.out.mono ?_
  unfold TookC
  rintro e w6 ⟨rfl, hU6⟩
  have hUa := Upd.alloc (fun _ => False) w6 (.cells (comA x) 41)
  have HC := Lib.hid (And.intro (hU6.trans hUa) (heap_alloc_new w6 (.cells (comA x) 41)))
  clear hU6 hUa HTC
  obtain ⟨b14, hb14⟩ : ∃ b, b = w6.heap.size := ⟨_, rfl⟩
  have hrz := heap_alloc_new w6 (.cells Tryd.zeroCells41 41)
  have hrx := alloc_setRow w6 Tryd.zeroCells41 (comA x) 41
  have HZ := Lib.hid (And.intro hrz hrx)
  clear hrz hrx
  go_upto_region 10 with (refine wpList_storeC rfl (.tmp 14) (.tmp 50) rfl w6.heap.size Tryd.zeroCells41 rfl x rfl HZ.out.1 rfl ?_; rw [HZ.out.2])
  try simp only [Act.put]
  rw [← hb14] at HC ⊢
  generalize w6.alloc (.cells (comA x) 41) = w7 at *
  clear HZ hb14
  have HR12 := Lib.hid ((HC.out.1.block b12 (lt_of_heap HA.out.2) (fun h => h)).trans HA.out.2)
  have HR14 := Lib.hid HC.out.2
  have HU47 := Lib.hid (HA.out.1.trans HC.out.1)
  clear HA HC
  generalize (tblobL l).1 = tb at *
  generalize (tblobL l).2 = te at *
  generalize ttreeE l = ee at *
  generalize tcomE l = ce at *
  go_wp2_with fail
  refine (awake15_any _).mono ?_
  rintro e w8 ⟨rfl, hU8⟩
  have hU28 := (HU3.out.trans HU47.out).trans hU8
  have hU18 := HU2.out.trans hU28
  have hU38 := HU47.out.trans hU8
  have hk1 := oKind_any (some ⟨g, 0, none⟩) (l.length + 3) l w8 (HW1.out.2.1.upd hU18 (fun _ _ h => h))
  have hk2 := r15Kind_any a c l w8 (HW1.out.2.2.1.upd hU18 (fun _ _ h => h))
  have hpe := plainE_any a2 a3 c2 c3 (ttreeL l) w8 (HV2.out.upd hU28 (fun _ _ h => h)) (HV3.out.upd hU38 (fun _ _ h => h))
  have HK := Lib.hid (And.intro hk1 (And.intro hk2 hpe))
  have HU8 := Lib.hid (And.intro hU8 hU18)
  clear hU8 hU28 hU18 hU38 hk1 hk2 hpe
  generalize kindL l = kd at *
  go_wp2_with fail
  refine HK.out.1.mono ?_
  rintro e w' ⟨rfl, rfl⟩
  go_wp2_with fail
  refine HK.out.2.1.mono ?_
  rintro e w' ⟨rfl, rfl⟩
  go_wp2_with fail
  refine HK.out.2.2.mono ?_
  rintro e w9 ⟨rfl, hU9⟩
  have hr12 := ((HU8.out.1.trans hU9).block b12 (lt_of_heap HR12.out) (fun h => h)).trans HR12.out
  have hr14 := ((HU8.out.1.trans hU9).block b14 (lt_of_heap HR14.out) (fun h => h)).trans HR14.out
  have HRR := Lib.hid (And.intro hr12 hr14)
  have hkp : Calls Tryd.prog 32 #[.slice (some ⟨g, 0, none⟩) l.length (l.length + 3), .slice a l.length c, .int .u8 71] w9 _ := keptB_any g a c l 71 w9 (by omega) (ownsRow_upd HW1.out.1 (HU8.out.2.trans hU9) (fun _ _ h => h)) (HW1.out.2.2.1.upd (HU8.out.2.trans hU9) (fun _ _ h => h))
  have HKP := Lib.hid hkp
  have HU9 := Lib.hid (HW1.out.2.2.2.trans (HU8.out.2.trans hU9))
  clear hr12 hr14 hkp hU9 HK
  go_wp2_with first
    | refine wpList_loadCG rfl (.tmp 12) rfl b12 rfl x HRR.out.1 ?_
    | refine wpList_loadCG rfl (.tmp 14) rfl b14 rfl x HRR.out.2 ?_
    | refine wpList_eqlG rfl (.tmp 81) (.tmp 82) _ rfl x rfl rfl ?_
  refine HKP.out.mono ?_
  rintro e w10 ⟨rfl, hU10⟩
  have HU10 := Lib.hid (HU9.out.trans hU10)
  clear hU10
  go_wp2_with fail
  go_ret
  exact ⟨rfl, HU10.out.clean⟩
end Go.Proofs.YteefceainlfdfaaDoor
