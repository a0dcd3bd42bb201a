
/- Entries held against each other; copies of them with room behind. -/
import Derived.Test.YteefceainlfdfaaDoorObj8
import Derived.Test.YteefceainlfdfaaDoorHelp
import Derived.Test.YteefceainlfdfaaDoorObj9
namespace Go.Proofs.YteefceainlfdfaaDoor
set_option linter.unusedSimpArgs false
set_option linter.unusedVariables false
set_option maxRecDepth 100000
open Go.ChangeShapes Go.WideShapes Go.ChangeAt Go.RowKit

theorem ent_part0 (x : Ent) (w : World) : (part 9 (entA x) 0).run Tryd.prog w = .ok (.string (str x.path)) w := by
  simp [part, isAgg, run_underlying Tryd.underlying9, entA, entV, sv]
theorem ent_part1 (x : Ent) (w : World) : (part 4 (entA x) 1).run Tryd.prog w = .ok (.bool x.exec) w := by
  simp [part, isAgg, run_underlying Tryd.underlying4, entA, entV, sv]
theorem ent_part2 (x : Ent) (w : World) : (part 38 (entA x) 2).run Tryd.prog w = .ok (.agg (bvs x.key).toArray) w := by
  have hs : (sizeOf 38).run Tryd.prog w = .ok 32 w := by
    cases hq : Tryd.prog.info? 38 with
    | none => have := infoKey; rw [hq] at this; cases this
    | some i =>
      have := infoKey; rw [hq] at this
      simp at this
      simp [sizeOf, typeInfo, hq, this]
  have he : (entA x).extract 2 (2 + 32) = (bvs x.key).toArray := by
    unfold entA entV
    rw [List.extract_toArray]
    congr 1
    simp [List.extract, bvs, x.hk]
    rw [List.take_of_length_le (by simp [x.hk])]
  simp only [part, isAgg, run_underlying Tryd.underlying38, Sem.run_bind, Result.andThen_ok, Sem.run_pure, if_true, hs, he]
theorem eqF_cons {d : Nat} {xs ys : Array Value} {f : Field} {fs : List Field} {a b : Value} {w : World} (hn : f.name ≠ "_") (pa : (part f.type xs f.offset).run Tryd.prog w = .ok a w) (pb : (part f.type ys f.offset).run Tryd.prog w = .ok b w)
    (hr : (Op.equalIn d f.type a b).run Tryd.prog w = .ok true w) : (Op.eqFields d xs ys (f :: fs)).run Tryd.prog w = (Op.eqFields d xs ys fs).run Tryd.prog w := by
  rw [Op.eqFields, if_pos hn, Sem.run_bind, pa, Result.andThen_ok, Sem.run_bind, pb, Result.andThen_ok, Sem.run_bind, hr, Result.andThen_ok]
  rfl
theorem ent_eqIn (x : Ent) (w : World) : (Op.equalIn 10000 44 (.agg (entA x)) (.agg (entA x))).run Tryd.prog w = .ok true w := by
  have hk := run_equalIn_bytes (P := Tryd.prog) w 9997 38 5 32 Tryd.underlying38 Tryd.underlying5 (fun w => run_sizeOf_u8 w) x.key x.key x.hk x.hk
  rw [run_equalIn_agg (P := Tryd.prog) w 9999 44 (entA x) (entA x) (by kernel_rfl) (by kernel_rfl)]
  have hk' : (Op.equalIn 9999 38 (.agg (bvs x.key).toArray) (.agg (bvs x.key).toArray)).run Tryd.prog w = .ok true w := by
    have e : (bvs x.key).toArray = (x.key.map Extern.Stop.cell).toArray := rfl
    rw [e, hk]; simp
  have h0 : (Op.equalIn 9999 9 (.string (str x.path)) (.string (str x.path))).run Tryd.prog w = .ok true w := by
    have := run_equalIn_string (P := Tryd.prog) w 9998 9 (str x.path) (str x.path) Tryd.underlying9
    rw [this, beq_self_eq_true]
  have h1 : (Op.equalIn 9999 4 (.bool x.exec) (.bool x.exec)).run Tryd.prog w = .ok true w := by
    have := run_equalIn_bool' (P := Tryd.prog) w 9998 4 x.exec x.exec Tryd.underlying4
    rw [this, beq_self_eq_true]
  have p0 := ent_part0 x w
  have p1 := ent_part1 x w
  have p2 := ent_part2 x w
  unfold Program.fieldsOf
  rw [Tryd.underlying44]
  generalize entA x = X at *
  generalize (bvs x.key).toArray = k at *
  clear hk
  generalize (9999 : Nat) = d at *
  exact (eqF_cons (by decide) p0 p0 h0).trans ((eqF_cons (by decide) p1 p1 h1).trans ((eqF_cons (by decide) p2 p2 hk').trans rfl))
theorem ent_eql (x : Ent) (w : World) : (binOp .eql 44 (.agg (entA x)) (.agg (entA x))).run Tryd.prog w = .ok (.bool true) w := by
  rw [run_eql_struct, ent_eqIn]; rfl
theorem ent_neq (x : Ent) (w : World) : (binOp .neq 44 (.agg (entA x)) (.agg (entA x))).run Tryd.prog w = .ok (.bool false) w := by
  rw [run_neq_struct, ent_eqIn]; rfl
theorem exec_load_ent {w : World} {ev : Operand → Value} {o : Oper} (x : Operand) (ho : o.op = .load 44 x) (b p : Nat) (hx : ev x = .pointer (some ⟨b, p, none⟩)) (e : Ent) (hr : w.rangeAt b p (entV e)) :
    (execOp ev o).run Tryd.prog w = .ok (.value (.agg (entA e))) w := by
  have hl := run_loadVar_mid (P := Tryd.prog) w b p 44 (entV e) _ hr Tryd.underlying44 rfl (by rw [infoEnt, entV_len])
  unfold execOp
  simp only [ho, hx, Instr.loadAt, Instr.sureAddr, Sem.run_bind, Sem.run_pure, Result.andThen_ok, hl]
  rfl
theorem exec_eql_ent {w : World} {ev : Operand → Value} {o : Oper} (x y : Operand) (t : TypeId) (ho : o.op = .binOp .eql 44 x y t) (e : Ent) (hx : ev x = .agg (entA e)) (hy : ev y = .agg (entA e)) :
    (execOp ev o).run Tryd.prog w = .ok (.value (.bool true)) w := by
  have hg := run_eqGuard_agg (P := Tryd.prog) w .eql 44 x y (entA e) (entA e) (by kernel_rfl)
  unfold execOp
  simp only [ho, hx, hy, Sem.run_bind, hg, Result.andThen_ok, ent_eql, Sem.run_pure]
theorem exec_neq_ent {w : World} {ev : Operand → Value} {o : Oper} (x y : Operand) (t : TypeId) (ho : o.op = .binOp .neq 44 x y t) (e : Ent) (hx : ev x = .agg (entA e)) (hy : ev y = .agg (entA e)) :
    (execOp ev o).run Tryd.prog w = .ok (.value (.bool false)) w := by
  have hg := run_eqGuard_agg (P := Tryd.prog) w .neq 44 x y (entA e) (entA e) (by kernel_rfl)
  unfold execOp
  simp only [ho, hx, hy, Sem.run_bind, hg, Result.andThen_ok, ent_neq, Sem.run_pure]
theorem wpList_eql_ent {ops : Array Oper} {rest : List Oper} {op : Oper} {a : Act} {w : World} {Q : Exit → Act → World → Prop} (hgd : op.guard = none) (x y : Operand) (t : TypeId) (ho : op.op = .binOp .eql 44 x y t)
    (e : Ent) (hx : a.eval x = .agg (entA e)) (hy : a.eval y = .agg (entA e)) (h : wpList Tryd.prog ops Q rest (a.put op.dst (.bool true)) w) : wpList Tryd.prog ops Q (op :: rest) a w :=
  wpList_plain hgd fun _ hK => by
    unfold Oper.wp
    rw [exec_eql_ent x y t ho e hx hy]
    exact hK _ _ h

set_option maxHeartbeats 1000000 in
theorem eqlE_any (x : Ent) (w : World) : Calls Tryd.prog 83 #[.agg (entA x), .agg (entA x)] w fun e w' => e = .returned (.bool true) ∧ Upd (fun _ => False) w w' := by
  have hr1 := ent_row w x
  have hU1 := Upd.alloc (fun _ => False) w (.cells (entA x) 44)
  have hU2 := hU1.trans (Upd.alloc (fun _ => False) (w.alloc (.cells (entA x) 44)) (.cells (entA x) 44))
  have hr2 := ent_row (w.alloc (.cells (entA x) 44)) x
  have hr3 := range_upd hr1 (Upd.alloc (fun _ => False) (w.alloc (.cells (entA x) 44)) (.cells (entA x) 44)) (fun h => h)
  have hz : (w.alloc (.cells (entA x) 44)).heap.size = w.heap.size + 1 := by simp
  rw [hz] at hr2
  clear hr1 hU1 hz
  have HR := Lib.hid (And.intro hr3 (And.intro hr2 hU2))
  clear hr3 hr2 hU2
  go_enter Tryd.func83, Tryd.ntmps83
  go_upto_region 1 with (fail)
  obtain ⟨hr3, hr2, hU2⟩ := HR.out
  generalize (w.alloc (.cells (entA x) 44)).alloc (.cells (entA x) 44) = w1 at *
  have HU := Lib.hid hU2
  clear hU2 HR
  go_wp2_with first
    | refine wpList_load_ent rfl (.tmp 2) rfl w.heap.size 0 rfl x hr3 ?_
    | refine wpList_load_ent rfl (.tmp 3) rfl (w.heap.size + 1) 0 rfl x hr2 ?_
    | refine wpList_eql_ent rfl (.tmp 5) (.tmp 6) _ rfl x rfl rfl ?_
  go_ret
  exact ⟨rfl, HU.out⟩
end Go.Proofs.YteefceainlfdfaaDoor
