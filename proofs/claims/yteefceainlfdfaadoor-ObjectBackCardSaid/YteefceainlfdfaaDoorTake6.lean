
/- Commits as values; the reference's TakeCommit. -/
import Derived.Test.YteefceainlfdfaaDoorTake5
import Derived.Test.YteefceainlfdfaaDoorObj10
namespace Go.Proofs.YteefceainlfdfaaDoor
set_option linter.unusedSimpArgs false
set_option linter.unusedVariables false
set_option maxRecDepth 100000
open Go.ChangeShapes Go.WideShapes Go.ChangeAt Go.RowKit

theorem infoComm : (Tryd.prog.info? 41).map (·.size) = some 67 := by kernel_rfl
theorem comA_one (x : Com) : (comA x).all (·.oneCell') = true := by unfold comA comV; simp [bvs, bv, sv, Value.oneCell']
theorem infoComm2 (x : Com) : (Tryd.prog.info? 41).map (·.size) = some (comA x).size := by rw [infoComm, comA_size]
theorem wpList_loadC {ops : Array Oper} {rest : List Oper} {op : Oper} {a : Act} {w : World} {Q : Exit → Act → World → Prop} (hgd : op.guard = none) (x : Operand) (ho : op.op = .load 41 x)
    (b : Nat) (hx : a.eval x = .pointer (some ⟨b, 0, none⟩)) (e : Com) (hr : w.heap[b]? = some (.cells (comA e) 41)) (h : wpList Tryd.prog ops Q rest (a.put op.dst (.agg (comA e))) w) : wpList Tryd.prog ops Q (op :: rest) a w :=
  wpList_load_mid hgd 41 x ho b 0 hx (comV e) _ (fun j u hu => by rw [cell_of_row _ _ _ _ _ _ hr]; simpa [comA] using hu) Tryd.underlying41 rfl (by rw [infoComm, comV_len]) h
theorem wpList_storeC {ops : Array Oper} {rest : List Oper} {op : Oper} {a : Act} {w : World} {Q : Exit → Act → World → Prop} (hgd : op.guard = none) (x y : Operand) (ho : op.op = .store 41 x y)
    (b : Nat) (old : Array Value) (hx : a.eval x = .pointer (some ⟨b, 0, none⟩)) (e : Com) (hy : a.eval y = .agg (comA e)) (hg : w.heap[b]? = some (.cells old 41)) (hz : old.size = 67)
    (h : wpList Tryd.prog ops Q rest (a.put op.dst undef) (w.setRow b (comA e))) : wpList Tryd.prog ops Q (op :: rest) a w :=
  wpList_store_row hgd 41 x y ho b (comA e) old 41 hx hy hg (infoComm2 e) (by rw [hz, comA_size]) (comA_one e) h
theorem exec_build_com {w : World} {ev : Operand → Value} {o : Oper} (a b c d f : Operand) (ho : o.op = .build 41 #[(0, a), (1, b), (2, c), (3, d), (4, f)]) (x : Com) (ha : ev a = .bool x.rooted) (hb : ev b = .agg (bvs x.parent).toArray) (hc : ev c = .agg (bvs x.tree).toArray)
    (hd : ev d = .string (str x.msg)) (hf : ev f = .int .u64 x.serial) : (execOp ev o).run Tryd.prog w = .ok (.value (.agg (comA x))) w := by
  have h := run_build (P := Tryd.prog) w 41 #[(0, .bool x.rooted), (1, .agg (bvs x.parent).toArray), (2, .agg (bvs x.tree).toArray), (3, .string (str x.msg)), (4, .int .u64 x.serial)] (comA x) (com_built x)
  unfold execOp
  simp only [ho, List.map_toArray, List.map_cons, List.map_nil, ha, hb, hc, hd, hf, Sem.run_bind, h, Result.andThen_ok, Sem.run_pure]
theorem wpList_build_com {ops : Array Oper} {rest : List Oper} {op : Oper} {ac : Act} {w : World} {Q : Exit → Act → World → Prop} (hgd : op.guard = none) (a b c d f : Operand) (ho : op.op = .build 41 #[(0, a), (1, b), (2, c), (3, d), (4, f)])
    (x : Com) (ha : ac.eval a = .bool x.rooted) (hb : ac.eval b = .agg (bvs x.parent).toArray) (hc : ac.eval c = .agg (bvs x.tree).toArray)
    (hd : ac.eval d = .string (str x.msg)) (hf : ac.eval f = .int .u64 x.serial) (h : wpList Tryd.prog ops Q rest (ac.put op.dst (.agg (comA x))) w) : wpList Tryd.prog ops Q (op :: rest) ac w :=
  wpList_plain hgd fun _ hK => by
    unfold Oper.wp
    rw [exec_build_com a b c d f ho x ha hb hc hd hf]
    exact hK _ _ h
theorem ret_com {fn : Func} {R : Ending → World → Prop} {a : Act} {w : World} {p u : Tmp} (h : fn.results = #[.cell p 41, .tmp u]) (b : Nat) (x : Com) (e : Int)
    (hp : a.tmps.getD p undef = .pointer (some ⟨b, 0, none⟩)) (hg : w.heap[b]? = some (.cells (comA x) 41)) (hv : a.tmps.getD u undef = .int .i64 e) (hdf : a.defers = []) (hR : R (.returned (.tuple #[.agg (comA x), .int .i64 e])) w) : bodyPost Tryd.prog fn R .ret a w := by
  refine bodyPost_ret (v := .tuple #[.agg (comA x), .int .i64 e]) ?_ hdf hR
  have := run_loadVar_row (P := Tryd.prog) w b 41 41 (comA x) (0, 0) _ hg Tryd.underlying41 (by simp) (infoComm2 x)
  rw [results_cell_tmp h, hp, hv]
  simp [Result.andThen, asAddr, this]

def comZ : Com := ⟨false, key0, key0, [], 0, rfl, rfl, by decide, by decide⟩
theorem take8_lt (s : RS) : (leN (takeS 8 s).1 : Int) < 2 ^ 64 := by
  have h := leN_lt (takeS 8 s).1
  have h2 : (takeS 8 s).1.length ≤ 8 := by
    unfold takeS
    split
    · simp
    split
    · simp
    · simp; omega
  have h3 : 256 ^ (takeS 8 s).1.length ≤ 256 ^ 8 := Nat.pow_le_pow_right (by decide) h2
  have h4 : (256 ^ 8 : Nat) = 18446744073709551616 := by decide
  omega
/-- A commit that is read. -/
def comS (s : RS) : Com × RS :=
  (⟨(boolS s).1, (keyS (boolS s).2).1, (keyS (keyS (boolS s).2).2).1, (textS (keyS (keyS (boolS s).2).2).2).1, (leN (takeS 8 (textS (keyS (keyS (boolS s).2).2).2).2).1 : Int), keyS_len _, keyS_len _, by omega, take8_lt _⟩,
   (takeS 8 (textS (keyS (keyS (boolS s).2).2).2).2).2)
theorem comS_at (s : RS) : ∃ (x : Com) (s2 : RS), comS s = (x, s2) ∧ (boolS s).1 = x.rooted ∧ (keyS (boolS s).2).1 = x.parent ∧ (keyS (keyS (boolS s).2).2).1 = x.tree ∧ (textS (keyS (keyS (boolS s).2).2).2).1 = x.msg ∧
    (leN (takeS 8 (textS (keyS (keyS (boolS s).2).2).2).2).1 : Int) = x.serial ∧ (takeS 8 (textS (keyS (keyS (boolS s).2).2).2).2).2 = s2 :=
  ⟨_, _, rfl, rfl, rfl, rfl, rfl, rfl, rfl⟩
def tcomE (l : List UInt8) : Int := if kindL l ≠ 3 then 5 else endI (comS ⟨l.tail, 0⟩).2.e (comE (comS ⟨l.tail, 0⟩).1) (comB (comS ⟨l.tail, 0⟩).1) l
def tcomC (l : List UInt8) : Com := if tcomE l ≠ 0 then comZ else (comS ⟨l.tail, 0⟩).1
def TookC (w : World) (x : Com) (e0 : Int) (e : Ending) (w' : World) : Prop := e = .returned (.tuple #[.agg (comA x), .int .i64 e0]) ∧ Upd (fun _ => False) w w'
end Go.Proofs.YteefceainlfdfaaDoor
