
/- object.Commit. -/
import Derived.Test.YteefceainlfdfaaDoorObj6
import Derived.Stop.BytesEq
namespace Go.Proofs.YteefceainlfdfaaDoor
set_option linter.unusedSimpArgs false
set_option linter.unusedVariables false
set_option maxRecDepth 100000
open Go.ChangeShapes Go.WideShapes Go.ChangeAt Go.RowKit

theorem run_sizeOf_u8 (w : World) : (sizeOf 5).run Tryd.prog w = .ok 1 w := by
  obtain ⟨i0, hi, _⟩ := info_parts infoU8
  rw [run_sizeOf w hi, show Tryd.prog.cellsOf 5 = 1 from by kernel_rfl]
theorem key_eql (x y : List UInt8) (hx : x.length = 32) (hy : y.length = 32) (w : World) : (binOp .eql 38 (.agg (bvs x).toArray) (.agg (bvs y).toArray)).run Tryd.prog w = .ok (.bool (x == y)) w :=
  run_eql_bytes w 38 5 32 Tryd.underlying38 Tryd.underlying5 (fun w => run_sizeOf_u8 w) x y hx hy
theorem key_neq (x y : List UInt8) (hx : x.length = 32) (hy : y.length = 32) (w : World) : (binOp .neq 38 (.agg (bvs x).toArray) (.agg (bvs y).toArray)).run Tryd.prog w = .ok (.bool (!(x == y))) w := by
  have h := run_equalIn_bytes (P := Tryd.prog) w 9998 38 5 32 Tryd.underlying38 Tryd.underlying5 (fun w => run_sizeOf_u8 w) x y hx hy
  rw [run_neq_struct]
  have e : (bvs x).toArray = (x.map Extern.Stop.cell).toArray := rfl
  have e2 : (bvs y).toArray = (y.map Extern.Stop.cell).toArray := rfl
  rw [e, e2, h]
  rfl
def key0 : List UInt8 := List.replicate 32 0
theorem key0_len : key0.length = 32 := rfl
theorem key_neq0 (x : List UInt8) (hx : x.length = 32) (w : World) : (binOp .neq 38 (.agg (bvs x).toArray) (.agg #[.int .u8 0, .int .u8 0, .int .u8 0, .int .u8 0, .int .u8 0, .int .u8 0, .int .u8 0, .int .u8 0, .int .u8 0, .int .u8 0, .int .u8 0, .int .u8 0, .int .u8 0, .int .u8 0, .int .u8 0, .int .u8 0, .int .u8 0, .int .u8 0, .int .u8 0, .int .u8 0, .int .u8 0, .int .u8 0, .int .u8 0, .int .u8 0, .int .u8 0, .int .u8 0, .int .u8 0, .int .u8 0, .int .u8 0, .int .u8 0, .int .u8 0, .int .u8 0])).run Tryd.prog w = .ok (.bool (!(x == key0))) w :=
  key_neq x key0 hx key0_len w
theorem wpList_load_keyG {ops : Array Oper} {rest : List Oper} {op : Oper} {a : Act} {w : World} {Q : Exit → Act → World → Prop} (hw : Region.wanted op (yielded ops a.tmps) = true) (x : Operand) (ho : op.op = .load 38 x)
    (b o : Nat) (hx : a.eval x = .pointer (some ⟨b, o, none⟩)) (k : List UInt8) (hk : k.length = 32) (hr : w.rangeAt b o (bvs k)) (h : wpList Tryd.prog ops Q rest (a.put op.dst (.agg (bvs k).toArray)) w) : wpList Tryd.prog ops Q (op :: rest) a w := by
  have hl := run_loadVar_mid (P := Tryd.prog) w b o 38 (bvs k) _ hr Tryd.underlying38 rfl (by rw [infoKey, bvs_length, hk])
  simp only [wpList, hw, if_true]
  refine .inl ?_
  unfold Oper.wp execOp
  simp only [ho, hx, Instr.loadAt, Instr.sureAddr, Sem.run_bind, Sem.run_pure, Result.andThen_ok, hl]
  exact h

/-- A commit. -/
structure Com where
  rooted : Bool
  parent : List UInt8
  tree : List UInt8
  msg : List UInt8
  serial : Int
  hp : parent.length = 32
  ht : tree.length = 32
  hs0 : 0 ≤ serial
  hs1 : serial < 2 ^ 64
def comV (x : Com) : List Value := .bool x.rooted :: (bvs x.parent ++ (bvs x.tree ++ [sv x.msg, .int .u64 x.serial]))
def comA (x : Com) : Array Value := (comV x).toArray
theorem comV_len (x : Com) : (comV x).length = 67 := by simp [comV, bvs, x.hp, x.ht]
theorem comA_size (x : Com) : (comA x).size = 67 := by unfold comA; simp [comV_len]
theorem com_at (x : Com) : (comV x)[0]? = some (.bool x.rooted) ∧ (∀ j u, (bvs x.parent)[j]? = some u → (comV x)[1 + j]? = some u) ∧ (∀ j u, (bvs x.tree)[j]? = some u → (comV x)[33 + j]? = some u) ∧
    (comV x)[65]? = some (sv x.msg) ∧ (comV x)[66]? = some (.int .u64 x.serial) := by
  have h1 : (bvs x.parent).length = 32 := by simp [bvs, x.hp]
  have h2 : (bvs x.tree).length = 32 := by simp [bvs, x.ht]
  refine ⟨rfl, fun j u hu => ?_, fun j u hu => ?_, ?_, ?_⟩
  · have hj := (List.getElem?_eq_some_iff.1 hu).1
    rw [comV, show 1 + j = j + 1 from by omega, List.getElem?_cons_succ, List.getElem?_append_left hj, hu]
  · have hj := (List.getElem?_eq_some_iff.1 hu).1
    rw [comV, show 33 + j = (32 + j) + 1 from by omega, List.getElem?_cons_succ, List.getElem?_append_right (by omega), h1, show 32 + j - 32 = j from by omega, List.getElem?_append_left hj, hu]
  · rw [comV, show 65 = 64 + 1 from rfl, List.getElem?_cons_succ, List.getElem?_append_right (by omega), List.getElem?_append_right (by omega), h1, h2]; rfl
  · rw [comV, show 66 = 65 + 1 from rfl, List.getElem?_cons_succ, List.getElem?_append_right (by omega), List.getElem?_append_right (by omega), h1, h2]; rfl
theorem com_cells {w : World} {b : Nat} {x : Com} (h : w.heap[b]? = some (.cells (comA x) 41)) :
    w.cell? ⟨b, 0, none⟩ = some (.bool x.rooted) ∧ w.rangeAt b 1 (bvs x.parent) ∧ w.rangeAt b 33 (bvs x.tree) ∧ w.cell? ⟨b, 65, none⟩ = some (.string (str x.msg)) ∧ w.cell? ⟨b, 66, none⟩ = some (.int .u64 x.serial) := by
  obtain ⟨h0, h1, h2, h3, h4⟩ := com_at x
  have e : ∀ i : Nat, (comA x)[i]? = (comV x)[i]? := fun i => List.getElem?_toArray
  refine ⟨by rw [cell_of_row _ _ _ _ _ _ h, e, h0], fun j u hu => ?_, fun j u hu => ?_, by rw [cell_of_row _ _ _ _ _ _ h, e, h3]; rfl, by rw [cell_of_row _ _ _ _ _ _ h, e, h4]⟩
  · rw [cell_of_row _ _ _ _ _ _ h, e, h1 j u hu]
  · rw [cell_of_row _ _ _ _ _ _ h, e, h2 j u hu]
def comE (c : Com) : Int := if 1000 < c.msg.length then 6 else if (c.rooted && !(c.parent == key0)) = true then 5 else 0
def encCom (c : Com) : List UInt8 := [3] ++ b1 c.rooted ++ c.parent ++ c.tree ++ tx c.msg ++ le c.serial.toNat 8
def comB (c : Com) : List UInt8 := if comE c = 0 then encCom c else []

set_option maxHeartbeats 4000000 in
theorem oCommit_any (c : Com) (w : World) : Calls Tryd.prog 20 #[.agg (comA c)] w (Packed w (comB c) (comE c)) := by
  have hU1 := Upd.alloc (fun _ => False) w (.cells (comA c) 41)
  have hrow := heap_alloc_new w (.cells (comA c) 41)
  have hn0 := fun w => key_neq0 c.parent c.hp w
  have hsz := str_size c.msg
  have HN0 := Lib.hid hn0
  clear hn0
  have hlt0 : w.heap.size < (w.alloc (.cells (comA c) 41)).heap.size := by simp
  by_cases hm : 1000 < c.msg.length
  · have hI : (1000 : Int) < (c.msg.length : Int) := by omega
    have hE0 : comE c = 6 := by unfold comE; rw [if_pos hm]
    have h1 : Hid (comB c = [] ∧ comE c = 6) := Lib.hid ⟨by unfold comB; rw [hE0]; rfl, hE0⟩
    have HU := Lib.hid hU1
    have hcl := com_cells hrow
    have HCL := Lib.hid hcl
    clear hm hE0 hU1 hrow hlt0 hcl
    generalize comA c = X at *
    go_enter Tryd.func20, Tryd.ntmps20
    go_upto_region 1 with (fail)
    generalize w.alloc (.cells X 41) = w1 at *
    have q3 := HCL.out.2.2.2.1
    go_wp2_with fail
    go_ret2
    rw [h1.out.1, h1.out.2]
    exact ⟨none, 0, rfl, Vw.nl _ _, (fun g h => by cases h), HU.out⟩
  have hI : decide ((1000 : Int) < (c.msg.length : Int)) = false := by rw [decide_eq_false_iff_not]; omega
  have hcE : comE c = if (c.rooted && !(c.parent == key0)) = true then 5 else 0 := by unfold comE; rw [if_neg hm]
  have HCE := Lib.hid hcE
  have HU01 := Lib.hid hU1
  have HR1 := Lib.hid hrow
  have hX1 : ∃ X, comA c = X := ⟨_, rfl⟩
  go_enter Tryd.func20, Tryd.ntmps20
  go_upto_region 1 with (fail)
  clear hcE hU1
  generalize w.alloc (.cells (comA c) 41) = w1 at *
  obtain ⟨B, hB⟩ : ∃ B, w.heap.size = B := ⟨_, rfl⟩
  rw [hB] at hlt0 hrow HR1 ⊢
  have HB := Lib.hid hB
  clear hB hX1
  obtain ⟨q0, q1, q2, q3, q4⟩ := com_cells hrow
  have HQ1 := Lib.hid q1
  clear q1 q2 q4 hrow
  cases hro : c.rooted with
  | true =>
    rw [hro] at q0
    cases hpz : (c.parent == key0) with
    | false =>
      rw [hpz] at HN0
      have hE0 : comE c = 5 := by rw [HCE.out, hro, hpz]; rfl
      have h1 : Hid (comB c = [] ∧ comE c = 5) := Lib.hid ⟨by unfold comB; rw [hE0]; rfl, hE0⟩
      have HPZ := Lib.hid hpz
      clear hE0 hpz hro
      have hn0 := HN0.out
      have q1 := HQ1.out
      generalize hP0 : (bvs c.parent).toArray = p0 at *
      have HP0 := Lib.hid hP0
      clear hP0
      go_wp2_with (refine wpList_load_keyG rfl (.tmp 14) rfl B 1 rfl c.parent c.hp q1 ?_; rw [HP0.out])
      go_ret2
      rw [h1.out.1, h1.out.2]
      exact ⟨none, 0, rfl, Vw.nl _ _, (fun g h => by cases h), HU01.out⟩
    | true =>
      rw [hpz] at HN0
      have hR0 : Hid (comE c = 0) := Lib.hid (by rw [HCE.out, hro, hpz]; rfl)
      have HE2 : Hid (comB c = encCom c) := Lib.hid (by unfold comB; rw [if_pos hR0.out])
      have HPZ := Lib.hid hpz
      clear hpz
      have hn0 := HN0.out
      have q1 := HQ1.out
      generalize hP0 : (bvs c.parent).toArray = p0 at hn0
      have HP0 := Lib.hid hP0
      clear hP0
      go_upto_region 5 with (refine wpList_load_keyG rfl (.tmp 14) rfl B 1 rfl c.parent c.hp q1 ?_; rw [HP0.out])
      unfold encCom at HE2
      rw [hro] at HE2
      have HRO := Lib.hid hro
      clear q0 q3 hI q1 hro
      obtain ⟨K, hK, hW⟩ := Wn.fresh w1 76
      have HK := Lib.hid hK
      have HW0 := Lib.hid hW
      clear hK hW
      have HBK := Lib.hid (HK.out _ hlt0)
      go_upto_region 6 with (fail)
      have hW := HW0.out
      generalize w1.alloc (Obj.cells #[Value.slice none 0 0] 76) = x0 at *
      obtain ⟨bw, hbw0⟩ : ∃ bw, w1.heap.size = bw := ⟨_, rfl⟩
      rw [hbw0] at hW hlt0 ⊢
      have HBW := Lib.hid hbw0
      clear HW0 hbw0
      have hcp := c.hp
      have hct := c.ht
      go_wp2_with fail
      refine (wn_num hW (by simp) 3 1 1 (by omega) (by omega) rfl).mono ?_
      rintro e x1 ⟨rfl, hW1⟩
      clear hW 
      have hW := hW1
      clear hW1
      have hl1 : (([] : List UInt8) ++ le (Int.toNat 3) 1).length ≤ 1 := by rw [List.length_append]; simp only [le_length, tx_len, i4_length, b1, List.length_cons, List.length_nil]; omega
      generalize hL : ([] : List UInt8) ++ le (Int.toNat 3) 1 = l1 at hW hl1
      have Hl1 := Lib.hid hL
      clear hL
      obtain ⟨q0, q1, q2, q3, q4⟩ := com_cells (hW.row HBK.out HR1.out)
      rw [HRO.out] at q0
      clear q1 q2 q3 q4
      go_wp2_with fail
      refine wp_region_plan_last [([0, 1, 2, 3, 4], 5)] [] (fun w' => w'.cell? ⟨B, 0, none⟩ = some (.bool true)) (by kernel_rfl) (by kernel_rfl) q0 ?_
      iterate 5
        first
        | (refine plan_skip rfl rfl ?_)
        | (refine plan_take (v := ?_) rfl rfl (fun w' hS => ?_) ?_
           rotate_left
           · skip
             go_simp; try with_reducible rfl)
        simp only [Act.put, List.getElem_toArray, List.getElem_cons_zero, List.getElem_cons_succ, List.setIfInBounds_toArray, List.set_cons_zero, List.set_cons_succ]
      refine plan_act rfl (fun KK hKK => ?_)
      go_wp2_with fail
      have hWd := hW.other (Upd.drew (fun _ => False) _)
      refine (wn_bool hWd (by omega) true).mono ?_
      rintro e x1 ⟨rfl, hW1⟩
      clear hW hWd q0
      have hW := hW1
      clear hW1
      have hl2 : (l1 ++ b1 true).length ≤ 2 := by rw [List.length_append]; simp only [le_length, tx_len, i4_length, b1, List.length_cons, List.length_nil]; omega
      generalize hL : l1 ++ b1 true = l2 at hW hl2
      have Hl2 := Lib.hid hL
      clear hL
      go_wp2_with fail
      refine hKK.out _ _ (.inl rfl) ?_
      refine plan_end ?_
      obtain ⟨q0, q1, q2, q3, q4⟩ := com_cells (hW.row HBK.out HR1.out)
      clear q0 q2 q3 q4
      go_wp2_with (refine wpList_load_key rfl (.tmp 32) rfl B 1 rfl c.parent c.hp q1 ?_)
      refine (okey_any hW (by omega) c.parent c.hp).mono ?_
      rintro e x1 ⟨rfl, hW1⟩
      clear hW q1
      have hW := hW1
      clear hW1
      have hl3 : (l2 ++ c.parent).length ≤ 34 := by rw [List.length_append]; simp only [le_length, tx_len, i4_length, b1, List.length_cons, List.length_nil, hcp]; omega
      generalize hL : l2 ++ c.parent = l3 at hW hl3
      have Hl3 := Lib.hid hL
      clear hL
      obtain ⟨q0, q1, q2, q3, q4⟩ := com_cells (hW.row HBK.out HR1.out)
      clear q0 q1 q3 q4
      go_wp2_with (refine wpList_load_key rfl (.tmp 36) rfl B 33 rfl c.tree c.ht q2 ?_)
      refine (okey_any hW (by omega) c.tree c.ht).mono ?_
      rintro e x1 ⟨rfl, hW1⟩
      clear hW q2
      have hW := hW1
      clear hW1
      have hl4 : (l3 ++ c.tree).length ≤ 66 := by rw [List.length_append]; simp only [le_length, tx_len, i4_length, b1, List.length_cons, List.length_nil, hct]; omega
      generalize hL : l3 ++ c.tree = l4 at hW hl4
      have Hl4 := Lib.hid hL
      clear hL
      obtain ⟨q0, q1, q2, q3, q4⟩ := com_cells (hW.row HBK.out HR1.out)
      clear q0 q1 q2 q4
      go_wp2_with fail
      refine wp_region_plan_last [([0, 1, 2, 3, 4], 5)] [] (fun w' => w'.cell? ⟨B, 65, none⟩ = some (.string (str c.msg))) (by kernel_rfl) (by kernel_rfl) q3 ?_
      iterate 5
        first
        | (refine plan_skip rfl rfl ?_)
        | (refine plan_take (v := ?_) rfl rfl (fun w' hS => ?_) ?_
           rotate_left
           · skip
             go_simp; try with_reducible rfl)
        simp only [Act.put, List.getElem_toArray, List.getElem_cons_zero, List.getElem_cons_succ, List.setIfInBounds_toArray, List.set_cons_zero, List.set_cons_succ]
      refine plan_act rfl (fun KK hKK => ?_)
      go_wp2_with fail
      have hWd := hW.other (Upd.drew (fun _ => False) _)
      refine (wn_text hWd (by omega) c.msg (by omega)).mono ?_
      rintro e x1 ⟨rfl, hW1⟩
      clear hW hWd q3
      have hW := hW1
      clear hW1
      have hl5 : (l4 ++ tx c.msg).length ≤ 1070 := by rw [List.length_append]; simp only [le_length, tx_len, i4_length, b1, List.length_cons, List.length_nil]; omega
      generalize hL : l4 ++ tx c.msg = l5 at hW hl5
      have Hl5 := Lib.hid hL
      clear hL
      go_wp2_with fail
      refine hKK.out _ _ (.inl rfl) ?_
      refine plan_end ?_
      obtain ⟨q0, q1, q2, q3, q4⟩ := com_cells (hW.row HBK.out HR1.out)
      clear q0 q1 q2 q3
      go_wp2_with fail
      refine wp_region_plan_last [([0, 1, 2, 3, 4], 5)] [] (fun w' => w'.cell? ⟨B, 66, none⟩ = some (.int .u64 c.serial)) (by kernel_rfl) (by kernel_rfl) q4 ?_
      iterate 5
        first
        | (refine plan_skip rfl rfl ?_)
        | (refine plan_take (v := ?_) rfl rfl (fun w' hS => ?_) ?_
           rotate_left
           · skip
             go_simp; try with_reducible rfl)
        simp only [Act.put, List.getElem_toArray, List.getElem_cons_zero, List.getElem_cons_succ, List.setIfInBounds_toArray, List.set_cons_zero, List.set_cons_succ]
      refine plan_act rfl (fun KK hKK => ?_)
      go_wp2_with fail
      have hWd := hW.other (Upd.drew (fun _ => False) _)
      refine (wn_num hWd (by omega) c.serial 8 8 c.hs0 c.hs1 rfl).mono ?_
      rintro e x1 ⟨rfl, hW1⟩
      clear hW hWd q4
      have hW := hW1
      clear hW1
      have hl6 : (l5 ++ le c.serial.toNat 8).length ≤ 1078 := by rw [List.length_append]; simp only [le_length, tx_len, i4_length, b1, List.length_cons, List.length_nil]; omega
      generalize hL : l5 ++ le c.serial.toNat 8 = l6 at hW hl6
      have Hl6 := Lib.hid hL
      clear hL
      go_wp2_with fail
      refine hKK.out _ _ (.inl rfl) ?_
      refine plan_end ?_
      have hU1 := hW.old HK.out
      go_wp2_with fail
      refine (wn_bytes hW (by omega)).mono ?_
      rintro e x1 ⟨a5, c5, rfl, hown, hfr, hUb⟩
      have hE := HE2.out
      have hq : ([3] : List UInt8) ++ b1 true ++ c.parent ++ c.tree ++ tx c.msg ++ le c.serial.toNat 8 = l6 := by
        rw [← Hl6.out, ← Hl5.out, ← Hl4.out, ← Hl3.out, ← Hl2.out, ← Hl1.out]; rfl
      rw [hq] at hE
      have HF := Lib.hid (And.intro hU1 (And.intro hown (And.intro hfr (And.intro hUb hE))))
      clear hW hU1 hown hfr hUb hE
      go_wp2_with fail
      go_ret2
      obtain ⟨hU1, hown, hfr, hUb, hE⟩ := HF.out
      rw [hE, hR0.out]
      refine ⟨a5, c5, rfl, Vw.of_own hown, fun g hg => ⟨?_, (hown.lt g ((own_blk _ _ _).trans hg)).2⟩, HU01.out.trans (hU1.trans hUb)⟩
      have := hfr g hg
      have := hU1.size
      have := HU01.out.size
      have := HB.out
      omega
  | false =>
    rw [hro] at q0
    have hR0 : Hid (comE c = 0) := Lib.hid (by rw [HCE.out, hro]; rfl)
    have HE2 : Hid (comB c = encCom c) := Lib.hid (by unfold comB; rw [if_pos hR0.out])
    go_upto_region 5 with (fail)
    unfold encCom at HE2
    rw [hro] at HE2
    have HRO := Lib.hid hro
    clear q0 q3 hI  hro
    obtain ⟨K, hK, hW⟩ := Wn.fresh w1 76
    have HK := Lib.hid hK
    have HW0 := Lib.hid hW
    clear hK hW
    have HBK := Lib.hid (HK.out _ hlt0)
    go_upto_region 6 with (fail)
    have hW := HW0.out
    generalize w1.alloc (Obj.cells #[Value.slice none 0 0] 76) = x0 at *
    obtain ⟨bw, hbw0⟩ : ∃ bw, w1.heap.size = bw := ⟨_, rfl⟩
    rw [hbw0] at hW hlt0 ⊢
    have HBW := Lib.hid hbw0
    clear HW0 hbw0
    have hcp := c.hp
    have hct := c.ht
    go_wp2_with fail
    refine (wn_num hW (by simp) 3 1 1 (by omega) (by omega) rfl).mono ?_
    rintro e x1 ⟨rfl, hW1⟩
    clear hW 
    have hW := hW1
    clear hW1
    have hl1 : (([] : List UInt8) ++ le (Int.toNat 3) 1).length ≤ 1 := by rw [List.length_append]; simp only [le_length, tx_len, i4_length, b1, List.length_cons, List.length_nil]; omega
    generalize hL : ([] : List UInt8) ++ le (Int.toNat 3) 1 = l1 at hW hl1
    have Hl1 := Lib.hid hL
    clear hL
    obtain ⟨q0, q1, q2, q3, q4⟩ := com_cells (hW.row HBK.out HR1.out)
    rw [HRO.out] at q0
    clear q1 q2 q3 q4
    go_wp2_with fail
    refine wp_region_plan_last [([0, 1, 2, 3, 4], 5)] [] (fun w' => w'.cell? ⟨B, 0, none⟩ = some (.bool false)) (by kernel_rfl) (by kernel_rfl) q0 ?_
    iterate 5
      first
      | (refine plan_skip rfl rfl ?_)
      | (refine plan_take (v := ?_) rfl rfl (fun w' hS => ?_) ?_
         rotate_left
         · skip
           go_simp; try with_reducible rfl)
      simp only [Act.put, List.getElem_toArray, List.getElem_cons_zero, List.getElem_cons_succ, List.setIfInBounds_toArray, List.set_cons_zero, List.set_cons_succ]
    refine plan_act rfl (fun KK hKK => ?_)
    go_wp2_with fail
    have hWd := hW.other (Upd.drew (fun _ => False) _)
    refine (wn_bool hWd (by omega) false).mono ?_
    rintro e x1 ⟨rfl, hW1⟩
    clear hW hWd q0
    have hW := hW1
    clear hW1
    have hl2 : (l1 ++ b1 false).length ≤ 2 := by rw [List.length_append]; simp only [le_length, tx_len, i4_length, b1, List.length_cons, List.length_nil]; omega
    generalize hL : l1 ++ b1 false = l2 at hW hl2
    have Hl2 := Lib.hid hL
    clear hL
    go_wp2_with fail
    refine hKK.out _ _ (.inl rfl) ?_
    refine plan_end ?_
    obtain ⟨q0, q1, q2, q3, q4⟩ := com_cells (hW.row HBK.out HR1.out)
    clear q0 q2 q3 q4
    go_wp2_with (refine wpList_load_key rfl (.tmp 32) rfl B 1 rfl c.parent c.hp q1 ?_)
    refine (okey_any hW (by omega) c.parent c.hp).mono ?_
    rintro e x1 ⟨rfl, hW1⟩
    clear hW q1
    have hW := hW1
    clear hW1
    have hl3 : (l2 ++ c.parent).length ≤ 34 := by rw [List.length_append]; simp only [le_length, tx_len, i4_length, b1, List.length_cons, List.length_nil, hcp]; omega
    generalize hL : l2 ++ c.parent = l3 at hW hl3
    have Hl3 := Lib.hid hL
    clear hL
    obtain ⟨q0, q1, q2, q3, q4⟩ := com_cells (hW.row HBK.out HR1.out)
    clear q0 q1 q3 q4
    go_wp2_with (refine wpList_load_key rfl (.tmp 36) rfl B 33 rfl c.tree c.ht q2 ?_)
    refine (okey_any hW (by omega) c.tree c.ht).mono ?_
    rintro e x1 ⟨rfl, hW1⟩
    clear hW q2
    have hW := hW1
    clear hW1
    have hl4 : (l3 ++ c.tree).length ≤ 66 := by rw [List.length_append]; simp only [le_length, tx_len, i4_length, b1, List.length_cons, List.length_nil, hct]; omega
    generalize hL : l3 ++ c.tree = l4 at hW hl4
    have Hl4 := Lib.hid hL
    clear hL
    obtain ⟨q0, q1, q2, q3, q4⟩ := com_cells (hW.row HBK.out HR1.out)
    clear q0 q1 q2 q4
    go_wp2_with fail
    refine wp_region_plan_last [([0, 1, 2, 3, 4], 5)] [] (fun w' => w'.cell? ⟨B, 65, none⟩ = some (.string (str c.msg))) (by kernel_rfl) (by kernel_rfl) q3 ?_
    iterate 5
      first
      | (refine plan_skip rfl rfl ?_)
      | (refine plan_take (v := ?_) rfl rfl (fun w' hS => ?_) ?_
         rotate_left
         · skip
           go_simp; try with_reducible rfl)
      simp only [Act.put, List.getElem_toArray, List.getElem_cons_zero, List.getElem_cons_succ, List.setIfInBounds_toArray, List.set_cons_zero, List.set_cons_succ]
    refine plan_act rfl (fun KK hKK => ?_)
    go_wp2_with fail
    have hWd := hW.other (Upd.drew (fun _ => False) _)
    refine (wn_text hWd (by omega) c.msg (by omega)).mono ?_
    rintro e x1 ⟨rfl, hW1⟩
    clear hW hWd q3
    have hW := hW1
    clear hW1
    have hl5 : (l4 ++ tx c.msg).length ≤ 1070 := by rw [List.length_append]; simp only [le_length, tx_len, i4_length, b1, List.length_cons, List.length_nil]; omega
    generalize hL : l4 ++ tx c.msg = l5 at hW hl5
    have Hl5 := Lib.hid hL
    clear hL
    go_wp2_with fail
    refine hKK.out _ _ (.inl rfl) ?_
    refine plan_end ?_
    obtain ⟨q0, q1, q2, q3, q4⟩ := com_cells (hW.row HBK.out HR1.out)
    clear q0 q1 q2 q3
    go_wp2_with fail
    refine wp_region_plan_last [([0, 1, 2, 3, 4], 5)] [] (fun w' => w'.cell? ⟨B, 66, none⟩ = some (.int .u64 c.serial)) (by kernel_rfl) (by kernel_rfl) q4 ?_
    iterate 5
      first
      | (refine plan_skip rfl rfl ?_)
      | (refine plan_take (v := ?_) rfl rfl (fun w' hS => ?_) ?_
         rotate_left
         · skip
           go_simp; try with_reducible rfl)
      simp only [Act.put, List.getElem_toArray, List.getElem_cons_zero, List.getElem_cons_succ, List.setIfInBounds_toArray, List.set_cons_zero, List.set_cons_succ]
    refine plan_act rfl (fun KK hKK => ?_)
    go_wp2_with fail
    have hWd := hW.other (Upd.drew (fun _ => False) _)
    refine (wn_num hWd (by omega) c.serial 8 8 c.hs0 c.hs1 rfl).mono ?_
    rintro e x1 ⟨rfl, hW1⟩
    clear hW hWd q4
    have hW := hW1
    clear hW1
    have hl6 : (l5 ++ le c.serial.toNat 8).length ≤ 1078 := by rw [List.length_append]; simp only [le_length, tx_len, i4_length, b1, List.length_cons, List.length_nil]; omega
    generalize hL : l5 ++ le c.serial.toNat 8 = l6 at hW hl6
    have Hl6 := Lib.hid hL
    clear hL
    go_wp2_with fail
    refine hKK.out _ _ (.inl rfl) ?_
    refine plan_end ?_
    have hU1 := hW.old HK.out
    go_wp2_with fail
    refine (wn_bytes hW (by omega)).mono ?_
    rintro e x1 ⟨a5, c5, rfl, hown, hfr, hUb⟩
    have hE := HE2.out
    have hq : ([3] : List UInt8) ++ b1 false ++ c.parent ++ c.tree ++ tx c.msg ++ le c.serial.toNat 8 = l6 := by
      rw [← Hl6.out, ← Hl5.out, ← Hl4.out, ← Hl3.out, ← Hl2.out, ← Hl1.out]; rfl
    rw [hq] at hE
    have HF := Lib.hid (And.intro hU1 (And.intro hown (And.intro hfr (And.intro hUb hE))))
    clear hW hU1 hown hfr hUb hE
    go_wp2_with fail
    go_ret2
    obtain ⟨hU1, hown, hfr, hUb, hE⟩ := HF.out
    rw [hE, hR0.out]
    refine ⟨a5, c5, rfl, Vw.of_own hown, fun g hg => ⟨?_, (hown.lt g ((own_blk _ _ _).trans hg)).2⟩, HU01.out.trans (hU1.trans hUb)⟩
    have := hfr g hg
    have := hU1.size
    have := HU01.out.size
    have := HB.out
    omega
end Go.Proofs.YteefceainlfdfaaDoor
