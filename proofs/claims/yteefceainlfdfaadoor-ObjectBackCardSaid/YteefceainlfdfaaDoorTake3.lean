
/- Entries and commits built of their parts; the reader's end. -/
import Derived.Test.YteefceainlfdfaaDoorTake2
import Derived.Test.YteefceainlfdfaaDoorObj13
namespace Go.Proofs.YteefceainlfdfaaDoor
set_option linter.unusedSimpArgs false
set_option linter.unusedVariables false
set_option maxRecDepth 100000
open Go.ChangeShapes Go.WideShapes Go.ChangeAt Go.RowKit

theorem len32 {l : List UInt8} (h : l.length = 32) : ∃ x0 x1 x2 x3 x4 x5 x6 x7 x8 x9 x10 x11 x12 x13 x14 x15 x16 x17 x18 x19 x20 x21 x22 x23 x24 x25 x26 x27 x28 x29 x30 x31, l = [x0, x1, x2, x3, x4, x5, x6, x7, x8, x9, x10, x11, x12, x13, x14, x15, x16, x17, x18, x19, x20, x21, x22, x23, x24, x25, x26, x27, x28, x29, x30, x31] := by
  match l, h with
  | [x0, x1, x2, x3, x4, x5, x6, x7, x8, x9, x10, x11, x12, x13, x14, x15, x16, x17, x18, x19, x20, x21, x22, x23, x24, x25, x26, x27, x28, x29, x30, x31], _ => exact ⟨x0, x1, x2, x3, x4, x5, x6, x7, x8, x9, x10, x11, x12, x13, x14, x15, x16, x17, x18, x19, x20, x21, x22, x23, x24, x25, x26, x27, x28, x29, x30, x31, rfl⟩
theorem ent_built (x : Ent) : Tryd.prog.built 44 [(0, .string (str x.path)), (1, .bool x.exec), (2, .agg (bvs x.key).toArray)] = some (entA x) := by
  obtain ⟨p, e, k, hk⟩ := x
  obtain ⟨x0, x1, x2, x3, x4, x5, x6, x7, x8, x9, x10, x11, x12, x13, x14, x15, x16, x17, x18, x19, x20, x21, x22, x23, x24, x25, x26, x27, x28, x29, x30, x31, rfl⟩ := len32 hk
  kernel_rfl
theorem com_built (x : Com) : Tryd.prog.built 41 [(0, .bool x.rooted), (1, .agg (bvs x.parent).toArray), (2, .agg (bvs x.tree).toArray), (3, .string (str x.msg)), (4, .int .u64 x.serial)] = some (comA x) := by
  obtain ⟨r, p, t, m, s, hp, ht, h0, h1⟩ := x
  obtain ⟨x0, x1, x2, x3, x4, x5, x6, x7, x8, x9, x10, x11, x12, x13, x14, x15, x16, x17, x18, x19, x20, x21, x22, x23, x24, x25, x26, x27, x28, x29, x30, x31, rfl⟩ := len32 hp
  obtain ⟨y0, y1, y2, y3, y4, y5, y6, y7, y8, y9, y10, y11, y12, y13, y14, y15, y16, y17, y18, y19, y20, y21, y22, y23, y24, y25, y26, y27, y28, y29, y30, y31, rfl⟩ := len32 ht
  kernel_rfl
theorem exec_build_ent {w : World} {ev : Operand → Value} {o : Oper} (a b c : Operand) (ho : o.op = .build 44 #[(0, a), (1, b), (2, c)]) (x : Ent) (ha : ev a = .string (str x.path)) (hb : ev b = .bool x.exec) (hc : ev c = .agg (bvs x.key).toArray) :
    (execOp ev o).run Tryd.prog w = .ok (.value (.agg (entA x))) w := by
  have h := run_build (P := Tryd.prog) w 44 #[(0, .string (str x.path)), (1, .bool x.exec), (2, .agg (bvs x.key).toArray)] (entA x) (ent_built x)
  unfold execOp
  simp only [ho, List.map_toArray, List.map_cons, List.map_nil, ha, hb, hc, Sem.run_bind, h, Result.andThen_ok, Sem.run_pure]
theorem wpList_build_ent {ops : Array Oper} {rest : List Oper} {op : Oper} {ac : Act} {w : World} {Q : Exit → Act → World → Prop} (hgd : op.guard = none) (a b c : Operand) (ho : op.op = .build 44 #[(0, a), (1, b), (2, c)])
    (x : Ent) (ha : ac.eval a = .string (str x.path)) (hb : ac.eval b = .bool x.exec) (hc : ac.eval c = .agg (bvs x.key).toArray) (h : wpList Tryd.prog ops Q rest (ac.put op.dst (.agg (entA x))) w) : wpList Tryd.prog ops Q (op :: rest) ac w :=
  wpList_plain hgd fun _ hK => by
    unfold Oper.wp
    rw [exec_build_ent a b c ho x ha hb hc]
    exact hK _ _ h
theorem ent_fill (x : Ent) : Instr.fill (fun i => some (i * 34, 34)) ((Array.range (1 * 34)).map ((Value.agg (entA entZ)).cells[· % (Value.agg (entA entZ)).cells.size]!)) [(0, .agg (entA x))] = some (entA x) := by
  obtain ⟨p, e, k, hk⟩ := x
  obtain ⟨x0, x1, x2, x3, x4, x5, x6, x7, x8, x9, x10, x11, x12, x13, x14, x15, x16, x17, x18, x19, x20, x21, x22, x23, x24, x25, x26, x27, x28, x29, x30, x31, rfl⟩ := len32 hk
  kernel_rfl
theorem wpList_slice_ent {ops : Array Oper} {rest : List Oper} {op : Oper} {ac : Act} {w : World} {Q : Exit → Act → World → Prop} (hgd : op.guard = none) (a : Operand) (ho : op.op = .buildSlice 36 1 #[(0, a)])
    (x : Ent) (ha : ac.eval a = .agg (entA x)) (h : wpList Tryd.prog ops Q rest (ac.put op.dst (.slice (some ⟨w.heap.size, 0, none⟩) 1 1)) (w.alloc (.cells (entA x) 44))) : wpList Tryd.prog ops Q (op :: rest) ac w :=
  wpList_plain hgd fun _ hK => by
    obtain ⟨i0, hi, hz0, hz1, hz2⟩ := info_parts2 infoEntZ
    have hf := ent_fill x
    have hr : (Instr.buildSlice 36 1 #[(0, .agg (entA x))]).run Tryd.prog w = .ok (.slice (some ⟨w.heap.size, 0, none⟩) 1 1) (w.alloc (.cells (entA x) 44)) := by
      generalize entA x = X at *
      generalize entA entZ = Z at *
      simp only [Instr.buildSlice, run_underlying Tryd.underlying36, Sem.run_bind, Result.andThen_ok, sizeOf, typeInfo, zeroValue, hi, hz0, hz1, Sem.run_pure, run_program]
      simp [hz0, hz1, hi, hf, newRow, sizeOf, typeInfo, zeroValue]
    unfold Oper.wp execOp
    simp only [ho, List.map_toArray, List.map_cons, List.map_nil, ha, Sem.run_bind, hr, Result.andThen_ok, Sem.run_pure]
    exact hK _ _ h

/-- What the reader's end tells. -/
def endI (re e : Int) (k l : List UInt8) : Int := if re ≠ 0 then re else if e ≠ 0 then 5 else if k ≠ l then 5 else 0
set_option maxHeartbeats 2000000 in
theorem orend_any (br : Nat) (F : Option Nat) (s : RS) (a a2 : Option Addr) (c c2 : Nat) (l k : List UInt8) (e : Int) (w : World) (hr : Rd w br F s.l s.e) (hv : Vw w a l.length c 1 (bvs l)) (hv2 : Vw w a2 k.length c2 1 (bvs k)) :
    Calls Tryd.prog 80 #[.agg #[.pointer (some ⟨br, 0, none⟩)], .slice a l.length c, .slice a2 k.length c2, .int .i64 e] w fun x w' => x = .returned (.int .i64 (endI s.e e k l)) ∧ Upd (fun _ => False) w w' := by
  have hU1 := Upd.alloc (fun _ => False) w (.cells #[.pointer (some ⟨br, 0, none⟩)] 105)
  have hrow := heap_alloc_new w (.cells #[.pointer (some ⟨br, 0, none⟩)] 105)
  have hq : (w.alloc (.cells #[.pointer (some ⟨br, 0, none⟩)] 105)).cell? ⟨w.heap.size, 0, none⟩ = some (.pointer (some ⟨br, 0, none⟩)) := by
    rw [cell_of_row _ _ _ _ _ _ hrow]; rfl
  have hr1 := hr.upd hU1 (fun h => h) (fun _ _ h => h)
  have herr := fun w' (h : Rd w' br F s.l s.e) => err_any br F s.l s.e w' h
  have heq := fun w' (h : Upd (fun _ => False) w w') => slEq_any a2 a c2 c k l w' (hv2.upd h (fun _ _ h => h)) (hv.upd h (fun _ _ h => h))
  have hd : endI s.e e k l = if s.e ≠ 0 then s.e else if e ≠ 0 then 5 else if k ≠ l then 5 else 0 := rfl
  have HE := Lib.hid heq
  have HU := Lib.hid hU1
  clear heq hr hv hv2 hU1 hrow
  generalize endI s.e e k l = R at *
  by_cases h1 : s.e = 0
  · rw [if_neg (by simpa using h1)] at hd
    rw [h1] at hr1 herr
    by_cases h2 : e = 0
    · rw [if_neg (by simpa using h2)] at hd
      have hkl : (k == l) = decide (k = l) := by rw [Bool.eq_iff_iff]; simp
      rw [hkl] at HE
      subst h2
      by_cases h3 : k = l
      · rw [if_neg (by simpa using h3)] at hd
        rw [decide_eq_true h3] at HE
        have HD := Lib.hid hd
        clear hd h3 hkl
        go_enter Tryd.func80, Tryd.ntmps80
        go_upto_region 1 with (fail)
        generalize w.alloc (.cells #[.pointer (some ⟨br, 0, none⟩)] 105) = w1 at *
        go_wp2_with fail
        refine (herr _ hr1).mono ?_
        rintro x w' ⟨rfl, rfl⟩
        go_wp2_with fail
        refine (HE.out _ HU.out).mono ?_
        rintro x w' ⟨rfl, hU⟩
        have HU2 := Lib.hid (HU.out.trans hU)
        clear hU
        go_wp2_with fail
        go_ret
        exact ⟨by rw [HD.out]; rfl, HU2.out⟩
      · rw [if_pos (by simpa using h3)] at hd
        rw [decide_eq_false h3] at HE
        have HD := Lib.hid hd
        clear hd h3 hkl
        go_enter Tryd.func80, Tryd.ntmps80
        go_upto_region 1 with (fail)
        generalize w.alloc (.cells #[.pointer (some ⟨br, 0, none⟩)] 105) = w1 at *
        go_wp2_with fail
        refine (herr _ hr1).mono ?_
        rintro x w' ⟨rfl, rfl⟩
        go_wp2_with fail
        refine (HE.out _ HU.out).mono ?_
        rintro x w' ⟨rfl, hU⟩
        have HU2 := Lib.hid (HU.out.trans hU)
        clear hU
        go_wp2_with fail
        go_ret
        exact ⟨by rw [HD.out]; rfl, HU2.out⟩
    · rw [if_pos (by simpa using h2)] at hd
      have he : (e != 0) = true := by simpa using h2
      have HD := Lib.hid hd
      clear hd h2
      go_enter Tryd.func80, Tryd.ntmps80
      go_upto_region 1 with (fail)
      generalize w.alloc (.cells #[.pointer (some ⟨br, 0, none⟩)] 105) = w1 at *
      go_wp2_with fail
      refine (herr _ hr1).mono ?_
      rintro x w' ⟨rfl, rfl⟩
      go_wp2_with fail
      go_ret
      exact ⟨by rw [HD.out]; rfl, HU.out⟩
  · rw [if_pos (by simpa using h1)] at hd
    have he : (s.e != 0) = true := by simpa using h1
    have HD := Lib.hid hd
    clear hd h1
    go_enter Tryd.func80, Tryd.ntmps80
    go_upto_region 1 with (fail)
    generalize w.alloc (.cells #[.pointer (some ⟨br, 0, none⟩)] 105) = w1 at *
    go_wp2_with fail
    refine (herr _ hr1).mono ?_
    rintro x w' ⟨rfl, rfl⟩
    go_wp2_with fail
    refine (herr _ hr1).mono ?_
    rintro x w' ⟨rfl, rfl⟩
    go_wp2_with fail
    go_ret
    exact ⟨by rw [HD.out]; rfl, HU.out⟩
end Go.Proofs.YteefceainlfdfaaDoor
