
/- equal roots held against each other. -/
import Derived.Test.YtccejkikphpnfaaGreatDoorQ28
import Derived.Stop.BytesEq
namespace Go.Proofs.YtccejkikphpnfaaGreatDoor
set_option linter.unusedSimpArgs false
set_option linter.unusedVariables false
set_option maxRecDepth 100000
open Go.ChangeShapes Go.WideShapes Go.ChangeAt Go.RowKit
set_option maxHeartbeats 2000000 in
theorem eqlN_any (x : Nm) (w : World) : Calls Tryz.prog 118 #[.agg #[sv x.name, .int .i64 x.com], .agg #[sv x.name, .int .i64 x.com]] w fun e w' => e = .returned (.bool true) ∧ Upd (fun _ => False) w w' := by
 obtain ⟨xn, xc⟩ := x
 unfold sv
 have hU := (Upd.alloc (fun _ => False) w (.cells #[.string (str xn), .int .i64 xc] 92)).trans (Upd.alloc (fun _ => False) (w.alloc (.cells #[.string (str xn), .int .i64 xc] 92)) (.cells #[.string (str xn), .int .i64 xc] 92))
 have HU := Lib.hid hU
 clear hU
 go_enter Tryz.func118, Tryz.ntmps118
 go_wp2_with fail
 go_ret
 exact ⟨by first | rfl | simp, HU.out⟩
set_option maxHeartbeats 2000000 in
theorem sameN_any (a a2 : Option Addr) (c c2 : Nat) (l : List Nm) (w : World) (hv : Vw w a l.length c 2 (l.flatMap nmV)) (hv2 : Vw w a2 l.length c2 2 (l.flatMap nmV)) :
  Calls Tryz.prog 117 #[.slice a l.length c, .slice a2 l.length c2, .func (.func 118) #[] #[]] w fun e w' => e = .returned (.bool true) ∧ Upd (fun _ => False) w w' := by
 have hcap := hv.cap
 have hlc := hv.le
 unfold maxLen at hcap
 have HV := Lib.hid (And.intro hv hv2)
 clear hv hv2
 have hb : ((l.length : Int) != (l.length : Int)) = false := by simp
 go_enter Tryz.func117, Tryz.ntmps117
 go_wp2_with fail
 clear hb
 go_loopw [7] (fun i wr => ∃ j : Nat, j ≤ l.length ∧ i = .int .i64 (j : Int) ∧ Upd (fun _ => False) w wr) (fun i _ => l.length - (intOf i).toNat)
 case atStart => exact ⟨0, Nat.zero_le _, rfl, Upd.refl _ _⟩
 case round =>
  obtain ⟨j, hj, rfl, hU⟩ := hrel
  by_cases hlt : j < l.length
  ·have hI : (j : Int) < (l.length : Int) := by omega
   have hI0 : (0 : Int) ≤ (j : Int) := by omega
   obtain ⟨b, o, hb, hcell⟩ := (HV.out.1.upd hU (fun _ _ h => h)).at (by omega) (by decide)
   obtain ⟨b2, o2, hb2, hcell2⟩ := (HV.out.2.upd hU (fun _ _ h => h)).at (by omega) (by decide)
   subst hb hb2
   have hq : ∀ r (hr : r < 2), wr.cell? ⟨b, o + j * 2 + r, none⟩ = (nmV l[j])[r]? ∧ wr.cell? ⟨b2, o2 + j * 2 + r, none⟩ = (nmV l[j])[r]? := fun r hr => by
    have hx : ∃ v, (nmV l[j])[r]? = some v := ⟨_, List.getElem?_eq_getElem (show r < (nmV l[j]).length from hr)⟩
    obtain ⟨v, hx⟩ := hx
    rw [hx]
    have e := (nm_get l j r hlt hr).trans hx
    exact ⟨by rw [Nat.add_assoc]; exact hcell _ _ e, by rw [Nat.add_assoc]; exact hcell2 _ _ e⟩
   have heq := fun w => eqlN_any l[j] w
   have HU := Lib.hid hU
   have HEQ := Lib.hid heq
   have HQ := Lib.hid hq
   clear hcell hcell2 hU heq hq
   generalize l[j] = x at *
   obtain ⟨xn, xc⟩ := x
   have HS : Hid ((wr.cell? ⟨b, o + j * 2, none⟩ = some (.string (str xn)) ∧ wr.cell? ⟨b, o + j * 2 + 1, none⟩ = some (.int .i64 xc)) ∧
     (wr.cell? ⟨b2, o2 + j * 2, none⟩ = some (.string (str xn)) ∧ wr.cell? ⟨b2, o2 + j * 2 + 1, none⟩ = some (.int .i64 xc))) :=
    Lib.hid ⟨⟨(HQ.out 0 (by decide)).1, (HQ.out 1 (by decide)).1⟩, ⟨(HQ.out 0 (by decide)).2, (HQ.out 1 (by decide)).2⟩⟩
   unfold sv at HEQ
   go_upto_region 6 with (fail)
   refine wp_region_plan_last [([0, 1, 2, 3, 4, 5, 6, 7, 8], 9)] [10] (fun wr => (wr.cell? ⟨b, o + j * 2, none⟩ = some (.string (str xn)) ∧ wr.cell? ⟨b, o + j * 2 + 1, none⟩ = some (.int .i64 xc)) ∧
     (wr.cell? ⟨b2, o2 + j * 2, none⟩ = some (.string (str xn)) ∧ wr.cell? ⟨b2, o2 + j * 2 + 1, none⟩ = some (.int .i64 xc))) (by kernel_rfl) (by kernel_rfl) HS.out ?_
   iterate 9
    refine plan_take (v := ?_) rfl rfl (fun w' hS => ?_) ?_
    rotate_left
    ·skip
     go_simp; try with_reducible rfl
    simp only [putL]
   refine plan_act rfl (fun KK hKK => ?_)
   go_wp2_with fail
   refine (HEQ.out _).mono ?_
   rintro e w2 ⟨rfl, hU2⟩
   have hU4 := (Upd.drew (fun _ => False) wr).trans hU2
   have HU2 := Lib.hid (HU.out.trans hU4)
   have cc : ∀ (q : Addr) (v : Value), wr.cell? q = some v → w2.cell? q = some v := fun q v h => (hU4.cell (World.block_lt_of_cell? wr q h) (fun h => h)).trans h
   have HS2 := Lib.hid (And.intro (And.intro (cc _ _ HS.out.1.1) (cc _ _ HS.out.1.2)) (And.intro (cc _ _ HS.out.2.1) (cc _ _ HS.out.2.2)))
   clear hU2 hU4 cc
   go_wp2_with fail
   refine hKK.out _ _ (.inr HS2.out) ?_
   iterate 1
    refine plan_last (v := ?_) rfl rfl (fun w' hS => ?_) ?_
    rotate_left
    ·skip
     go_simp; try with_reducible rfl
    simp only [putL]
   refine plan_end ?_
   go_wp2_with fail
   go_roundw
   case rel => exact ⟨j + 1, by omega, by first | rfl | go_num, HU2.out⟩
   case measure => simp [intOf]; omega
  ·obtain rfl : j = l.length := by omega
   go_wp2_with fail
   go_ret
   exact ⟨rfl, hU⟩
theorem plainN_any (a a2 : Option Addr) (c c2 : Nat) (l : List Nm) (w : World) (hv : Vw w a l.length c 2 (l.flatMap nmV)) (hv2 : Vw w a2 l.length c2 2 (l.flatMap nmV)) :
  Calls Tryz.prog 76 #[.slice a l.length c, .slice a2 l.length c2] w fun e w' => e = .returned (.bool true) ∧ Upd (fun _ => False) w w' := by
 have h := sameN_any a a2 c c2 l w hv hv2
 go_enter Tryz.func76, Tryz.ntmps76
 go_wp2_with fail
 refine h.mono ?_
 rintro e w1 ⟨rfl, hU⟩
 go_wp2_with fail
 go_ret
 exact ⟨rfl, hU⟩
set_option maxHeartbeats 2000000 in
theorem sMarker_any (x y : Mk) (w : World) (hx : MkIn w x) (hy : MkIn w y) (he : mkC x = mkC y) :
  Calls Tryz.prog 75 #[.agg #[.int .i64 x.old, .slice x.a x.new.length x.c], .agg #[.int .i64 y.old, .slice y.a y.new.length y.c]] w fun e w' => e = .returned (.bool true) ∧ Upd (fun _ => False) w w' := by
 obtain ⟨xc, xf, xa, xk⟩ := x
 obtain ⟨yc, yf, ya, yk⟩ := y
 unfold mkC at he
 simp only [Prod.mk.injEq] at he
 obtain ⟨rfl, rfl⟩ := he
 have hU1 := Upd.alloc (fun _ => False) w (.cells #[.int .i64 xc, .slice xa xf.length xk] 77)
 have hU2 := Upd.alloc (fun _ => False) (w.alloc (.cells #[.int .i64 xc, .slice xa xf.length xk] 77)) (.cells #[.int .i64 xc, .slice ya xf.length yk] 77)
 have hr1 := (hU2.block _ (lt_of_heap (heap_alloc_new w (.cells #[.int .i64 xc, .slice xa xf.length xk] 77))) (fun e => e)).trans (heap_alloc_new w (.cells #[.int .i64 xc, .slice xa xf.length xk] 77))
 have hr2 := heap_alloc_new (w.alloc (.cells #[.int .i64 xc, .slice xa xf.length xk] 77)) (.cells #[.int .i64 xc, .slice ya xf.length yk] 77)
 have hU := hU1.trans hU2
 have hsz : (w.alloc (.cells #[.int .i64 xc, .slice xa xf.length xk] 77)).heap.size = w.heap.size + 1 := by simp
 rw [hsz] at hr2
 have h1 := hx.upd hU
 have k1 := hy.upd hU
 have HP := Lib.hid (And.intro hU (And.intro hr1 (And.intro hr2 (And.intro h1 k1))))
 clear hU hr1 hr2 h1 k1 hU1 hU2 hsz hx hy
 go_enter Tryz.func75, Tryz.ntmps75
 go_upto_region 1 with (fail)
 obtain ⟨hU, hr1, hr2, h1, k1⟩ := HP.out
 clear HP
 generalize (w.alloc (.cells #[.int .i64 xc, .slice xa xf.length xk] 77)).alloc (.cells #[.int .i64 xc, .slice ya xf.length yk] 77) = y0 at *
 unfold MkIn at h1 k1
 dsimp only at h1 k1
 have hpl := plainI_any xa ya xk yk xf xf y0 h1 k1
 rw [show (xf == xf) = true from by simp] at hpl
 have HU := Lib.hid hU
 have q1 : y0.cell? ⟨w.heap.size, 0, none⟩ = some (.int .i64 xc) := by rw [cell_of_row _ _ _ _ _ _ hr1]; rfl
 have q2 : y0.cell? ⟨w.heap.size, 1, none⟩ = some (.slice xa xf.length xk) := by rw [cell_of_row _ _ _ _ _ _ hr1]; rfl
 have q3 : y0.cell? ⟨w.heap.size + 1, 0, none⟩ = some (.int .i64 xc) := by rw [cell_of_row _ _ _ _ _ _ hr2]; rfl
 have q4 : y0.cell? ⟨w.heap.size + 1, 1, none⟩ = some (.slice ya xf.length yk) := by rw [cell_of_row _ _ _ _ _ _ hr2]; rfl
 clear hU h1 k1 hr1 hr2
 go_wp2_with fail
 refine hpl.mono ?_
 rintro e w1 ⟨rfl, hV⟩
 have HZ := Lib.hid (HU.out.trans hV)
 clear q1 q2 q3 q4 hV hpl
 go_wp2_with fail
 go_ret
 exact ⟨by first | rfl | simp, HZ.out⟩
set_option maxHeartbeats 4000000 in
theorem sameM_any (a a2 : Option Addr) (c c2 : Nat) (l k : List Mk) (w : World) (hv : Vw w a l.length c 2 (l.flatMap mkV)) (hv2 : Vw w a2 k.length c2 2 (k.flatMap mkV)) (he : l.map mkC = k.map mkC) (hl : ∀ m ∈ l, MkIn w m) (hk : ∀ m ∈ k, MkIn w m) :
  Calls Tryz.prog 74 #[.slice a l.length c, .slice a2 k.length c2, .func (.func 75) #[] #[]] w fun e w' => e = .returned (.bool true) ∧ Upd (fun _ => False) w w' := by
 have hlen : l.length = k.length := by have := congrArg List.length he; simpa using this
 have hcap := hv.cap
 have hlc := hv.le
 unfold maxLen at hcap
 have HV := Lib.hid (And.intro hv (And.intro hv2 (And.intro hl (And.intro hk (And.intro he hlen)))))
 clear hv hv2 hl hk he
 rw [← hlen]
 clear hlen
 have hb : ((l.length : Int) != (l.length : Int)) = false := by simp
 go_enter Tryz.func74, Tryz.ntmps74
 go_wp2_with fail
 clear hb
 go_loopw [7] (fun i wr => ∃ j : Nat, j ≤ l.length ∧ i = .int .i64 (j : Int) ∧ Upd (fun _ => False) w wr) (fun i _ => l.length - (intOf i).toNat)
 case atStart => exact ⟨0, Nat.zero_le _, rfl, Upd.refl _ _⟩
 case round =>
  obtain ⟨j, hj, rfl, hU⟩ := hrel
  by_cases hlt : j < l.length
  ·have hlk : j < k.length := by have := HV.out.2.2.2.2.2; omega
   have hI : (j : Int) < (l.length : Int) := by omega
   have hI0 : (0 : Int) ≤ (j : Int) := by omega
   obtain ⟨b, o, hb, hcell⟩ := (HV.out.1.upd hU (fun _ _ h => h)).at (by omega) (by decide)
   obtain ⟨b2, o2, hb2, hcell2⟩ := (HV.out.2.1.upd hU (fun _ _ h => h)).at (by omega) (by decide)
   subst hb hb2
   have hq : ∀ r (hr : r < 2), wr.cell? ⟨b, o + j * 2 + r, none⟩ = (mkV l[j])[r]? ∧ wr.cell? ⟨b2, o2 + j * 2 + r, none⟩ = (mkV k[j])[r]? := fun r hr => by
    have hx : ∃ v, (mkV l[j])[r]? = some v := ⟨_, List.getElem?_eq_getElem (show r < (mkV l[j]).length from hr)⟩
    have hy : ∃ v, (mkV k[j])[r]? = some v := ⟨_, List.getElem?_eq_getElem (show r < (mkV k[j]).length from hr)⟩
    obtain ⟨v, hx⟩ := hx
    obtain ⟨u, hy⟩ := hy
    rw [hx, hy]
    have e := (mk_get l j r hlt hr).trans hx
    have e2 := (mk_get k j r hlk hr).trans hy
    exact ⟨by rw [Nat.add_assoc]; exact hcell _ _ e, by rw [Nat.add_assoc]; exact hcell2 _ _ e2⟩
   have hee : mkC l[j] = mkC k[j] := by
    have h3 := congrArg (fun z => z[j]?) HV.out.2.2.2.2.1
    simp only [List.getElem?_map, List.getElem?_eq_getElem hlt, List.getElem?_eq_getElem hlk, Option.map_some, Option.some.injEq] at h3
    exact h3
   have heq : ∀ w', Upd (fun _ => False) wr w' → Calls Tryz.prog 75 #[.agg #[.int .i64 l[j].old, .slice l[j].a l[j].new.length l[j].c], .agg #[.int .i64 k[j].old, .slice k[j].a k[j].new.length k[j].c]] w' fun e w'' => e = .returned (.bool true) ∧ Upd (fun _ => False) w' w'' :=
    fun w' hu => sMarker_any l[j] k[j] w' (((HV.out.2.2.1 _ (List.getElem_mem hlt)).upd hU).upd hu) (((HV.out.2.2.2.1 _ (List.getElem_mem hlk)).upd hU).upd hu) hee
   have HU := Lib.hid hU
   have HEQ := Lib.hid heq
   have HQ := Lib.hid hq
   clear hcell hcell2 hU heq hq hee
   generalize l[j] = x at *
   generalize k[j] = y at *
   obtain ⟨xc, xf, xa, xk⟩ := x
   obtain ⟨yc, yf, ya, yk⟩ := y
   have HS : Hid ((wr.cell? ⟨b, o + j * 2, none⟩ = some (.int .i64 xc) ∧ wr.cell? ⟨b, o + j * 2 + 1, none⟩ = some (.slice xa xf.length xk)) ∧
     (wr.cell? ⟨b2, o2 + j * 2, none⟩ = some (.int .i64 yc) ∧ wr.cell? ⟨b2, o2 + j * 2 + 1, none⟩ = some (.slice ya yf.length yk))) :=
    Lib.hid ⟨⟨(HQ.out 0 (by decide)).1, (HQ.out 1 (by decide)).1⟩, ⟨(HQ.out 0 (by decide)).2, (HQ.out 1 (by decide)).2⟩⟩
   dsimp only at HEQ
   clear HQ hlk
   go_upto_region 6 with (fail)
   refine wp_region_plan_last [([0, 1, 2, 3, 4, 5, 6, 7, 8], 9)] [10] (fun wr => (wr.cell? ⟨b, o + j * 2, none⟩ = some (.int .i64 xc) ∧ wr.cell? ⟨b, o + j * 2 + 1, none⟩ = some (.slice xa xf.length xk)) ∧
     (wr.cell? ⟨b2, o2 + j * 2, none⟩ = some (.int .i64 yc) ∧ wr.cell? ⟨b2, o2 + j * 2 + 1, none⟩ = some (.slice ya yf.length yk))) (by kernel_rfl) (by kernel_rfl) HS.out ?_
   iterate 9
    refine plan_take (v := ?_) rfl rfl (fun w' hS => ?_) ?_
    rotate_left
    ·skip
     go_simp; try with_reducible rfl
    simp only [putL]
   refine plan_act rfl (fun KK hKK => ?_)
   go_wp2_with fail
   refine (HEQ.out _ (Upd.drew _ _)).mono ?_
   rintro e w2 ⟨rfl, hU2⟩
   have hU4 := (Upd.drew (fun _ => False) wr).trans hU2
   have HU2 := Lib.hid (HU.out.trans hU4)
   have cc : ∀ (q : Addr) (v : Value), wr.cell? q = some v → w2.cell? q = some v := fun q v h => (hU4.cell (World.block_lt_of_cell? wr q h) (fun h => h)).trans h
   have HS2 := Lib.hid (And.intro (And.intro (cc _ _ HS.out.1.1) (cc _ _ HS.out.1.2)) (And.intro (cc _ _ HS.out.2.1) (cc _ _ HS.out.2.2)))
   clear hU2 hU4 cc
   go_wp2_with fail
   refine hKK.out _ _ (.inr HS2.out) ?_
   iterate 1
    refine plan_last (v := ?_) rfl rfl (fun w' hS => ?_) ?_
    rotate_left
    ·skip
     go_simp; try with_reducible rfl
    simp only [putL]
   refine plan_end ?_
   go_wp2_with fail
   go_roundw
   case rel => exact ⟨j + 1, by omega, by first | rfl | go_num, HU2.out⟩
   case measure => simp [intOf]; omega
  ·obtain rfl : j = l.length := by omega
   go_wp2_with fail
   go_ret
   exact ⟨rfl, hU⟩
theorem run_sizeOf_u8 (w : World) : (sizeOf 5).run Tryz.prog w = .ok 1 w := by
 obtain ⟨i0, hi, _⟩ := info_parts infoU8
 rw [run_sizeOf w hi, show Tryz.prog.cellsOf 5 = 1 from by kernel_rfl]
theorem ky_eqIn (x : Ky) (w : World) : (Op.equalIn 10000 52 (.agg (kyA x)) (.agg (kyA x))).run Tryz.prog w = .ok true w := by
 have hk := run_equalIn_bytes (P := Tryz.prog) w 9998 52 5 32 Tryz.underlying52 Tryz.underlying5 (fun w => run_sizeOf_u8 w) x.b x.b x.h x.h
 have e : kyA x = (x.b.map Extern.Stop.cell).toArray := rfl
 rw [e, hk]; simp
theorem ky_eql (x : Ky) (w : World) : (binOp .eql 52 (.agg (kyA x)) (.agg (kyA x))).run Tryz.prog w = .ok (.bool true) w := by
 rw [run_eql_struct, ky_eqIn]; rfl
theorem exec_load_ky {w : World} {ev : Operand → Value} {o : Oper} (x : Operand) (ho : o.op = .load 52 x) (b p : Nat) (hx : ev x = .pointer (some ⟨b, p, none⟩)) (e : Ky) (hr : w.rangeAt b p (kyV e)) :
  (execOp ev o).run Tryz.prog w = .ok (.value (.agg (kyA e))) w := by
 have hl := run_loadVar_mid (P := Tryz.prog) w b p 52 (kyV e) _ hr Tryz.underlying52 rfl (by rw [infoKey, kyV_len])
 unfold execOp
 simp only [ho, hx, Instr.loadAt, Instr.sureAddr, Sem.run_bind, Sem.run_pure, Result.andThen_ok, hl]
 rfl
theorem exec_eql_ky {w : World} {ev : Operand → Value} {o : Oper} (x y : Operand) (t : TypeId) (ho : o.op = .binOp .eql 52 x y t) (e : Ky) (hx : ev x = .agg (kyA e)) (hy : ev y = .agg (kyA e)) :
  (execOp ev o).run Tryz.prog w = .ok (.value (.bool true)) w := by
 have hg := run_eqGuard_agg (P := Tryz.prog) w .eql 52 x y (kyA e) (kyA e) (by kernel_rfl)
 unfold execOp
 simp only [ho, hx, hy, Sem.run_bind, hg, Result.andThen_ok, ky_eql, Sem.run_pure]
theorem wpList_eql_ky {ops : Array Oper} {rest : List Oper} {op : Oper} {a : Act} {w : World} {Q : Exit → Act → World → Prop} (hgd : op.guard = none) (x y : Operand) (t : TypeId) (ho : op.op = .binOp .eql 52 x y t)
  (e : Ky) (hx : a.eval x = .agg (kyA e)) (hy : a.eval y = .agg (kyA e)) (h : wpList Tryz.prog ops Q rest (a.put op.dst (.bool true)) w) : wpList Tryz.prog ops Q (op :: rest) a w :=
 wpList_plain hgd fun _ hK => by
  unfold Oper.wp
  rw [exec_eql_ky x y t ho e hx hy]
  exact hK _ _ h
set_option maxHeartbeats 2000000 in
theorem eqlKy_any (x : Ky) (w : World) : Calls Tryz.prog 78 #[.agg (kyA x), .agg (kyA x)] w fun e w' => e = .returned (.bool true) ∧ Upd (fun _ => False) w w' := by
 have hr1 := heap_alloc_new w (.cells (kyA x) 52)
 have hU1 := Upd.alloc (fun _ => False) w (.cells (kyA x) 52)
 have hU2 := Upd.alloc (fun _ => False) (w.alloc (.cells (kyA x) 52)) (.cells (kyA x) 52)
 have hr2 := heap_alloc_new (w.alloc (.cells (kyA x) 52)) (.cells (kyA x) 52)
 have hr3 := (hU2.block _ (lt_of_heap hr1) (fun h => h)).trans hr1
 have hz : (w.alloc (.cells (kyA x) 52)).heap.size = w.heap.size + 1 := by simp
 rw [hz] at hr2
 have hs : (Tryz.prog.info? 52).map (·.size) = some (kyA x).size := by rw [infoKey, kyA_size]
 have HS := Lib.hid hs
 have HR := Lib.hid (And.intro hr3 (And.intro hr2 (hU1.trans hU2)))
 clear hr1 hU1 hU2 hr2 hr3 hz hs
 go_enter Tryz.func78, Tryz.ntmps78
 go_upto_region 1 with (fail)
 obtain ⟨hr3, hr2, hU2⟩ := HR.out
 generalize (w.alloc (.cells (kyA x) 52)).alloc (.cells (kyA x) 52) = w1 at *
 have HU := Lib.hid hU2
 clear hU2 HR
 go_wp2_with first
  | refine wpList_load_row rfl 52 (.tmp 2) rfl w.heap.size (kyA x) 52 (0, 0) _ rfl hr3 Tryz.underlying52 rfl HS.out ?_
  | refine wpList_load_row rfl 52 (.tmp 3) rfl (w.heap.size + 1) (kyA x) 52 (0, 0) _ rfl hr2 Tryz.underlying52 rfl HS.out ?_
  | refine wpList_eql_ky rfl (.tmp 5) (.tmp 6) _ rfl x rfl rfl ?_
 go_ret
 exact ⟨rfl, HU.out⟩
set_option maxHeartbeats 4000000 in
theorem sameKy_any (a a2 : Option Addr) (c c2 : Nat) (l : List Ky) (w : World) (hv : Vw w a l.length c 32 (l.flatMap kyV)) (hv2 : Vw w a2 l.length c2 32 (l.flatMap kyV)) :
  Calls Tryz.prog 77 #[.slice a l.length c, .slice a2 l.length c2, .func (.func 78) #[] #[]] w fun e w' => e = .returned (.bool true) ∧ Upd (fun _ => False) w w' := by
 have hcap := hv.cap
 have hlc := hv.le
 unfold maxLen at hcap
 have HV := Lib.hid (And.intro hv hv2)
 clear hv hv2
 have hb : ((l.length : Int) != (l.length : Int)) = false := by simp
 go_enter Tryz.func77, Tryz.ntmps77
 go_wp2_with fail
 clear hb
 go_loopw [7] (fun i wr => ∃ j : Nat, j ≤ l.length ∧ i = .int .i64 (j : Int) ∧ Upd (fun _ => False) w wr) (fun i _ => l.length - (intOf i).toNat)
 case atStart => exact ⟨0, Nat.zero_le _, rfl, Upd.refl _ _⟩
 case round =>
  obtain ⟨j, hj, rfl, hU⟩ := hrel
  by_cases hlt : j < l.length
  ·have hI : (j : Int) < (l.length : Int) := by omega
   have hI0 : (0 : Int) ≤ (j : Int) := by omega
   obtain ⟨b, o, hb, hcell⟩ := (HV.out.1.upd hU (fun _ _ h => h)).at (by omega) (by decide)
   obtain ⟨b2, o2, hb2, hcell2⟩ := (HV.out.2.upd hU (fun _ _ h => h)).at (by omega) (by decide)
   subst hb hb2
   have hq : ∀ (B O : Nat), (∀ i v, (l.flatMap kyV)[i]? = some v → wr.cell? ⟨B, O + i, none⟩ = some v) → wr.rangeAt B (O + j * 32) (kyV l[j]) := fun B O hc r v hr => by
    have hr2 : r < 32 := by
     have := (List.getElem?_eq_some_iff.1 hr).1
     rw [kyV_len] at this
     exact this
    rw [Nat.add_assoc]
    refine hc _ v ?_
    rw [flatMap_get kyV 32 kyV_len l j r hr2, List.getElem?_eq_getElem hlt]
    exact hr
   have HS : Hid (wr.rangeAt b (o + j * 32) (kyV l[j]) ∧ wr.rangeAt b2 (o2 + j * 32) (kyV l[j])) := Lib.hid ⟨hq b o hcell, hq b2 o2 hcell2⟩
   have heq := fun w => eqlKy_any l[j] w
   have HU := Lib.hid hU
   have HEQ := Lib.hid heq
   clear hcell hcell2 hU heq hq
   generalize l[j] = x at *
   go_upto_region 6 with (fail)
   refine wp_region_plan_last [([0, 1, 2, 3, 4, 5, 6, 7, 8], 9)] [10] (fun w' => w'.rangeAt b (o + j * 32) (kyV x) ∧ w'.rangeAt b2 (o2 + j * 32) (kyV x)) (by kernel_rfl) (by kernel_rfl) HS.out ?_
   iterate 4
    refine plan_take (v := ?_) rfl rfl (fun w' hS => ?_) ?_
    rotate_left
    ·skip
     go_simp; try with_reducible rfl
    simp only [putL]
   refine plan_take (v := .agg (kyA x)) rfl rfl (fun w' hS => exec_load_ky (.tmp 22) rfl b (o + j * 32) rfl x hS.1) ?_
   simp only [putL]
   iterate 3
    refine plan_take (v := ?_) rfl rfl (fun w' hS => ?_) ?_
    rotate_left
    ·skip
     go_simp; try with_reducible rfl
    simp only [putL]
   refine plan_take (v := .agg (kyA x)) rfl rfl (fun w' hS => exec_load_ky (.tmp 26) rfl b2 (o2 + j * 32) rfl x hS.2) ?_
   simp only [putL]
   refine plan_act rfl (fun KK hKK => ?_)
   go_wp2_with fail
   refine (HEQ.out _).mono ?_
   rintro e w2 ⟨rfl, hU2⟩
   have hU4 := (Upd.drew (fun _ => False) wr).trans hU2
   have HU2 := Lib.hid (HU.out.trans hU4)
   have cc : ∀ (q : Addr) (v : Value), wr.cell? q = some v → w2.cell? q = some v := fun q v h => (hU4.cell (World.block_lt_of_cell? wr q h) (fun h => h)).trans h
   have HS2 : Hid (w2.rangeAt b (o + j * 32) (kyV x) ∧ w2.rangeAt b2 (o2 + j * 32) (kyV x)) := Lib.hid ⟨fun r v hr => cc _ _ (HS.out.1 r v hr), fun r v hr => cc _ _ (HS.out.2 r v hr)⟩
   clear hU2 hU4 cc
   go_wp2_with fail
   refine hKK.out _ _ (.inr HS2.out) ?_
   iterate 1
    refine plan_last (v := ?_) rfl rfl (fun w' hS => ?_) ?_
    rotate_left
    ·skip
     go_simp; try with_reducible rfl
    simp only [putL]
   refine plan_end ?_
   go_wp2_with fail
   go_roundw
   case rel => exact ⟨j + 1, by omega, by first | rfl | go_num, HU2.out⟩
   case measure => simp [intOf]; omega
  ·obtain rfl : j = l.length := by omega
   go_wp2_with fail
   go_ret
   exact ⟨rfl, hU⟩
theorem plainKy_any (a a2 : Option Addr) (c c2 : Nat) (l : List Ky) (w : World) (hv : Vw w a l.length c 32 (l.flatMap kyV)) (hv2 : Vw w a2 l.length c2 32 (l.flatMap kyV)) :
  Calls Tryz.prog 41 #[.slice a l.length c, .slice a2 l.length c2] w fun e w' => e = .returned (.bool true) ∧ Upd (fun _ => False) w w' := by
 have h := sameKy_any a a2 c c2 l w hv hv2
 go_enter Tryz.func41, Tryz.ntmps41
 go_wp2_with fail
 refine h.mono ?_
 rintro e w1 ⟨rfl, hU⟩
 go_wp2_with fail
 go_ret
 exact ⟨rfl, hU⟩
set_option maxHeartbeats 8000000 in
theorem sRoot_any (r t : Rt) (w : World) (hp : RtIn w r) (hq : RtIn w t) (he : rtC r = rtC t) :
  Calls Tryz.prog 39 #[.agg (rtA r), .agg (rtA t)] w fun e w' => e = .returned (.bool true) ∧ Upd (fun _ => False) w w' := by
 obtain ⟨p, ca, cc, ks, ma, mc, ms, na, nc, ns, k⟩ := r
 obtain ⟨p2, ca2, cc2, ks2, ma2, mc2, ms2, na2, nc2, ns2, k2⟩ := t
 unfold rtC at he
 simp only [RC.mk.injEq] at he
 obtain ⟨rfl, rfl, hms, rfl, rfl⟩ := he
 unfold rtA
 dsimp only
 have hU1 := Upd.alloc (fun _ => False) w (.cells #[.int .i64 p, .slice ca ks.length cc, .slice ma ms.length mc, .slice na ns.length nc, .int .i64 k] 26)
 have hU2 := Upd.alloc (fun _ => False) (w.alloc (.cells #[.int .i64 p, .slice ca ks.length cc, .slice ma ms.length mc, .slice na ns.length nc, .int .i64 k] 26)) (.cells #[.int .i64 p, .slice ca2 ks.length cc2, .slice ma2 ms2.length mc2, .slice na2 ns.length nc2, .int .i64 k] 26)
 have hr1 := (hU2.block _ (lt_of_heap (heap_alloc_new w (.cells #[.int .i64 p, .slice ca ks.length cc, .slice ma ms.length mc, .slice na ns.length nc, .int .i64 k] 26))) (fun e => e)).trans (heap_alloc_new w (.cells #[.int .i64 p, .slice ca ks.length cc, .slice ma ms.length mc, .slice na ns.length nc, .int .i64 k] 26))
 have hr2 := heap_alloc_new (w.alloc (.cells #[.int .i64 p, .slice ca ks.length cc, .slice ma ms.length mc, .slice na ns.length nc, .int .i64 k] 26)) (.cells #[.int .i64 p, .slice ca2 ks.length cc2, .slice ma2 ms2.length mc2, .slice na2 ns.length nc2, .int .i64 k] 26)
 have hU := hU1.trans hU2
 have hsz : (w.alloc (.cells #[.int .i64 p, .slice ca ks.length cc, .slice ma ms.length mc, .slice na ns.length nc, .int .i64 k] 26)).heap.size = w.heap.size + 1 := by simp
 rw [hsz] at hr2
 have h1 := hp.upd hU
 have k1 := hq.upd hU
 have HP := Lib.hid (And.intro hU (And.intro hr1 (And.intro hr2 (And.intro h1 (And.intro k1 hms)))))
 clear hU hr1 hr2 h1 k1 hU1 hU2 hsz hp hq hms
 go_enter Tryz.func39, Tryz.ntmps39
 go_upto_region 1 with (fail)
 obtain ⟨hU, hr1, hr2, h1, k1, hms⟩ := HP.out
 clear HP
 generalize (w.alloc (.cells #[.int .i64 p, .slice ca ks.length cc, .slice ma ms.length mc, .slice na ns.length nc, .int .i64 k] 26)).alloc (.cells #[.int .i64 p, .slice ca2 ks.length cc2, .slice ma2 ms2.length mc2, .slice na2 ns.length nc2, .int .i64 k] 26) = y0 at *
 have hpl := plainKy_any ca ca2 cc cc2 ks y0 h1.cv k1.cv
 have HPM : Hid (∀ w', Upd (fun _ => False) y0 w' → Calls Tryz.prog 74 #[.slice ma ms.length mc, .slice ma2 ms2.length mc2, .func (.func 75) #[] #[]] w' fun e w'' => e = .returned (.bool true) ∧ Upd (fun _ => False) w' w'') := Lib.hid (fun w' hu => sameM_any ma ma2 mc mc2 ms ms2 w' (h1.mv.upd hu (fun _ _ h => h)) (k1.mv.upd hu (fun _ _ h => h)) hms (fun m hm => (h1.me m hm).upd hu) (fun m hm => (k1.me m hm).upd hu))
 have HPN : Hid (∀ w', Upd (fun _ => False) y0 w' → Calls Tryz.prog 76 #[.slice na ns.length nc, .slice na2 ns.length nc2] w' fun e w'' => e = .returned (.bool true) ∧ Upd (fun _ => False) w' w'') := Lib.hid (fun w' hu => plainN_any na na2 nc nc2 ns w' (h1.nv.upd hu (fun _ _ h => h)) (k1.nv.upd hu (fun _ _ h => h)))
 have HU := Lib.hid hU
 have HR := Lib.hid (And.intro hr1 hr2)
 have x0 : y0.cell? ⟨w.heap.size, 0, none⟩ = some (.int .i64 p) := by rw [cell_of_row _ _ _ _ _ _ hr1]; rfl
 have x1 : y0.cell? ⟨w.heap.size, 1, none⟩ = some (.slice ca ks.length cc) := by rw [cell_of_row _ _ _ _ _ _ hr1]; rfl
 have x2 : y0.cell? ⟨w.heap.size, 2, none⟩ = some (.slice ma ms.length mc) := by rw [cell_of_row _ _ _ _ _ _ hr1]; rfl
 have x3 : y0.cell? ⟨w.heap.size, 3, none⟩ = some (.slice na ns.length nc) := by rw [cell_of_row _ _ _ _ _ _ hr1]; rfl
 have x4 : y0.cell? ⟨w.heap.size, 4, none⟩ = some (.int .i64 k) := by rw [cell_of_row _ _ _ _ _ _ hr1]; rfl
 have z0 : y0.cell? ⟨w.heap.size + 1, 0, none⟩ = some (.int .i64 p) := by rw [cell_of_row _ _ _ _ _ _ hr2]; rfl
 have z1 : y0.cell? ⟨w.heap.size + 1, 1, none⟩ = some (.slice ca2 ks.length cc2) := by rw [cell_of_row _ _ _ _ _ _ hr2]; rfl
 have z2 : y0.cell? ⟨w.heap.size + 1, 2, none⟩ = some (.slice ma2 ms2.length mc2) := by rw [cell_of_row _ _ _ _ _ _ hr2]; rfl
 have z3 : y0.cell? ⟨w.heap.size + 1, 3, none⟩ = some (.slice na2 ns.length nc2) := by rw [cell_of_row _ _ _ _ _ _ hr2]; rfl
 have z4 : y0.cell? ⟨w.heap.size + 1, 4, none⟩ = some (.int .i64 k) := by rw [cell_of_row _ _ _ _ _ _ hr2]; rfl
 clear hU h1 k1 hr1 hr2 hms
 generalize w.heap.size + 1 = Y2 at *
 generalize w.heap.size = Y1 at *
 go_wp2_with fail
 refine hpl.mono ?_
 rintro e w1 ⟨rfl, hV⟩
 have hV := hV
 clear x0 x1 x2 x3 x4 z0 z1 z2 z3 z4 hpl
 have hs1 := (hV.block _ (lt_of_heap HR.out.1) (fun h => h)).trans HR.out.1
 have hs2 := (hV.block _ (lt_of_heap HR.out.2) (fun h => h)).trans HR.out.2
 have x0 : w1.cell? ⟨Y1, 0, none⟩ = some (.int .i64 p) := by rw [cell_of_row _ _ _ _ _ _ hs1]; rfl
 have x1 : w1.cell? ⟨Y1, 1, none⟩ = some (.slice ca ks.length cc) := by rw [cell_of_row _ _ _ _ _ _ hs1]; rfl
 have x2 : w1.cell? ⟨Y1, 2, none⟩ = some (.slice ma ms.length mc) := by rw [cell_of_row _ _ _ _ _ _ hs1]; rfl
 have x3 : w1.cell? ⟨Y1, 3, none⟩ = some (.slice na ns.length nc) := by rw [cell_of_row _ _ _ _ _ _ hs1]; rfl
 have x4 : w1.cell? ⟨Y1, 4, none⟩ = some (.int .i64 k) := by rw [cell_of_row _ _ _ _ _ _ hs1]; rfl
 have z0 : w1.cell? ⟨Y2, 0, none⟩ = some (.int .i64 p) := by rw [cell_of_row _ _ _ _ _ _ hs2]; rfl
 have z1 : w1.cell? ⟨Y2, 1, none⟩ = some (.slice ca2 ks.length cc2) := by rw [cell_of_row _ _ _ _ _ _ hs2]; rfl
 have z2 : w1.cell? ⟨Y2, 2, none⟩ = some (.slice ma2 ms2.length mc2) := by rw [cell_of_row _ _ _ _ _ _ hs2]; rfl
 have z3 : w1.cell? ⟨Y2, 3, none⟩ = some (.slice na2 ns.length nc2) := by rw [cell_of_row _ _ _ _ _ _ hs2]; rfl
 have z4 : w1.cell? ⟨Y2, 4, none⟩ = some (.int .i64 k) := by rw [cell_of_row _ _ _ _ _ _ hs2]; rfl
 have HV := Lib.hid hV
 have hpm := HPM.out w1 hV
 clear hV hs1 hs2
 go_wp2_with fail
 refine hpm.mono ?_
 rintro e w2 ⟨rfl, hV⟩
 have hV := HV.out.trans hV
 clear HV
 clear x0 x1 x2 x3 x4 z0 z1 z2 z3 z4 hpm
 have hs1 := (hV.block _ (lt_of_heap HR.out.1) (fun h => h)).trans HR.out.1
 have hs2 := (hV.block _ (lt_of_heap HR.out.2) (fun h => h)).trans HR.out.2
 have x0 : w2.cell? ⟨Y1, 0, none⟩ = some (.int .i64 p) := by rw [cell_of_row _ _ _ _ _ _ hs1]; rfl
 have x1 : w2.cell? ⟨Y1, 1, none⟩ = some (.slice ca ks.length cc) := by rw [cell_of_row _ _ _ _ _ _ hs1]; rfl
 have x2 : w2.cell? ⟨Y1, 2, none⟩ = some (.slice ma ms.length mc) := by rw [cell_of_row _ _ _ _ _ _ hs1]; rfl
 have x3 : w2.cell? ⟨Y1, 3, none⟩ = some (.slice na ns.length nc) := by rw [cell_of_row _ _ _ _ _ _ hs1]; rfl
 have x4 : w2.cell? ⟨Y1, 4, none⟩ = some (.int .i64 k) := by rw [cell_of_row _ _ _ _ _ _ hs1]; rfl
 have z0 : w2.cell? ⟨Y2, 0, none⟩ = some (.int .i64 p) := by rw [cell_of_row _ _ _ _ _ _ hs2]; rfl
 have z1 : w2.cell? ⟨Y2, 1, none⟩ = some (.slice ca2 ks.length cc2) := by rw [cell_of_row _ _ _ _ _ _ hs2]; rfl
 have z2 : w2.cell? ⟨Y2, 2, none⟩ = some (.slice ma2 ms2.length mc2) := by rw [cell_of_row _ _ _ _ _ _ hs2]; rfl
 have z3 : w2.cell? ⟨Y2, 3, none⟩ = some (.slice na2 ns.length nc2) := by rw [cell_of_row _ _ _ _ _ _ hs2]; rfl
 have z4 : w2.cell? ⟨Y2, 4, none⟩ = some (.int .i64 k) := by rw [cell_of_row _ _ _ _ _ _ hs2]; rfl
 have HV := Lib.hid hV
 have hpn := HPN.out w2 hV
 clear hV hs1 hs2
 go_wp2_with fail
 refine hpn.mono ?_
 rintro e w3 ⟨rfl, hV⟩
 clear x0 x1 x2 x3 x4 z0 z1 z2 z3 z4 hpn
 have hV := HV.out.trans hV
 have hs1 := (hV.block _ (lt_of_heap HR.out.1) (fun h => h)).trans HR.out.1
 have hs2 := (hV.block _ (lt_of_heap HR.out.2) (fun h => h)).trans HR.out.2
 have x0 : w3.cell? ⟨Y1, 0, none⟩ = some (.int .i64 p) := by rw [cell_of_row _ _ _ _ _ _ hs1]; rfl
 have x1 : w3.cell? ⟨Y1, 1, none⟩ = some (.slice ca ks.length cc) := by rw [cell_of_row _ _ _ _ _ _ hs1]; rfl
 have x2 : w3.cell? ⟨Y1, 2, none⟩ = some (.slice ma ms.length mc) := by rw [cell_of_row _ _ _ _ _ _ hs1]; rfl
 have x3 : w3.cell? ⟨Y1, 3, none⟩ = some (.slice na ns.length nc) := by rw [cell_of_row _ _ _ _ _ _ hs1]; rfl
 have x4 : w3.cell? ⟨Y1, 4, none⟩ = some (.int .i64 k) := by rw [cell_of_row _ _ _ _ _ _ hs1]; rfl
 have z0 : w3.cell? ⟨Y2, 0, none⟩ = some (.int .i64 p) := by rw [cell_of_row _ _ _ _ _ _ hs2]; rfl
 have z1 : w3.cell? ⟨Y2, 1, none⟩ = some (.slice ca2 ks.length cc2) := by rw [cell_of_row _ _ _ _ _ _ hs2]; rfl
 have z2 : w3.cell? ⟨Y2, 2, none⟩ = some (.slice ma2 ms2.length mc2) := by rw [cell_of_row _ _ _ _ _ _ hs2]; rfl
 have z3 : w3.cell? ⟨Y2, 3, none⟩ = some (.slice na2 ns.length nc2) := by rw [cell_of_row _ _ _ _ _ _ hs2]; rfl
 have z4 : w3.cell? ⟨Y2, 4, none⟩ = some (.int .i64 k) := by rw [cell_of_row _ _ _ _ _ _ hs2]; rfl
 have HZ := Lib.hid (HU.out.trans hV)
 clear hV hs1 hs2
 go_wp2_with fail
 go_ret
 exact ⟨by first | rfl | simp, HZ.out⟩
end Go.Proofs.YtccejkikphpnfaaGreatDoor
