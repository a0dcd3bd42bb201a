
/- What roots and waits hold, whether they may be, their bytes; what is written is read again. -/
import Derived.Test.YtccejkikphpnfaaGreatDoorQ24
namespace Go.Proofs.YtccejkikphpnfaaGreatDoor
set_option linter.unusedSimpArgs false
set_option linter.unusedVariables false
set_option maxRecDepth 100000
open Go.ChangeShapes Go.WideShapes Go.ChangeAt Go.RowKit
def stB (m : St) : List UInt8 := i4 m.com ++ flsB m.fs
def clB (x : Cl) : List UInt8 := tx x.path ++ i4 x.kind ++ tx x.text
/-- The bytes of a wait. -/
def waitG (p : Wt) : List UInt8 := [3] ++ b1 p.re ++ i4 p.src ++ i4 p.dst ++ i4 p.com ++ i4 p.ss.length ++ p.ss.flatMap stB ++ i4 p.cs.length ++ p.cs.flatMap clB
def waitR (p : Wt) : List UInt8 := if waitB p then waitG p else []
def waitE (p : Wt) : Int := if waitB p then 0 else 5
theorem stB_len (m : St) : (stB m).length = 4 + (flsB m.fs).length := by
 unfold stB; rw [List.length_append, i4_length]
theorem clB_len (x : Cl) : (clB x).length = 12 + x.path.length + x.text.length := by
 unfold clB; rw [List.length_append, List.length_append, i4_length, tx_len, tx_len]; omega
theorem waitG_len (p : Wt) : (waitG p).length = 22 + (p.ss.flatMap stB).length + (p.cs.flatMap clB).length := by
 unfold waitG; simp only [List.length_append, i4_length, b1_len, List.length_cons, List.length_nil]; omega
set_option maxHeartbeats 32000000 in
theorem mPackWait_any (p : Wt) (w : World) (h : WtIn w p) (hmax : (waitG p).length ≤ 80000000) : Calls Tryz.prog 13 #[.agg (wtA p)] w (Packed w (waitR p) (waitE p)) := by
 have hU1 := Upd.alloc (fun _ => False) w (.cells (wtA p) 30)
 have hrow := heap_alloc_new w (.cells (wtA p) 30)
 have hv1 := h.upd hU1
 have hmr := mwait_any p (w.alloc (.cells (wtA p) 30)) hv1
 have HRR : Hid (waitR p = if waitB p then waitG p else []) := Lib.hid rfl
 have HRE : Hid (waitE p = if waitB p then 0 else 5) := Lib.hid rfl
 have HD : Hid (waitG p = [3] ++ b1 p.re ++ i4 p.src ++ i4 p.dst ++ i4 p.com ++ i4 p.ss.length ++ p.ss.flatMap stB ++ i4 p.cs.length ++ p.cs.flatMap clB) := Lib.hid rfl
 rw [waitG_len] at hmax
 generalize waitR p = RL at *
 generalize waitE p = RE at *
 generalize waitG p = LL at *
 generalize waitB p = R at *
 obtain ⟨on, re, src, dst, sa, sc, ss, com, ca, cc, cs⟩ := p
 unfold wtA at *
 dsimp only at *
 have HP := Lib.hid (And.intro hU1 (And.intro hrow hv1))
 clear hU1 hrow hv1 h
 generalize hAA : (ss.flatMap stB).length = A at *
 generalize hBB : (cs.flatMap clB).length = BB at *
 have HAA := Lib.hid hAA
 have HBB := Lib.hid hBB
 clear hAA hBB
 go_enter Tryz.func13, Tryz.ntmps13
 go_wp2_with fail
 refine hmr.mono ?_
 rintro e w1 ⟨rfl, hU2⟩
 clear hmr
 cases R with
 | false =>
  have HF := Lib.hid (HP.out.1.trans hU2)
  have hRL := HRR.out
  have hRE := HRE.out
  simp only [Bool.false_eq_true, if_false] at hRL hRE
  subst hRL hRE
  clear hU2
  go_wp2_with fail
  go_ret2
  exact ⟨none, 0, rfl, Vw.nl _ _, (fun g h => by cases h), HF.out⟩
 | true =>
 have hRL := HRR.out
 have hRE := HRE.out
 simp only [if_true] at hRL hRE
 subst hRL hRE
 clear HRR HRE
 obtain ⟨hU1, hrow, hv1⟩ := HP.out
 have hv2 := hv1.upd hU2
 have hrow1 := (hU2.block _ (lt_of_heap hrow) (fun h => h)).trans hrow
 have hU01 := hU1.trans hU2
 have hlt1 := lt_of_heap hrow1
 have HR1 := Lib.hid hrow1
 have HI := Lib.hid hv2
 have HU01 := Lib.hid hU01
 clear hU1 hrow hv1 HP hU2 hv2 hrow1 hU01
 obtain ⟨K, hK, hW⟩ := Wn.fresh w1 86
 have HK := Lib.hid hK
 have HW0 := Lib.hid hW
 clear hK hW
 have HBK := Lib.hid (HK.out _ hlt1)
 go_upto_region 4 with (fail)
 have hW := HW0.out
 generalize w1.alloc (Obj.cells #[Value.slice none 0 0] 86) = x0 at *
 obtain ⟨bw, hbw0⟩ : ∃ bw, w1.heap.size = bw := ⟨_, rfl⟩
 rw [hbw0] at hW ⊢
 have HBW := Lib.hid hbw0
 clear HW0 hbw0
 go_wp2_with fail
 refine (wn_num hW (by simp) 3 1 1 (by omega) (by omega) rfl).mono ?_
 rintro e x1 ⟨rfl, hW1⟩
 clear hW
 have hW := hW1
 clear hW1
 have hl1 : ([] : List UInt8) ++ le (3 : Int).toNat 1 = [3] := rfl
 rw [hl1] at hW
 clear hl1
 have hl1l : ([3] : List UInt8).length ≤ 1 := by simp
 generalize hL : ([3] : List UInt8) = l1 at hW hl1l
 have Hl1 := Lib.hid hL
 clear hL
 obtain ⟨z0, z1, z2, z3, z4, z5, z6⟩ := row7 (hW.row HBK.out HR1.out)
 clear z0 z2 z3 z4 z5 z6
 go_wp2_with fail
 refine wp_region_plan_last [([0, 1, 2, 3, 4], 5)] [] (fun w' => w'.cell? ⟨w.heap.size, 1, none⟩ = some (.bool re)) (by kernel_rfl) (by kernel_rfl) z1 ?_
 iterate 5
  refine plan_take (v := ?_) rfl rfl (fun w' hS => ?_) ?_
  rotate_left; · (go_simp; try with_reducible rfl)
  simp only [putL]
 have hWd := hW.other (Upd.drew _ _)
 refine plan_act rfl (fun KK hKK => ?_)
 go_wp2_with fail
 refine (wn_bool hWd (by omega) re).mono ?_
 rintro e x1 ⟨rfl, hW1⟩
 clear hWd
 go_wp2_with fail
 refine hKK.out _ _ (.inl rfl) (plan_end ?_)
 clear hKK
 clear hW z1
 have hW := hW1
 clear hW1
 have hl2l : (l1 ++ b1 re).length ≤ 2 := by rw [List.length_append, b1_len]; omega
 generalize hL : l1 ++ b1 re = l2 at hW hl2l
 have Hl2 := Lib.hid hL
 clear hL
 obtain ⟨z0, z1, z2, z3, z4, z5, z6⟩ := row7 (hW.row HBK.out HR1.out)
 clear z0 z1 z3 z4 z5 z6
 go_wp2_with fail
 refine wp_region_plan_last [([0, 1, 2, 3, 4], 5)] [] (fun w' => w'.cell? ⟨w.heap.size, 2, none⟩ = some (.int .i64 src)) (by kernel_rfl) (by kernel_rfl) z2 ?_
 iterate 5
  refine plan_take (v := ?_) rfl rfl (fun w' hS => ?_) ?_
  rotate_left; · (go_simp; try with_reducible rfl)
  simp only [putL]
 have hWd := hW.other (Upd.drew _ _)
 refine plan_act rfl (fun KK hKK => ?_)
 go_wp2_with fail
 refine (wn_int hWd (by omega) src).mono ?_
 rintro e x1 ⟨rfl, hW1⟩
 clear hWd
 go_wp2_with fail
 refine hKK.out _ _ (.inl rfl) (plan_end ?_)
 clear hKK
 clear hW z2
 have hW := hW1
 clear hW1
 have hl3l : (l2 ++ i4 src).length ≤ 6 := by rw [List.length_append, i4_length]; omega
 generalize hL : l2 ++ i4 src = l3 at hW hl3l
 have Hl3 := Lib.hid hL
 clear hL
 obtain ⟨z0, z1, z2, z3, z4, z5, z6⟩ := row7 (hW.row HBK.out HR1.out)
 clear z0 z1 z2 z4 z5 z6
 go_wp2_with fail
 refine wp_region_plan_last [([0, 1, 2, 3, 4], 5)] [] (fun w' => w'.cell? ⟨w.heap.size, 3, none⟩ = some (.int .i64 dst)) (by kernel_rfl) (by kernel_rfl) z3 ?_
 iterate 5
  refine plan_take (v := ?_) rfl rfl (fun w' hS => ?_) ?_
  rotate_left; · (go_simp; try with_reducible rfl)
  simp only [putL]
 have hWd := hW.other (Upd.drew _ _)
 refine plan_act rfl (fun KK hKK => ?_)
 go_wp2_with fail
 refine (wn_int hWd (by omega) dst).mono ?_
 rintro e x1 ⟨rfl, hW1⟩
 clear hWd
 go_wp2_with fail
 refine hKK.out _ _ (.inl rfl) (plan_end ?_)
 clear hKK
 clear hW z3
 have hW := hW1
 clear hW1
 have hl4l : (l3 ++ i4 dst).length ≤ 10 := by rw [List.length_append, i4_length]; omega
 generalize hL : l3 ++ i4 dst = l4 at hW hl4l
 have Hl4 := Lib.hid hL
 clear hL
 obtain ⟨z0, z1, z2, z3, z4, z5, z6⟩ := row7 (hW.row HBK.out HR1.out)
 clear z0 z1 z2 z3 z4 z6
 go_wp2_with fail
 refine wp_region_plan_last [([0, 1, 2, 3, 4], 5)] [] (fun w' => w'.cell? ⟨w.heap.size, 5, none⟩ = some (.int .i64 com)) (by kernel_rfl) (by kernel_rfl) z5 ?_
 iterate 5
  refine plan_take (v := ?_) rfl rfl (fun w' hS => ?_) ?_
  rotate_left; · (go_simp; try with_reducible rfl)
  simp only [putL]
 have hWd := hW.other (Upd.drew _ _)
 refine plan_act rfl (fun KK hKK => ?_)
 go_wp2_with fail
 refine (wn_int hWd (by omega) com).mono ?_
 rintro e x1 ⟨rfl, hW1⟩
 clear hWd
 go_wp2_with fail
 refine hKK.out _ _ (.inl rfl) (plan_end ?_)
 clear hKK
 clear hW z5
 have hW := hW1
 clear hW1
 have hl5l : (l4 ++ i4 com).length ≤ 14 := by rw [List.length_append, i4_length]; omega
 generalize hL : l4 ++ i4 com = l5 at hW hl5l
 have Hl5 := Lib.hid hL
 clear hL
 obtain ⟨z0, z1, z2, z3, z4, z5, z6⟩ := row7 (hW.row HBK.out HR1.out)
 clear z0 z1 z2 z3 z5 z6
 go_wp2_with fail
 refine wp_region_plan_last [([0, 1, 2, 3, 4, 5], 6)] [] (fun w' => w'.cell? ⟨w.heap.size, 4, none⟩ = some (.slice sa ss.length sc)) (by kernel_rfl) (by kernel_rfl) z4 ?_
 iterate 6
  refine plan_take (v := ?_) rfl rfl (fun w' hS => ?_) ?_
  rotate_left; · (go_simp; try with_reducible rfl)
  simp only [putL]
 have hWd := hW.other (Upd.drew _ _)
 refine plan_act rfl (fun KK hKK => ?_)
 go_wp2_with fail
 refine (wn_int hWd (by omega) (ss.length : Int)).mono ?_
 rintro e x1 ⟨rfl, hW1⟩
 clear hWd
 go_wp2_with fail
 refine hKK.out _ _ (.inl rfl) (plan_end ?_)
 clear hKK
 clear hW z4
 have hW := hW1
 clear hW1
 have hl6l : (l5 ++ i4 (ss.length : Int)).length ≤ 18 := by rw [List.length_append, i4_length]; omega
 generalize hL : l5 ++ i4 (ss.length : Int) = l6 at hW hl6l
 have Hl6 := Lib.hid hL
 clear hL
 obtain ⟨z0, z1, z2, z3, z4, z5, z6⟩ := row7 (hW.row HBK.out HR1.out)
 clear z0 z1 z2 z3 z5 z6
 have hcm := HI.out.sv.cap
 have hlm := HI.out.sv.le
 unfold maxLen at hcm
 dsimp only at hcm hlm
 go_wp2_with fail
 go_loopw [52] (fun i wr => ∃ j : Nat, j ≤ ss.length ∧ i = .int .i64 (j : Int) ∧ Wn K 86 w1 wr bw (l6 ++ (ss.take j).flatMap stB)) (fun i _ => ss.length - (intOf i).toNat)
 case atStart => exact ⟨0, Nat.zero_le _, rfl, by simpa using hW⟩
 case round =>
  clear hW z4
  obtain ⟨j, hj, rfl, hW⟩ := hrel
  by_cases hlt : j < ss.length
  ·have hI : (j : Int) < (ss.length : Int) := by omega
   obtain ⟨b, o, hb, hcell⟩ := (HI.out.sv.upd (hW.old HK.out) (fun _ _ h => h)).at (show 0 < ss.length by omega) (by decide)
   dsimp only at hb
   subst hb
   have q0 : wr.cell? ⟨b, o + j * 2, none⟩ = some (.int .i64 ss[j].com) := hcell (j * 2 + 0) _ (st_get ss j 0 hlt (by decide))
   have q1 : wr.cell? ⟨b, o + j * 2 + 1, none⟩ = some (.slice ss[j].a ss[j].fs.length ss[j].c) := hcell (j * 2 + 1) _ (st_get ss j 1 hlt (by decide))
   have hmx : ∀ w', Upd (fun _ => False) w1 w' → StIn w' ss[j] := fun w' hu => (HI.out.se ss[j] (List.getElem_mem hlt)).upd hu
   have hsucc := flatMap_succ stB ss j hlt
   have hlen : ((l6 ++ (ss.take j).flatMap stB) ++ stB ss[j]).length ≤ 18 + A := by
    have h1 := flat_take_le stB ss (j + 1)
    rw [HAA.out] at h1
    rw [List.append_assoc, hsucc, List.length_append]
    omega
   rw [List.length_append, stB_len] at hlen
   generalize ss[j] = x at *
   obtain ⟨xo, xn, xa, xc⟩ := x
   dsimp only at *
   have hent := hW.enter (.cells #[.int .i64 xo, .slice xa xn.length xc] 80)
   have hnew := heap_alloc_new wr (.cells #[.int .i64 xo, .slice xa xn.length xc] 80)
   have HMX := Lib.hid hmx
   have HSU := Lib.hid hsucc
   have HW0 := Lib.hid hW
   have HNEW := Lib.hid hnew
   clear hcell hsucc hW hnew hmx
   go_upto_region 13 with (fail)
   have hlv : ∀ w2 l', Wn (fun k => K k ∨ k = wr.heap.size) 86 (wr.alloc (.cells #[.int .i64 xo, .slice xa xn.length xc] 80)) w2 bw l' → Wn K 86 w1 w2 bw l' := fun w2 l' h => HW0.out.leave h
   have HLV := Lib.hid hlv
   clear hlv
   generalize hp0 : l6 ++ (ss.take j).flatMap stB = p0 at hent hlen
   have HP0 := Lib.hid hp0
   have hnew := HNEW.out
   clear hp0
   obtain ⟨xb, hxb⟩ : ∃ xb, wr.heap.size = xb := ⟨_, rfl⟩
   rw [hxb] at hent hnew HLV ⊢
   generalize wr.alloc (.cells #[.int .i64 xo, .slice xa xn.length xc] 80) = y0 at *
   have HN := Lib.hid hnew
   clear hnew HNEW hxb HW0 q0 q1
   have hW := hent
   clear hent
   have z0 : _ = some (Value.int IntKind.i64 xo) := cell_of_row _ xb 0 _ _ _ (hW.row (Or.inr rfl) HN.out)
   refine wp_region_plan_last [([0, 1, 2, 3, 4], 5)] [] (fun w' => w'.cell? ⟨xb, 0, none⟩ = some (.int .i64 xo)) (by kernel_rfl) (by kernel_rfl) z0 ?_
   iterate 5
    refine plan_take (v := ?_) rfl rfl (fun w' hS => ?_) ?_
    rotate_left; · (go_simp; try with_reducible rfl)
    simp only [putL]
   have hWd := hW.other (Upd.drew _ _)
   refine plan_act rfl (fun KK hKK => ?_)
   go_wp2_with fail
   refine (wn_int hWd (by omega) xo).mono ?_
   rintro e x1 ⟨rfl, hW1⟩
   clear hWd
   go_wp2_with fail
   refine hKK.out _ _ (.inl rfl) (plan_end ?_)
   clear hKK
   clear hW z0
   have hW := hW1
   clear hW1
   have hp1l : (p0 ++ i4 xo).length ≤ p0.length + 4 := by rw [List.length_append, i4_length]; omega
   generalize hL : p0 ++ i4 xo = p1 at hW hp1l
   have Hp1 := Lib.hid hL
   clear hL
   have z1 : _ = some (Value.slice xa xn.length xc) := cell_of_row _ xb 1 _ _ _ (hW.row (Or.inr rfl) HN.out)
   go_wp2_with fail
   refine (wfiles_any hW xa xc xn (by rw [List.length_append]; omega) (fun wz l' hz => (HMX.out wz ((HLV.out wz l' hz).old HK.out)).v)).mono ?_
   rintro e x1 ⟨rfl, hW1⟩
   have hW2 := HLV.out _ _ hW1
   have heq : p1 ++ flsB xn = l6 ++ (ss.take (j + 1)).flatMap stB := by
    rw [← HSU.out, ← Hp1.out, ← HP0.out]
    simp [stB]
   rw [heq] at hW2
   clear heq hW hW1 z1
   go_wp2_with fail
   go_roundw
   case rel => exact ⟨j + 1, by omega, by first | rfl | go_num, hW2⟩
   case measure => simp [intOf]; omega
  ·obtain rfl : j = ss.length := by omega
   rw [List.take_length] at hW
   have hll7 : (l6 ++ ss.flatMap stB).length ≤ 18 + A := by rw [List.length_append, HAA.out]; omega
   generalize hL : l6 ++ ss.flatMap stB = l7 at hW hll7
   have Hl7 := Lib.hid hL
   have hI : ¬ (ss.length : Int) < (ss.length : Int) := by omega
   clear hL hlt hj
   obtain ⟨z0, z1, z2, z3, z4, z5, z6⟩ := row7 (hW.row HBK.out HR1.out)
   clear z0 z1 z2 z3 z4 z5
   go_wp2_with fail
   clear hI
   refine wp_region_plan_last [([0, 1, 2, 3, 4, 5], 6)] [] (fun w' => w'.cell? ⟨w.heap.size, 6, none⟩ = some (.slice ca cs.length cc)) (by kernel_rfl) (by kernel_rfl) z6 ?_
   iterate 6
    refine plan_take (v := ?_) rfl rfl (fun w' hS => ?_) ?_
    rotate_left; · (go_simp; try with_reducible rfl)
    simp only [putL]
   have hWd := hW.other (Upd.drew _ _)
   refine plan_act rfl (fun KK hKK => ?_)
   go_wp2_with fail
   refine (wn_int hWd (by omega) (cs.length : Int)).mono ?_
   rintro e x1 ⟨rfl, hW1⟩
   clear hWd
   go_wp2_with fail
   refine hKK.out _ _ (.inl rfl) (plan_end ?_)
   clear hKK
   clear hW z6
   have hW := hW1
   clear hW1
   have hl8l : (l7 ++ i4 (cs.length : Int)).length ≤ 22 + A := by rw [List.length_append, i4_length]; omega
   generalize hL : l7 ++ i4 (cs.length : Int) = l8 at hW hl8l
   have Hl8 := Lib.hid hL
   clear hL
   obtain ⟨z0, z1, z2, z3, z4, z5, z6⟩ := row7 (hW.row HBK.out HR1.out)
   clear z0 z1 z2 z3 z4 z5
   have hcn := HI.out.cv.cap
   have hln := HI.out.cv.le
   unfold maxLen at hcn
   dsimp only at hcn hln
   go_wp2_with fail
   go_loopw [77] (fun i wr => ∃ j : Nat, j ≤ cs.length ∧ i = .int .i64 (j : Int) ∧ Wn K 86 w1 wr bw (l8 ++ (cs.take j).flatMap clB)) (fun i _ => cs.length - (intOf i).toNat)
   case atStart => exact ⟨0, Nat.zero_le _, rfl, by simpa using hW⟩
   case round =>
    clear hW z6
    obtain ⟨j, hj, rfl, hW⟩ := hrel
    by_cases hlt : j < cs.length
    ·have hI : (j : Int) < (cs.length : Int) := by omega
     obtain ⟨b, o, hb, hcell⟩ := (HI.out.cv.upd (hW.old HK.out) (fun _ _ h => h)).at (show 0 < cs.length by omega) (by decide)
     dsimp only at hb
     subst hb
     have q0 : wr.cell? ⟨b, o + j * 3, none⟩ = some (sv cs[j].path) := hcell (j * 3 + 0) _ (cl_get cs j 0 hlt (by decide))
     have q1 : wr.cell? ⟨b, o + j * 3 + 1, none⟩ = some (.int .i64 cs[j].kind) := hcell (j * 3 + 1) _ (cl_get cs j 1 hlt (by decide))
     have q2 : wr.cell? ⟨b, o + j * 3 + 2, none⟩ = some (sv cs[j].text) := hcell (j * 3 + 2) _ (cl_get cs j 2 hlt (by decide))
     have hsucc := flatMap_succ clB cs j hlt
     have hlen : ((l8 ++ (cs.take j).flatMap clB) ++ clB cs[j]).length ≤ 22 + A + BB := by
      have h1 := flat_take_le clB cs (j + 1)
      rw [HBB.out] at h1
      rw [List.append_assoc, hsucc, List.length_append]
      omega
     rw [List.length_append, clB_len] at hlen
     generalize cs[j] = x at *
     obtain ⟨xp, xk, xt⟩ := x
     dsimp only at *
     have hent := hW.enter (.cells #[sv xp, .int .i64 xk, sv xt] 100)
     have hnew := heap_alloc_new wr (.cells #[sv xp, .int .i64 xk, sv xt] 100)
     unfold sv at q0 q2 hent hnew
     have HSU := Lib.hid hsucc
     have HW0 := Lib.hid hW
     have HNEW := Lib.hid hnew
     clear hcell hsucc hW hnew
     go_upto_region 20 with (fail)
     have hlv : ∀ w2 l', Wn (fun k => K k ∨ k = wr.heap.size) 86 (wr.alloc (.cells #[Value.string (str xp), .int .i64 xk, Value.string (str xt)] 100)) w2 bw l' → Wn K 86 w1 w2 bw l' := fun w2 l' h => HW0.out.leave h
     have HLV := Lib.hid hlv
     clear hlv
     generalize hp0 : l8 ++ (cs.take j).flatMap clB = p0 at hent hlen
     have HP0 := Lib.hid hp0
     have hnew := HNEW.out
     clear hp0
     obtain ⟨xb, hxb⟩ : ∃ xb, wr.heap.size = xb := ⟨_, rfl⟩
     rw [hxb] at hent hnew HLV ⊢
     generalize wr.alloc (.cells #[Value.string (str xp), .int .i64 xk, Value.string (str xt)] 100) = y0 at *
     have HN := Lib.hid hnew
     clear hnew HNEW hxb HW0 q0 q1 q2
     have hW := hent
     clear hent
     have z0 : _ = some (Value.string (str xp)) := cell_of_row _ xb 0 _ _ _ (hW.row (Or.inr rfl) HN.out)
     refine wp_region_plan_last [([0, 1, 2, 3, 4], 5)] [] (fun w' => w'.cell? ⟨xb, 0, none⟩ = some (Value.string (str xp))) (by kernel_rfl) (by kernel_rfl) z0 ?_
     iterate 5
      refine plan_take (v := ?_) rfl rfl (fun w' hS => ?_) ?_
      rotate_left; · (go_simp; try with_reducible rfl)
      simp only [putL]
     have hWd := hW.other (Upd.drew _ _)
     refine plan_act rfl (fun KK hKK => ?_)
     go_wp2_with fail
     refine (wn_text hWd (by omega) xp (by omega)).mono ?_
     rintro e x1 ⟨rfl, hW1⟩
     clear hWd
     go_wp2_with fail
     refine hKK.out _ _ (.inl rfl) (plan_end ?_)
     clear hKK
     clear hW z0
     have hW := hW1
     clear hW1
     have hp1l : (p0 ++ tx xp).length ≤ p0.length + 4 + xp.length := by rw [List.length_append, tx_len]; omega
     generalize hL : p0 ++ tx xp = p1 at hW hp1l
     have Hp1 := Lib.hid hL
     clear hL
     have z1 : _ = some (Value.int IntKind.i64 xk) := cell_of_row _ xb 1 _ _ _ (hW.row (Or.inr rfl) HN.out)
     go_wp2_with fail
     refine wp_region_plan_last [([0, 1, 2, 3, 4], 5)] [] (fun w' => w'.cell? ⟨xb, 1, none⟩ = some (.int .i64 xk)) (by kernel_rfl) (by kernel_rfl) z1 ?_
     iterate 5
      refine plan_take (v := ?_) rfl rfl (fun w' hS => ?_) ?_
      rotate_left; · (go_simp; try with_reducible rfl)
      simp only [putL]
     have hWd := hW.other (Upd.drew _ _)
     refine plan_act rfl (fun KK hKK => ?_)
     go_wp2_with fail
     refine (wn_int hWd (by omega) xk).mono ?_
     rintro e x1 ⟨rfl, hW1⟩
     clear hWd
     go_wp2_with fail
     refine hKK.out _ _ (.inl rfl) (plan_end ?_)
     clear hKK
     clear hW z1
     have hW := hW1
     clear hW1
     have hp2l : (p1 ++ i4 xk).length ≤ p1.length + 4 := by rw [List.length_append, i4_length]; omega
     generalize hL : p1 ++ i4 xk = p2 at hW hp2l
     have Hp2 := Lib.hid hL
     clear hL
     have z2 : _ = some (Value.string (str xt)) := cell_of_row _ xb 2 _ _ _ (hW.row (Or.inr rfl) HN.out)
     go_wp2_with fail
     refine wp_region_plan_last [([0, 1, 2, 3, 4], 5)] [] (fun w' => w'.cell? ⟨xb, 2, none⟩ = some (Value.string (str xt))) (by kernel_rfl) (by kernel_rfl) z2 ?_
     iterate 5
      refine plan_take (v := ?_) rfl rfl (fun w' hS => ?_) ?_
      rotate_left; · (go_simp; try with_reducible rfl)
      simp only [putL]
     have hWd := hW.other (Upd.drew _ _)
     refine plan_act rfl (fun KK hKK => ?_)
     go_wp2_with fail
     refine (wn_text hWd (by omega) xt (by omega)).mono ?_
     rintro e x1 ⟨rfl, hW1⟩
     clear hWd
     go_wp2_with fail
     refine hKK.out _ _ (.inl rfl) (plan_end ?_)
     clear hKK
     clear hW z2
     have hW := hW1
     clear hW1
     have hp3l : (p2 ++ tx xt).length ≤ p2.length + 4 + xt.length := by rw [List.length_append, tx_len]; omega
     generalize hL : p2 ++ tx xt = p3 at hW hp3l
     have Hp3 := Lib.hid hL
     clear hL
     have hW2 := HLV.out _ _ hW
     have heq : p3 = l8 ++ (cs.take (j + 1)).flatMap clB := by
      rw [← HSU.out, ← Hp3.out, ← Hp2.out, ← Hp1.out, ← HP0.out]
      simp [clB]
     rw [heq] at hW2
     clear heq hW
     go_wp2_with fail
     go_roundw
     case rel => exact ⟨j + 1, by omega, by first | rfl | go_num, hW2⟩
     case measure => simp [intOf]; omega
    ·obtain rfl : j = cs.length := by omega
     rw [List.take_length] at hW
     have hll9 : (l8 ++ cs.flatMap clB).length ≤ 22 + A + BB := by rw [List.length_append, HBB.out]; omega
     generalize hL : l8 ++ cs.flatMap clB = l9 at hW hll9
     have Hl9 := Lib.hid hL
     have hI : ¬ (cs.length : Int) < (cs.length : Int) := by omega
     clear hL hlt hj
     have hLL : RL = l9 := by rw [HD.out, ← Hl9.out, ← Hl8.out, ← Hl7.out, ← Hl6.out, ← Hl5.out, ← Hl4.out, ← Hl3.out, ← Hl2.out, ← Hl1.out]
     subst hLL
     have HC := Lib.hid (hW.old HK.out)
     go_wp2_with fail
     refine (wn_bytes hW (by omega)).mono ?_
     rintro e x2 ⟨a2, c2, rfl, hown, hfr, hU3⟩
     have hfin := HU01.out.trans (HC.out.trans hU3)
     have hz := (HU01.out.trans HC.out).size
     have HF := Lib.hid (And.intro hfin (And.intro (Vw.of_own hown) (fun g (hg : blk a2 = some g) => And.intro (Nat.le_trans hz (hfr g hg)) (hown.lt g ((own_blk _ _ _).trans hg)).2)))
     clear hfin hz hown hfr hU3 hW
     go_wp2_with fail
     go_ret2
     exact ⟨a2, c2, rfl, HF.out.2.1, HF.out.2.2, HF.out.1⟩
def badMC (m : Int × List Int) : Bool := decide (m.1 < 0) || (!numB m.1 || !allB m.2)
def markersBC (l : List (Int × List Int)) : Bool := decide (l.length ≤ 2000) && !l.any badMC
def rootBC (r : RC) : Bool := (decide (-1 ≤ r.p) && decide (r.p ≤ 1999)) && (decide (r.ks.length ≤ 2000) && (markersBC r.ms && (marksB r.ns && numB r.k)))
def mkBC (m : Int × List Int) : List UInt8 := i4 m.1 ++ numsB m.2
def rootGC (r : RC) : List UInt8 := [1] ++ i4 r.p ++ i4 r.ks.length ++ kysB r.ks ++ i4 r.ms.length ++ r.ms.flatMap mkBC ++ i4 r.ns.length ++ r.ns.flatMap nmB ++ i4 r.k
theorem rootB_c (r : Rt) : rootB r = rootBC (rtC r) := by
 unfold rootB rootBC rtC markersB markersBC
 rw [List.length_map, List.any_map]
 rfl
theorem flatMap_map' {X Y Z : Type} (f : X → Y) (g : Y → List Z) (l : List X) : (l.map f).flatMap g = l.flatMap (fun x => g (f x)) := by
 induction l with
 | nil => rfl
 | cons x l ih => rw [List.map_cons, List.flatMap_cons, List.flatMap_cons, ih]
theorem rootG_c (r : Rt) : rootG r = rootGC (rtC r) := by
 unfold rootG rootGC rtC
 rw [List.length_map, flatMap_map']
 rfl
def badSC (m : Int × List Fl) : Bool := !numB m.1 || !rightT m.2
def waitBC (p : WC) : Bool := numB p.src && (numB p.dst && (numB p.com && (decide (p.ss.length ≤ 2000) && (decide (p.cs.length ≤ 100) && (!p.ss.any badSC && !p.cs.any badC)))))
def stBC (m : Int × List Fl) : List UInt8 := i4 m.1 ++ flsB m.2
def waitGC (p : WC) : List UInt8 := [3] ++ b1 p.re ++ i4 p.src ++ i4 p.dst ++ i4 p.com ++ i4 p.ss.length ++ p.ss.flatMap stBC ++ i4 p.cs.length ++ p.cs.flatMap clB
theorem waitB_c (p : Wt) : waitB p = (p.on && waitBC (wtC p)) := by
 unfold waitB waitBC wtC
 rw [List.length_map, List.any_map]
 rfl
theorem waitG_c (p : Wt) : waitG p = waitGC (wtC p) := by
 unfold waitG waitGC wtC
 rw [List.length_map, flatMap_map']
 rfl
theorem waitGC_len (p : WC) : (waitGC p).length = 22 + (p.ss.flatMap stBC).length + (p.cs.flatMap clB).length := by
 unfold waitGC; simp only [List.length_append, i4_length, b1_len, List.length_cons, List.length_nil]; omega
/-! What is written is read again. -/
theorem listS_back {X : Type} {f : RS → X × RS} {enc : X → List UInt8} : ∀ (l : List X), (∀ x ∈ l, ∀ r, f ⟨enc x ++ r, 0⟩ = (x, ⟨r, 0⟩)) → ∀ r, listS f l.length ⟨l.flatMap enc ++ r, 0⟩ = (l, ⟨r, 0⟩)
 | [], _, r => rfl
 | x :: l, h, r => by
  rw [List.length_cons, listS_go f _ _ rfl, List.flatMap_cons, List.append_assoc, h x (by simp)]
  dsimp only
  rw [listS_back l (fun y hy => h y (by simp [hy])) r]
theorem someS_back {X : Type} {f : RS → X × RS} {enc : X → List UInt8} (l : List X) (hl : l.length ≤ 4294967294) (h : ∀ x ∈ l, ∀ r, f ⟨enc x ++ r, 0⟩ = (x, ⟨r, 0⟩)) (r : List UInt8) : someS f ⟨i4 l.length ++ (l.flatMap enc ++ r), 0⟩ = (l, ⟨r, 0⟩) := by
 unfold someS
 rw [intV_i4 _ _ (by omega) (by omega), takeS_i4, Int.toNat_natCast]
 exact listS_back l h r
theorem intF_back (v : Int) (h : -1 ≤ v ∧ v ≤ 1999) (r : List UInt8) : intF ⟨i4 v ++ r, 0⟩ = (v, ⟨r, 0⟩) := by
 unfold intF; rw [intV_i4 v r h.1 (by omega), takeS_i4]
theorem numB_iff (v : Int) : numB v = true ↔ -1 ≤ v ∧ v ≤ 1999 := by
 unfold numB; rw [Bool.and_eq_true, decide_eq_true_eq, decide_eq_true_eq]
theorem Ky.ext' {x y : Ky} (h : x.b = y.b) : x = y := by cases x; cases y; cases h; rfl
theorem ky_back (x : Ky) (r : List UInt8) : kyS ⟨x.b ++ r, 0⟩ = (x, ⟨r, 0⟩) :=
 Prod.ext (Ky.ext' (by rw [kyS_fst, keyS_app])) (by rw [kyS_snd, keyS_app])
theorem nums_back (l : List Int) (hl : l.length ≤ 2000) (h : ∀ v ∈ l, -1 ≤ v ∧ v ≤ 1999) (r : List UInt8) : numsS ⟨numsB l ++ r, 0⟩ = (l, ⟨r, 0⟩) := by
 unfold numsS numsB
 rw [List.append_assoc]
 exact someS_back l (by omega) (fun v hv r => intF_back v (h v hv) r) r
theorem badN_false (v : Int) (h : badN v = false) : -1 ≤ v ∧ v ≤ 1999 := by
 unfold badN at h
 rw [Bool.or_eq_false_iff, Bool.not_eq_false'] at h
 exact (numB_iff v).1 h.2
theorem mk_back (m : Int × List Int) (h : badMC m = false) (r : List UInt8) : mkS ⟨mkBC m ++ r, 0⟩ = (m, ⟨r, 0⟩) := by
 unfold badMC at h
 rw [Bool.or_eq_false_iff, Bool.or_eq_false_iff, Bool.not_eq_false', Bool.not_eq_false'] at h
 obtain ⟨_, h1, h2⟩ := h
 have h1 := (numB_iff _).1 h1
 unfold allB at h2
 rw [Bool.and_eq_true, decide_eq_true_eq, Bool.not_eq_true', List.any_eq_false] at h2
 unfold mkS mkBC
 rw [List.append_assoc, intV_i4 _ _ h1.1 (by omega), takeS_i4]
 dsimp only
 rw [nums_back m.2 h2.1 (fun v hv => badN_false v (by simpa using h2.2 v hv)) r]
theorem text_back (s r : List UInt8) (h : s.length ≤ 100000000) : textS ⟨tx s ++ r, 0⟩ = (s, ⟨r, 0⟩) := by
 rw [← t4_str, textS_t4 (str s) r (by rw [str_size]; exact h)]; rfl
theorem badK_false (l : List Nm) (h : (List.range l.length).any (badK l) = false) : ∀ x ∈ l, x.name.length ≤ 50 ∧ -1 ≤ x.com ∧ x.com ≤ 1999 := by
 intro x hx
 obtain ⟨i, hi, rfl⟩ := List.mem_iff_getElem.1 hx
 rw [List.any_eq_false] at h
 have hb := h i (by rw [List.mem_range]; exact hi)
 unfold badK at hb
 rw [List.getElem?_eq_getElem hi] at hb
 rw [Bool.not_eq_true, Bool.or_eq_false_iff, Bool.or_eq_false_iff, Bool.or_eq_false_iff, Bool.not_eq_false', Bool.not_eq_false'] at hb
 obtain ⟨h1, _, h3, _⟩ := hb
 have h3 := (numB_iff l[i].com).1 h3
 unfold lenB at h1
 rw [Bool.and_eq_true, decide_eq_true_eq, decide_eq_true_eq] at h1
 exact ⟨h1.2, h3.1, h3.2⟩
theorem nm_back (x : Nm) (h : x.name.length ≤ 50 ∧ -1 ≤ x.com ∧ x.com ≤ 1999) (r : List UInt8) : nmS ⟨nmB x ++ r, 0⟩ = (x, ⟨r, 0⟩) := by
 unfold nmS nmB
 rw [List.append_assoc, text_back _ _ (by omega)]
 dsimp only
 rw [intV_i4 _ _ h.2.1 (by omega), takeS_i4]
def kindL (l : List UInt8) : Nat := leN (takeS 1 ⟨l, 0⟩).1
def s1L (l : List UInt8) : RS := (takeS 1 ⟨l, 0⟩).2
theorem kind_cons (b : UInt8) (l : List UInt8) : kindL (b :: l) = b.toNat ∧ s1L (b :: l) = ⟨l, 0⟩ := by
 unfold kindL s1L takeS
 simp [leN]
theorem root_back (c : RC) (h : rootBC c = true) : kindL (rootGC c) = 1 ∧ rootS (s1L (rootGC c)) = (c, ⟨[], 0⟩) := by
 simp only [rootBC, markersBC, marksB, sortB, Bool.and_eq_true, decide_eq_true_eq, Bool.not_eq_true', List.any_eq_false] at h
 obtain ⟨⟨h1, h2⟩, h3, ⟨h4, h5⟩, ⟨h6, h7⟩, h8⟩ := h
 have h8 := (numB_iff _).1 h8
 have e : rootGC c = 1 :: (i4 c.p ++ (i4 c.ks.length ++ (c.ks.flatMap Ky.b ++ (i4 c.ms.length ++ (c.ms.flatMap mkBC ++ (i4 c.ns.length ++ (c.ns.flatMap nmB ++ (i4 c.k ++ [])))))))) := by
  unfold rootGC kysB; simp only [List.append_assoc, List.append_nil, List.cons_append, List.nil_append]
 have k := kind_cons 1 (i4 c.p ++ (i4 c.ks.length ++ (c.ks.flatMap Ky.b ++ (i4 c.ms.length ++ (c.ms.flatMap mkBC ++ (i4 c.ns.length ++ (c.ns.flatMap nmB ++ (i4 c.k ++ []))))))))
 rw [e]
 refine ⟨k.1, ?_⟩
 rw [k.2]
 have q1 := someS_back c.ks (by omega) (fun x _ r => ky_back x r) (i4 c.ms.length ++ (c.ms.flatMap mkBC ++ (i4 c.ns.length ++ (c.ns.flatMap nmB ++ (i4 c.k ++ [])))))
 have q2 := someS_back c.ms (by omega) (fun x hx r => mk_back x (by simpa using h5 x hx) r) (i4 c.ns.length ++ (c.ns.flatMap nmB ++ (i4 c.k ++ [])))
 have q3 := someS_back c.ns (by omega) (fun x hx r => nm_back x (badK_false c.ns (by rw [List.any_eq_false]; exact fun i hi => by simpa using h6 i hi) x hx) r) (i4 c.k ++ [])
 unfold rootS rS3 rS2 rS1
 rw [intV_i4 _ _ h1 (by omega), takeS_i4]
 dsimp only
 rw [q1]
 dsimp only
 rw [q2]
 dsimp only
 rw [q3]
 dsimp only
 rw [intV_i4 _ _ h8.1 (by omega), takeS_i4]
theorem fl_back (x : Fl) (h : x.path.length ≤ 100000000 ∧ x.text.length ≤ 100000000) (r : List UInt8) : flS ⟨encF x ++ r, 0⟩ = (x, ⟨r, 0⟩) := by
 unfold flS encF
 rw [List.append_assoc, List.append_assoc, text_back _ _ h.1]
 dsimp only
 rw [boolS_b1]
 dsimp only
 rw [text_back _ _ h.2]
theorem st_back (m : Int × List Fl) (h : -1 ≤ m.1 ∧ m.1 ≤ 1999) (hl : (stBC m).length ≤ 80000000) (r : List UInt8) : stS ⟨stBC m ++ r, 0⟩ = (m, ⟨r, 0⟩) := by
 have h3 : (m.2.flatMap encF).length ≤ 80000000 := by
  unfold stBC flsB at hl
  rw [List.length_append, List.length_append] at hl; omega
 have h4 : m.2.length ≤ (m.2.flatMap encF).length := by
  have : ∀ l : List Fl, l.length ≤ (l.flatMap encF).length := fun l => by
   induction l with
   | nil => simp
   | cons x l ih => rw [List.flatMap_cons, List.length_append, List.length_cons, encF_len]; omega
  exact this _
 unfold stS stBC flsB
 rw [List.append_assoc, List.append_assoc, intV_i4 _ _ h.1 (by omega), takeS_i4]
 dsimp only
 rw [someS_back m.2 (by omega) (fun x hx r => fl_back x (by
  have := flat_mem_le encF m.2 x hx
  rw [encF_len] at this
  omega) r) r]
theorem cl_back (x : Cl) (h : -1 ≤ x.kind ∧ x.kind ≤ 1999) (hl : (clB x).length ≤ 80000000) (r : List UInt8) : clS ⟨clB x ++ r, 0⟩ = (x, ⟨r, 0⟩) := by
 rw [clB_len] at hl
 unfold clS clB
 rw [List.append_assoc, List.append_assoc, text_back _ _ (by omega)]
 dsimp only
 rw [intV_i4 _ _ h.1 (by omega), takeS_i4]
 dsimp only
 rw [text_back _ _ (by omega)]
theorem wait_back (c : WC) (h : waitBC c = true) (hl : (waitGC c).length ≤ 80000000) : kindL (waitGC c) = 3 ∧ waitS (s1L (waitGC c)) = (c, ⟨[], 0⟩) := by
 rw [waitGC_len] at hl
 simp only [waitBC, Bool.and_eq_true, decide_eq_true_eq, Bool.not_eq_true', List.any_eq_false] at h
 obtain ⟨h1, h2, h3, h4, h5, h6, h7⟩ := h
 have h1 := (numB_iff _).1 h1
 have h2 := (numB_iff _).1 h2
 have h3 := (numB_iff _).1 h3
 have e : waitGC c = 3 :: (b1 c.re ++ (i4 c.src ++ (i4 c.dst ++ (i4 c.com ++ (i4 c.ss.length ++ (c.ss.flatMap stBC ++ (i4 c.cs.length ++ (c.cs.flatMap clB ++ [])))))))) := by
  unfold waitGC; simp only [List.append_assoc, List.append_nil, List.cons_append, List.nil_append]
 have k := kind_cons 3 (b1 c.re ++ (i4 c.src ++ (i4 c.dst ++ (i4 c.com ++ (i4 c.ss.length ++ (c.ss.flatMap stBC ++ (i4 c.cs.length ++ (c.cs.flatMap clB ++ []))))))))
 rw [e]
 refine ⟨k.1, ?_⟩
 rw [k.2]
 have q1 := someS_back c.ss (by omega) (fun x hx r => st_back x (by
  have := h6 x hx
  simp only [badSC, Bool.or_eq_true, not_or, Bool.not_eq_true', Bool.not_eq_false] at this
  exact (numB_iff _).1 this.1) (by have := flat_mem_le stBC c.ss x hx; omega) r) (i4 c.cs.length ++ (c.cs.flatMap clB ++ []))
 have q2 := someS_back c.cs (by omega) (fun x hx r => cl_back x (by
  have := h7 x hx
  simp only [badC, Bool.not_eq_true', Bool.not_eq_false] at this
  exact (numB_iff _).1 this) (by have := flat_mem_le clB c.cs x hx; omega) r) []
 unfold waitS wS2 wS1 wS0
 rw [boolS_b1]
 dsimp only
 rw [intV_i4 _ _ h1.1 (by omega), takeS_i4]
 dsimp only
 rw [intV_i4 _ _ h2.1 (by omega), takeS_i4]
 dsimp only
 rw [intV_i4 _ _ h3.1 (by omega), takeS_i4]
 dsimp only
 rw [q1]
 dsimp only
 rw [q2]
end Go.Proofs.YtccejkikphpnfaaGreatDoor
