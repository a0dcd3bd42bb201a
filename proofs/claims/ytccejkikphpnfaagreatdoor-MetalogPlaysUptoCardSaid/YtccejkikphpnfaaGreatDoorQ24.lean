
/- metalog.PackRoot in general. -/
import Derived.Test.YtccejkikphpnfaaGreatDoorQ23
namespace Go.Proofs.YtccejkikphpnfaaGreatDoor
set_option linter.unusedSimpArgs false
set_option linter.unusedVariables false
set_option maxRecDepth 100000
open Go.ChangeShapes Go.WideShapes Go.ChangeAt Go.RowKit
def mkB (m : Mk) : List UInt8 := i4 m.old ++ numsB m.new
def nmB (x : Nm) : List UInt8 := tx x.name ++ i4 x.com
/-- The bytes of a root. -/
def rootG (r : Rt) : List UInt8 := [1] ++ i4 r.p ++ i4 r.ks.length ++ kysB r.ks ++ i4 r.ms.length ++ r.ms.flatMap mkB ++ i4 r.ns.length ++ r.ns.flatMap nmB ++ i4 r.k
def rootGR (r : Rt) : List UInt8 := if rootB r then rootG r else []
def rootGE (r : Rt) : Int := if rootB r then 0 else 5
theorem mkB_len (m : Mk) : (mkB m).length = 8 + m.new.length * 4 := by
 unfold mkB; rw [List.length_append, i4_length, numsB_len]; omega
theorem nmB_len (x : Nm) : (nmB x).length = 8 + x.name.length := by
 unfold nmB; rw [List.length_append, i4_length, tx_len]; omega
theorem rootB_sz (r : Rt) (h : rootB r = true) : r.ks.length ≤ 2000 ∧ (r.ms.flatMap mkB).length ≤ 17000000 ∧ (r.ns.flatMap nmB).length ≤ 6000 := by
 simp only [rootB, markersB, marksB, sortB, Bool.and_eq_true, decide_eq_true_eq, Bool.not_eq_true', List.any_eq_false] at h
 obtain ⟨⟨h1, h2⟩, h3, ⟨h4, h5⟩, ⟨h6, h7⟩, h8⟩ := h
 refine ⟨h3, ?_, ?_⟩
 ·have := flatMap_len mkB 8008 r.ms (fun m hm => by
   have hb := h5 m hm
   simp only [badM, allB, Bool.or_eq_true, not_or, Bool.not_eq_true, Bool.not_eq_true', Bool.not_eq_false', Bool.and_eq_true, decide_eq_true_eq, Bool.not_eq_false] at hb
   rw [mkB_len]
   have := hb.2.2.1
   omega)
  omega
 ·have := flatMap_len nmB 58 r.ns (fun x hx => by
   obtain ⟨i, hi, rfl⟩ := List.mem_iff_getElem.1 hx
   have hb := h6 i (by rw [List.mem_range]; exact hi)
   unfold badK at hb
   rw [List.getElem?_eq_getElem hi] at hb
   simp only [lenB, Bool.or_eq_true, not_or, Bool.not_eq_true, Bool.not_eq_false', Bool.and_eq_true, decide_eq_true_eq] at hb
   rw [nmB_len]
   have := hb.1.2
   omega)
  omega
set_option maxHeartbeats 32000000 in
theorem mPackRoot_gen (r : Rt) (w : World) (h : RtIn w r) : Calls Tryz.prog 11 #[.agg (rtA r)] w (Packed w (rootGR r) (rootGE r)) := by
 have hU1 := Upd.alloc (fun _ => False) w (.cells (rtA r) 26)
 have hrow := heap_alloc_new w (.cells (rtA r) 26)
 have hv1 := h.upd hU1
 have hmr := mroot_any r (w.alloc (.cells (rtA r) 26)) hv1
 have hsz := rootB_sz r
 have HRR : Hid (rootGR r = if rootB r then rootG r else []) := Lib.hid rfl
 have HRE : Hid (rootGE r = if rootB r then 0 else 5) := Lib.hid rfl
 have HD : Hid (rootG r = [1] ++ i4 r.p ++ i4 r.ks.length ++ kysB r.ks ++ i4 r.ms.length ++ r.ms.flatMap mkB ++ i4 r.ns.length ++ r.ns.flatMap nmB ++ i4 r.k) := Lib.hid rfl
 generalize rootGR r = RL at *
 generalize rootGE r = RE at *
 generalize rootG r = LL at *
 generalize rootB r = R at *
 obtain ⟨p, a, c, ks, ma, mc, ms, na, nc, ns, k⟩ := r
 unfold rtA at *
 dsimp only at *
 have HP := Lib.hid (And.intro hU1 (And.intro hrow hv1))
 have HSZ := Lib.hid hsz
 clear hU1 hrow hv1 h hsz
 go_enter Tryz.func11, Tryz.ntmps11
 go_wp2_with fail
 refine hmr.mono ?_
 rintro e w1 ⟨rfl, hU2⟩
 clear hmr
 cases R with
 | false =>
  have HF := Lib.hid (HP.out.1.trans hU2)
  have hRL := HRR.out
  have hRE := HRE.out
  simp only [Bool.false_eq_true, if_false] at hRL hRE
  subst hRL hRE
  clear hU2
  go_wp2_with fail
  go_ret2
  exact ⟨none, 0, rfl, Vw.nl _ _, (fun g h => by cases h), HF.out⟩
 | true =>
 obtain ⟨hn, hA, hB⟩ := HSZ.out rfl
 have hRL := HRR.out
 have hRE := HRE.out
 simp only [if_true] at hRL hRE
 subst hRL hRE
 clear HRR HRE
 generalize hAA : (ms.flatMap mkB).length = A at *
 generalize hBB : (ns.flatMap nmB).length = BB at *
 have HAA := Lib.hid hAA
 have HBB := Lib.hid hBB
 clear hAA hBB
 obtain ⟨hU1, hrow, hv1⟩ := HP.out
 have hv2 := hv1.upd hU2
 have hrow1 := (hU2.block _ (lt_of_heap hrow) (fun h => h)).trans hrow
 have hU01 := hU1.trans hU2
 have hlt1 := lt_of_heap hrow1
 have HR1 := Lib.hid hrow1
 have HV := Lib.hid hv2.cv
 have HI := Lib.hid hv2
 have HU01 := Lib.hid hU01
 clear hU1 hrow hv1 HP hU2 hv2 hrow1 hU01
 obtain ⟨K, hK, hW⟩ := Wn.fresh w1 86
 have HK := Lib.hid hK
 have HW0 := Lib.hid hW
 clear hK hW
 have HBK := Lib.hid (HK.out _ hlt1)
 go_upto_region 4 with (fail)
 have hW := HW0.out
 generalize w1.alloc (Obj.cells #[Value.slice none 0 0] 86) = x0 at *
 obtain ⟨bw, hbw0⟩ : ∃ bw, w1.heap.size = bw := ⟨_, rfl⟩
 rw [hbw0] at hW ⊢
 have HBW := Lib.hid hbw0
 clear HW0 hbw0
 go_wp2_with fail
 refine (wn_num hW (by simp) 1 1 1 (by omega) (by omega) rfl).mono ?_
 rintro e x1 ⟨rfl, hW1⟩
 clear hW
 have hW := hW1
 clear hW1
 have hl1 : ([] : List UInt8) ++ le (1 : Int).toNat 1 = [1] := rfl
 rw [hl1] at hW
 clear hl1
 obtain ⟨z0, z1, z2, z3, z4⟩ := row5 (hW.row HBK.out HR1.out)
 clear z1 z2 z3 z4
 go_wp2_with fail
 refine wp_region_plan_last [([0, 1, 2, 3, 4], 5)] [] (fun w' => w'.cell? ⟨w.heap.size, 0, none⟩ = some (.int .i64 p)) (by kernel_rfl) (by kernel_rfl) z0 ?_
 iterate 5
  refine plan_take (v := ?_) rfl rfl (fun w' hS => ?_) ?_
  rotate_left; · (go_simp; try with_reducible rfl)
  simp only [putL]
 have hWd := hW.other (Upd.drew _ _)
 refine plan_act rfl (fun KK hKK => ?_)
 go_wp2_with fail
 refine (wn_int hWd (by simp) p).mono ?_
 rintro e x1 ⟨rfl, hW1⟩
 clear hWd
 go_wp2_with fail
 refine hKK.out _ _ (.inl rfl) (plan_end ?_)
 clear hKK
 clear hW z0
 have hW := hW1
 clear hW1
 have hll2 : (([1] : List UInt8) ++ i4 p).length ≤ 5 := by rw [List.length_append, i4_length]; simp
 generalize hL : ([1] : List UInt8) ++ i4 p = l2 at hW hll2
 have Hl2 := Lib.hid hL
 clear hL
 obtain ⟨z0, z1, z2, z3, z4⟩ := row5 (hW.row HBK.out HR1.out)
 clear z0 z2 z3 z4
 go_wp2_with fail
 refine wp_region_plan_last [([0, 1, 2, 3, 4, 5], 6)] [] (fun w' => w'.cell? ⟨w.heap.size, 1, none⟩ = some (.slice a ks.length c)) (by kernel_rfl) (by kernel_rfl) z1 ?_
 iterate 6
  refine plan_take (v := ?_) rfl rfl (fun w' hS => ?_) ?_
  rotate_left; · (go_simp; try with_reducible rfl)
  simp only [putL]
 have hWd := hW.other (Upd.drew _ _)
 refine plan_act rfl (fun KK hKK => ?_)
 go_wp2_with fail
 refine (wn_int hWd (by omega) (ks.length : Int)).mono ?_
 rintro e x1 ⟨rfl, hW1⟩
 clear hWd
 go_wp2_with fail
 refine hKK.out _ _ (.inl rfl) (plan_end ?_)
 clear hKK
 clear hW z1
 have hW := hW1
 clear hW1
 have hll3 : (l2 ++ i4 (ks.length : Int)).length ≤ 9 := by rw [List.length_append, i4_length]; omega
 generalize hL : l2 ++ i4 (ks.length : Int) = l3 at hW hll3
 have Hl3 := Lib.hid hL
 clear hL
 obtain ⟨z0, z1, z2, z3, z4⟩ := row5 (hW.row HBK.out HR1.out)
 clear z0 z2 z3 z4
 go_wp2_with fail
 go_loopw [38] (fun i wr => ∃ j : Nat, j ≤ ks.length ∧ i = .int .i64 (j : Int) ∧ Wn K 86 w1 wr bw (l3 ++ kysB (ks.take j))) (fun i _ => ks.length - (intOf i).toNat)
 case atStart => exact ⟨0, Nat.zero_le _, rfl, by simpa [kysB] using hW⟩
 case round =>
  clear hW z1
  obtain ⟨j, hj, rfl, hW⟩ := hrel
  by_cases hlt : j < ks.length
  ·have hI : (j : Int) < (ks.length : Int) := by omega
   have hvr := HV.out.upd (hW.old HK.out) (fun _ _ h => h)
   obtain ⟨b, o, hb, hcell⟩ := ky_at hvr (by omega)
   clear hvr
   subst hb
   have hrg : wr.rangeAt b (o + j * 32) (bvs ks[j].b) := hcell j hlt
   have hk32 := ks[j].h
   have hsucc := kysB_succ ks j hlt
   have hpre : (l3 ++ kysB (ks.take j)).length ≤ 70000 := by have := kysB_le ks j hn; rw [List.length_append]; omega
   generalize ks[j].b = kb at *
   have hS : (l3 ++ kysB (ks.take j)) ++ kb = l3 ++ kysB (ks.take (j + 1)) := by rw [List.append_assoc, hsucc]
   generalize l3 ++ kysB (ks.take j) = p0 at *
   have HSU := Lib.hid hS
   clear hcell hsucc hS
   have hsz : (Tryz.prog.info? 52).map (·.size) = some (bvs kb).toArray.size := by rw [infoKey]; simp [bvs, hk32]
   have hold : (32 : Nat) = (bvs kb).toArray.size := by simp [bvs, hk32]
   have HX := Lib.hid (And.intro hsz (And.intro hold (key_one kb)))
   clear hsz hold
   have hnew := heap_alloc_new wr (Obj.cells #[.int .u8 0, .int .u8 0, .int .u8 0, .int .u8 0, .int .u8 0, .int .u8 0, .int .u8 0, .int .u8 0, .int .u8 0, .int .u8 0, .int .u8 0, .int .u8 0, .int .u8 0, .int .u8 0, .int .u8 0, .int .u8 0, .int .u8 0, .int .u8 0, .int .u8 0, .int .u8 0, .int .u8 0, .int .u8 0, .int .u8 0, .int .u8 0, .int .u8 0, .int .u8 0, .int .u8 0, .int .u8 0, .int .u8 0, .int .u8 0, .int .u8 0, .int .u8 0] 52)
   have HNEW := Lib.hid hnew
   clear hnew
   go_upto_region 10 with first
    | refine wpList_load_key rfl (.tmp 40) rfl b (o + j * 32) rfl kb hk32 hrg ?_
    | refine wpList_store_row rfl 52 (.tmp 6) (.tmp 41) rfl wr.heap.size (bvs kb).toArray _ 52 rfl rfl HNEW.out HX.out.1 HX.out.2.1 HX.out.2.2 ?_
   have hrow2 := setRow_heap _ wr.heap.size _ (bvs kb).toArray _ _ HNEW.out
   have hrg2 : World.rangeAt (World.setRow (wr.alloc (Obj.cells #[.int .u8 0, .int .u8 0, .int .u8 0, .int .u8 0, .int .u8 0, .int .u8 0, .int .u8 0, .int .u8 0, .int .u8 0, .int .u8 0, .int .u8 0, .int .u8 0, .int .u8 0, .int .u8 0, .int .u8 0, .int .u8 0, .int .u8 0, .int .u8 0, .int .u8 0, .int .u8 0, .int .u8 0, .int .u8 0, .int .u8 0, .int .u8 0, .int .u8 0, .int .u8 0, .int .u8 0, .int .u8 0, .int .u8 0, .int .u8 0, .int .u8 0, .int .u8 0] 52)) wr.heap.size (bvs kb).toArray) wr.heap.size 0 (bvs kb) := fun i u hu => by
    rw [cell_of_row _ _ _ _ _ _ hrow2, Nat.zero_add, List.getElem?_toArray]; exact hu
   have hUs : Upd (fun _ => False) wr (World.setRow (wr.alloc (Obj.cells #[.int .u8 0, .int .u8 0, .int .u8 0, .int .u8 0, .int .u8 0, .int .u8 0, .int .u8 0, .int .u8 0, .int .u8 0, .int .u8 0, .int .u8 0, .int .u8 0, .int .u8 0, .int .u8 0, .int .u8 0, .int .u8 0, .int .u8 0, .int .u8 0, .int .u8 0, .int .u8 0, .int .u8 0, .int .u8 0, .int .u8 0, .int .u8 0, .int .u8 0, .int .u8 0, .int .u8 0, .int .u8 0, .int .u8 0, .int .u8 0, .int .u8 0, .int .u8 0] 52)) wr.heap.size (bvs kb).toArray) :=
    (Upd.alloc (fun _ => False) wr _).next (Upd.setRow (S := fun k => k = wr.heap.size) _ rfl _) (fun i hi h => by omega)
   generalize World.setRow (wr.alloc (Obj.cells #[.int .u8 0, .int .u8 0, .int .u8 0, .int .u8 0, .int .u8 0, .int .u8 0, .int .u8 0, .int .u8 0, .int .u8 0, .int .u8 0, .int .u8 0, .int .u8 0, .int .u8 0, .int .u8 0, .int .u8 0, .int .u8 0, .int .u8 0, .int .u8 0, .int .u8 0, .int .u8 0, .int .u8 0, .int .u8 0, .int .u8 0, .int .u8 0, .int .u8 0, .int .u8 0, .int .u8 0, .int .u8 0, .int .u8 0, .int .u8 0, .int .u8 0, .int .u8 0] 52)) wr.heap.size (bvs kb).toArray = y0 at *
   have hW2 := hW.other hUs
   clear hrow2 hUs hW HNEW HX hrg
   obtain ⟨Bz, hBz⟩ : ∃ Bz, wr.heap.size = Bz := ⟨_, rfl⟩
   rw [hBz] at hrg2 ⊢
   clear hBz
   have hix : ∀ (n : Nat) (hn : n < 32), ∀ w, (Instr.index 52 (.agg (bvs kb).toArray) (.int .i64 (n : Int))).run Tryz.prog w = .ok (.int .u8 ((kb[n]'(by omega)).toNat : Int)) w := fun n hn w =>
    index_key _ (by simp [bvs, hk32]) n _ (by simp [bvs, bv, List.getElem?_eq_getElem (show n < kb.length by omega)]) w
   have HIX := Lib.hid hix
   clear hix
   have hK0 : ∃ k0, (bvs kb).toArray = k0 := ⟨_, rfl⟩
   obtain ⟨k0, hK0⟩ := hK0
   simp only [hK0] at HIX
   have HK0 := Lib.hid hK0
   clear hK0
   go_wp2_with (refine wpList_load_key rfl (.tmp 6) rfl Bz 0 rfl kb hk32 hrg2 ?_; rw [HK0.out])
   clear hrg2
   go_loopw [43] (fun i wx => ∃ i0 : Nat, i0 ≤ 32 ∧ i = .int .i64 (i0 : Int) ∧ Wn K 86 w1 wx bw (p0 ++ kb.take i0)) (fun i _ => 32 - (intOf i).toNat)
   case atStart => exact ⟨0, by omega, rfl, by simpa using hW2⟩
   case round =>
    clear hW2
    obtain ⟨i0, hi0, rfl, hW⟩ := hrel
    by_cases hlt2 : i0 < 32
    ·have hI2 : (i0 : Int) < 32 := by omega
     have hixj := HIX.out i0 hlt2
     have hsucc : (p0 ++ kb.take i0) ++ [kb[i0]'(by omega)] = p0 ++ kb.take (i0 + 1) := by
      rw [List.append_assoc, List.take_succ_eq_append_getElem (by omega)]
     generalize kb[i0]'(by omega) = x at *
     have hx := x.toNat_lt
     have hnum := wn_num hW (by rw [List.length_append, List.length_take]; omega) (x.toNat : Int) 1 1 (by omega) (by omega) rfl
     rw [Int.toNat_natCast, le_byte, hsucc] at hnum
     have hcv : IntKind.u64.wrap (x.toNat : Int) = (x.toNat : Int) := by show _ % 18446744073709551616 = _; omega
     clear hW hsucc
     go_wp2_with fail
     refine hnum.mono ?_
     rintro e wz ⟨rfl, hW⟩
     clear hnum hixj
     go_wp2_with fail
     go_roundw
     case rel => exact ⟨i0 + 1, by omega, by first | rfl | go_num, hW⟩
     case measure => simp [intOf]; omega
    ·obtain rfl : i0 = 32 := by omega
     rw [List.take_of_length_le (by omega)] at hW
     rw [HSU.out] at hW
     go_wp2_with fail
     go_roundw
     case rel => exact ⟨j + 1, by omega, by first | rfl | go_num, hW⟩
     case measure => simp [intOf]; omega
  ·obtain rfl : j = ks.length := by omega
   rw [List.take_length] at hW
   have hll4 : (l3 ++ kysB ks).length ≤ 70000 := by have := kysB_len ks; rw [List.length_append]; omega
   generalize hL : l3 ++ kysB ks = l4 at hW hll4
   have Hl4 := Lib.hid hL
   clear hL hlt
   obtain ⟨z0, z1, z2, z3, z4⟩ := row5 (hW.row HBK.out HR1.out)
   clear z0 z1 z3 z4
   go_wp2_with fail
   refine wp_region_plan_last [([0, 1, 2, 3, 4, 5], 6)] [] (fun w' => w'.cell? ⟨w.heap.size, 2, none⟩ = some (.slice ma ms.length mc)) (by kernel_rfl) (by kernel_rfl) z2 ?_
   iterate 6
    refine plan_take (v := ?_) rfl rfl (fun w' hS => ?_) ?_
    rotate_left; · (go_simp; try with_reducible rfl)
    simp only [putL]
   have hWd := hW.other (Upd.drew _ _)
   refine plan_act rfl (fun KK hKK => ?_)
   go_wp2_with fail
   refine (wn_int hWd (by omega) (ms.length : Int)).mono ?_
   rintro e x1 ⟨rfl, hW1⟩
   clear hWd
   go_wp2_with fail
   refine hKK.out _ _ (.inl rfl) (plan_end ?_)
   clear hKK
   clear hW z2
   have hW := hW1
   clear hW1
   have hl5l : (l4 ++ i4 (ms.length : Int)).length ≤ 70004 := by rw [List.length_append, i4_length]; omega
   generalize hL : l4 ++ i4 (ms.length : Int) = l5 at hW hl5l
   have Hl5 := Lib.hid hL
   clear hL
   obtain ⟨z0, z1, z2, z3, z4⟩ := row5 (hW.row HBK.out HR1.out)
   clear z0 z1 z3 z4
   have hcm := HI.out.mv.cap
   have hlm := HI.out.mv.le
   unfold maxLen at hcm
   dsimp only at hcm hlm
   go_wp2_with fail
   go_loopw [64] (fun i wr => ∃ j : Nat, j ≤ ms.length ∧ i = .int .i64 (j : Int) ∧ Wn K 86 w1 wr bw (l5 ++ (ms.take j).flatMap mkB)) (fun i _ => ms.length - (intOf i).toNat)
   case atStart => exact ⟨0, Nat.zero_le _, rfl, by simpa using hW⟩
   case round =>
    clear hW z2
    obtain ⟨j, hj, rfl, hW⟩ := hrel
    by_cases hlt : j < ms.length
    ·have hI : (j : Int) < (ms.length : Int) := by omega
     obtain ⟨b, o, hb, hcell⟩ := (HI.out.mv.upd (hW.old HK.out) (fun _ _ h => h)).at (show 0 < ms.length by omega) (by decide)
     dsimp only at hb
     subst hb
     have q0 : wr.cell? ⟨b, o + j * 2, none⟩ = some (.int .i64 ms[j].old) := hcell (j * 2 + 0) _ (mk_get ms j 0 hlt (by decide))
     have q1 : wr.cell? ⟨b, o + j * 2 + 1, none⟩ = some (.slice ms[j].a ms[j].new.length ms[j].c) := hcell (j * 2 + 1) _ (mk_get ms j 1 hlt (by decide))
     have hmx : ∀ w', Upd (fun _ => False) w1 w' → MkIn w' ms[j] := fun w' hu => (HI.out.me ms[j] (List.getElem_mem hlt)).upd hu
     have hsucc := flatMap_succ mkB ms j hlt
     have hlen : ((l5 ++ (ms.take j).flatMap mkB) ++ mkB ms[j]).length ≤ 18000000 := by
      have h1 := flat_take_le mkB ms (j + 1)
      rw [HAA.out] at h1
      rw [List.append_assoc, hsucc, List.length_append]
      omega
     rw [List.length_append, mkB_len] at hlen
     generalize ms[j] = x at *
     obtain ⟨xo, xn, xa, xc⟩ := x
     dsimp only at *
     have hent := hW.enter (.cells #[.int .i64 xo, .slice xa xn.length xc] 77)
     have hnew := heap_alloc_new wr (.cells #[.int .i64 xo, .slice xa xn.length xc] 77)
     have HMX := Lib.hid hmx
     have HSU := Lib.hid hsucc
     have HW0 := Lib.hid hW
     have HNEW := Lib.hid hnew
     clear hcell hsucc hW hnew hmx
     go_upto_region 20 with (fail)
     have hlv : ∀ w2 l', Wn (fun k => K k ∨ k = wr.heap.size) 86 (wr.alloc (.cells #[.int .i64 xo, .slice xa xn.length xc] 77)) w2 bw l' → Wn K 86 w1 w2 bw l' := fun w2 l' h => HW0.out.leave h
     have HLV := Lib.hid hlv
     clear hlv
     generalize hp0 : l5 ++ (ms.take j).flatMap mkB = p0 at hent hlen
     have HP0 := Lib.hid hp0
     have hnew := HNEW.out
     clear hp0
     obtain ⟨xb, hxb⟩ : ∃ xb, wr.heap.size = xb := ⟨_, rfl⟩
     rw [hxb] at hent hnew HLV ⊢
     generalize wr.alloc (.cells #[.int .i64 xo, .slice xa xn.length xc] 77) = y0 at *
     have HN := Lib.hid hnew
     clear hnew HNEW hxb HW0 q0 q1
     have hW := hent
     clear hent
     have z0 : _ = some (Value.int IntKind.i64 xo) := cell_of_row _ xb 0 _ _ _ (hW.row (Or.inr rfl) HN.out)
     refine wp_region_plan_last [([0, 1, 2, 3, 4], 5)] [] (fun w' => w'.cell? ⟨xb, 0, none⟩ = some (.int .i64 xo)) (by kernel_rfl) (by kernel_rfl) z0 ?_
     iterate 5
      refine plan_take (v := ?_) rfl rfl (fun w' hS => ?_) ?_
      rotate_left; · (go_simp; try with_reducible rfl)
      simp only [putL]
     have hWd := hW.other (Upd.drew _ _)
     refine plan_act rfl (fun KK hKK => ?_)
     go_wp2_with fail
     refine (wn_int hWd (by omega) xo).mono ?_
     rintro e x1 ⟨rfl, hW1⟩
     clear hWd
     go_wp2_with fail
     refine hKK.out _ _ (.inl rfl) (plan_end ?_)
     clear hKK
     clear hW z0
     have hW := hW1
     clear hW1
     have hp1l : (p0 ++ i4 xo).length ≤ p0.length + 4 := by rw [List.length_append, i4_length]; omega
     generalize hL : p0 ++ i4 xo = p1 at hW hp1l
     have Hp1 := Lib.hid hL
     clear hL
     have z1 : _ = some (Value.slice xa xn.length xc) := cell_of_row _ xb 1 _ _ _ (hW.row (Or.inr rfl) HN.out)
     go_wp2_with fail
     refine (wnumbers_any hW xa xc xn (by rw [List.length_append, numsB_len]; omega) (fun wz l' hz => HMX.out wz ((HLV.out wz l' hz).old HK.out))).mono ?_
     rintro e x1 ⟨rfl, hW1⟩
     have hW2 := HLV.out _ _ hW1
     have heq : p1 ++ numsB xn = l5 ++ (ms.take (j + 1)).flatMap mkB := by
      rw [← HSU.out, ← Hp1.out, ← HP0.out]
      simp [mkB]
     rw [heq] at hW2
     clear heq hW hW1 z1
     go_wp2_with fail
     go_roundw
     case rel => exact ⟨j + 1, by omega, by first | rfl | go_num, hW2⟩
     case measure => simp [intOf]; omega
    ·obtain rfl : j = ms.length := by omega
     rw [List.take_length] at hW
     have hll6 : (l5 ++ ms.flatMap mkB).length ≤ 18000000 := by rw [List.length_append, HAA.out]; omega
     generalize hL : l5 ++ ms.flatMap mkB = l6 at hW hll6
     have Hl6 := Lib.hid hL
     have hI : ¬ (ms.length : Int) < (ms.length : Int) := by omega
     clear hL hlt hj
     obtain ⟨z0, z1, z2, z3, z4⟩ := row5 (hW.row HBK.out HR1.out)
     clear z0 z1 z2 z4
     go_wp2_with fail
     clear hI
     refine wp_region_plan_last [([0, 1, 2, 3, 4, 5], 6)] [] (fun w' => w'.cell? ⟨w.heap.size, 3, none⟩ = some (.slice na ns.length nc)) (by kernel_rfl) (by kernel_rfl) z3 ?_
     iterate 6
      refine plan_take (v := ?_) rfl rfl (fun w' hS => ?_) ?_
      rotate_left; · (go_simp; try with_reducible rfl)
      simp only [putL]
     have hWd := hW.other (Upd.drew _ _)
     refine plan_act rfl (fun KK hKK => ?_)
     go_wp2_with fail
     refine (wn_int hWd (by omega) (ns.length : Int)).mono ?_
     rintro e x1 ⟨rfl, hW1⟩
     clear hWd
     go_wp2_with fail
     refine hKK.out _ _ (.inl rfl) (plan_end ?_)
     clear hKK
     clear hW z3
     have hW := hW1
     clear hW1
     have hl7l : (l6 ++ i4 (ns.length : Int)).length ≤ 18000004 := by rw [List.length_append, i4_length]; omega
     generalize hL : l6 ++ i4 (ns.length : Int) = l7 at hW hl7l
     have Hl7 := Lib.hid hL
     clear hL
     obtain ⟨z0, z1, z2, z3, z4⟩ := row5 (hW.row HBK.out HR1.out)
     clear z0 z1 z2 z4
     have hcn := HI.out.nv.cap
     have hln := HI.out.nv.le
     unfold maxLen at hcn
     dsimp only at hcn hln
     go_wp2_with fail
     go_loopw [89] (fun i wr => ∃ j : Nat, j ≤ ns.length ∧ i = .int .i64 (j : Int) ∧ Wn K 86 w1 wr bw (l7 ++ (ns.take j).flatMap nmB)) (fun i _ => ns.length - (intOf i).toNat)
     case atStart => exact ⟨0, Nat.zero_le _, rfl, by simpa using hW⟩
     case round =>
      clear hW z3
      obtain ⟨j, hj, rfl, hW⟩ := hrel
      by_cases hlt : j < ns.length
      ·have hI : (j : Int) < (ns.length : Int) := by omega
       obtain ⟨b, o, hb, hcell⟩ := (HI.out.nv.upd (hW.old HK.out) (fun _ _ h => h)).at (show 0 < ns.length by omega) (by decide)
       dsimp only at hb
       subst hb
       have q0 : wr.cell? ⟨b, o + j * 2, none⟩ = some (sv ns[j].name) := hcell (j * 2 + 0) _ (nm_get ns j 0 hlt (by decide))
       have q1 : wr.cell? ⟨b, o + j * 2 + 1, none⟩ = some (.int .i64 ns[j].com) := hcell (j * 2 + 1) _ (nm_get ns j 1 hlt (by decide))
       have hsucc := flatMap_succ nmB ns j hlt
       have hlen : ((l7 ++ (ns.take j).flatMap nmB) ++ nmB ns[j]).length ≤ 19000000 := by
        have h1 := flat_take_le nmB ns (j + 1)
        rw [HBB.out] at h1
        rw [List.append_assoc, hsucc, List.length_append]
        omega
       rw [List.length_append, nmB_len] at hlen
       generalize ns[j] = x at *
       obtain ⟨xn, xc⟩ := x
       dsimp only at *
       have hent := hW.enter (.cells #[sv xn, .int .i64 xc] 92)
       have hnew := heap_alloc_new wr (.cells #[sv xn, .int .i64 xc] 92)
       unfold sv at q0 hent hnew
       have HSU := Lib.hid hsucc
       have HW0 := Lib.hid hW
       have HNEW := Lib.hid hnew
       clear hcell hsucc hW hnew
       go_upto_region 27 with (fail)
       have hlv : ∀ w2 l', Wn (fun k => K k ∨ k = wr.heap.size) 86 (wr.alloc (.cells #[Value.string (str xn), .int .i64 xc] 92)) w2 bw l' → Wn K 86 w1 w2 bw l' := fun w2 l' h => HW0.out.leave h
       have HLV := Lib.hid hlv
       clear hlv
       generalize hp0 : l7 ++ (ns.take j).flatMap nmB = p0 at hent hlen
       have HP0 := Lib.hid hp0
       have hnew := HNEW.out
       clear hp0
       obtain ⟨xb, hxb⟩ : ∃ xb, wr.heap.size = xb := ⟨_, rfl⟩
       rw [hxb] at hent hnew HLV ⊢
       generalize wr.alloc (.cells #[Value.string (str xn), .int .i64 xc] 92) = y0 at *
       have HN := Lib.hid hnew
       clear hnew HNEW hxb HW0 q0 q1
       have hW := hent
       clear hent
       have z0 : _ = some (Value.string (str xn)) := cell_of_row _ xb 0 _ _ _ (hW.row (Or.inr rfl) HN.out)
       refine wp_region_plan_last [([0, 1, 2, 3, 4], 5)] [] (fun w' => w'.cell? ⟨xb, 0, none⟩ = some (Value.string (str xn))) (by kernel_rfl) (by kernel_rfl) z0 ?_
       iterate 5
        refine plan_take (v := ?_) rfl rfl (fun w' hS => ?_) ?_
        rotate_left; · (go_simp; try with_reducible rfl)
        simp only [putL]
       have hWd := hW.other (Upd.drew _ _)
       refine plan_act rfl (fun KK hKK => ?_)
       go_wp2_with fail
       refine (wn_text hWd (by omega) xn (by omega)).mono ?_
       rintro e x1 ⟨rfl, hW1⟩
       clear hWd
       go_wp2_with fail
       refine hKK.out _ _ (.inl rfl) (plan_end ?_)
       clear hKK
       clear hW z0
       have hW := hW1
       clear hW1
       have hp1l : (p0 ++ tx xn).length ≤ p0.length + 4 + xn.length := by rw [List.length_append, tx_len]; omega
       generalize hL : p0 ++ tx xn = p1 at hW hp1l
       have Hp1 := Lib.hid hL
       clear hL
       have z1 : _ = some (Value.int IntKind.i64 xc) := cell_of_row _ xb 1 _ _ _ (hW.row (Or.inr rfl) HN.out)
       go_wp2_with fail
       refine wp_region_plan_last [([0, 1, 2, 3, 4], 5)] [] (fun w' => w'.cell? ⟨xb, 1, none⟩ = some (.int .i64 xc)) (by kernel_rfl) (by kernel_rfl) z1 ?_
       iterate 5
        refine plan_take (v := ?_) rfl rfl (fun w' hS => ?_) ?_
        rotate_left; · (go_simp; try with_reducible rfl)
        simp only [putL]
       have hWd := hW.other (Upd.drew _ _)
       refine plan_act rfl (fun KK hKK => ?_)
       go_wp2_with fail
       refine (wn_int hWd (by omega) xc).mono ?_
       rintro e x1 ⟨rfl, hW1⟩
       clear hWd
       go_wp2_with fail
       refine hKK.out _ _ (.inl rfl) (plan_end ?_)
       clear hKK
       clear hW z1
       have hW := hW1
       clear hW1
       have hp2l : (p1 ++ i4 xc).length ≤ p1.length + 4 := by rw [List.length_append, i4_length]; omega
       generalize hL : p1 ++ i4 xc = p2 at hW hp2l
       have Hp2 := Lib.hid hL
       clear hL
       have hW2 := HLV.out _ _ hW
       have heq : p2 = l7 ++ (ns.take (j + 1)).flatMap nmB := by
        rw [← HSU.out, ← Hp2.out, ← Hp1.out, ← HP0.out]
        simp [nmB]
       rw [heq] at hW2
       clear heq hW
       go_wp2_with fail
       go_roundw
       case rel => exact ⟨j + 1, by omega, by first | rfl | go_num, hW2⟩
       case measure => simp [intOf]; omega
      ·obtain rfl : j = ns.length := by omega
       rw [List.take_length] at hW
       have hll8 : (l7 ++ ns.flatMap nmB).length ≤ 19000000 := by rw [List.length_append, HBB.out]; omega
       generalize hL : l7 ++ ns.flatMap nmB = l8 at hW hll8
       have Hl8 := Lib.hid hL
       have hI : ¬ (ns.length : Int) < (ns.length : Int) := by omega
       clear hL hlt hj
       obtain ⟨z0, z1, z2, z3, z4⟩ := row5 (hW.row HBK.out HR1.out)
       clear z0 z1 z2 z3
       go_wp2_with fail
       clear hI
       refine wp_region_plan_last [([0, 1, 2, 3, 4], 5)] [] (fun w' => w'.cell? ⟨w.heap.size, 4, none⟩ = some (.int .i64 k)) (by kernel_rfl) (by kernel_rfl) z4 ?_
       iterate 5
        refine plan_take (v := ?_) rfl rfl (fun w' hS => ?_) ?_
        rotate_left; · (go_simp; try with_reducible rfl)
        simp only [putL]
       have hWd := hW.other (Upd.drew _ _)
       refine plan_act rfl (fun KK hKK => ?_)
       go_wp2_with fail
       refine (wn_int hWd (by omega) k).mono ?_
       rintro e x1 ⟨rfl, hW1⟩
       clear hWd
       go_wp2_with fail
       refine hKK.out _ _ (.inl rfl) (plan_end ?_)
       clear hKK
       clear hW z4
       have hW := hW1
       clear hW1
       have hl9l : (l8 ++ i4 k).length ≤ 19000004 := by rw [List.length_append, i4_length]; omega
       generalize hL : l8 ++ i4 k = l9 at hW hl9l
       have Hl9 := Lib.hid hL
       clear hL
       have hLL : RL = l9 := by rw [HD.out, ← Hl9.out, ← Hl8.out, ← Hl7.out, ← Hl6.out, ← Hl5.out, ← Hl4.out, ← Hl3.out, ← Hl2.out]
       subst hLL
       have HC := Lib.hid (hW.old HK.out)
       go_wp2_with fail
       refine (wn_bytes hW (by omega)).mono ?_
       rintro e x2 ⟨a2, c2, rfl, hown, hfr, hU3⟩
       have hfin := HU01.out.trans (HC.out.trans hU3)
       have hz := (HU01.out.trans HC.out).size
       have HF := Lib.hid (And.intro hfin (And.intro (Vw.of_own hown) (fun g (hg : blk a2 = some g) => And.intro (Nat.le_trans hz (hfr g hg)) (hown.lt g ((own_blk _ _ _).trans hg)).2)))
       clear hfin hz hown hfr hU3 hW
       go_wp2_with fail
       go_ret2
       exact ⟨a2, c2, rfl, HF.out.2.1, HF.out.2.2, HF.out.1⟩
end Go.Proofs.YtccejkikphpnfaaGreatDoor
