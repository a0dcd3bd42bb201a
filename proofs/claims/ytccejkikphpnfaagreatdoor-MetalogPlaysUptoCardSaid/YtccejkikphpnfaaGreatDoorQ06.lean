
/- Items of a record, as OctetsWrite takes them: opened, their bytes, and what reading those bytes gives. -/
import Derived.Test.YtccejkikphpnfaaGreatDoorQ05
namespace Go.Proofs.YtccejkikphpnfaaGreatDoor
set_option linter.unusedSimpArgs false
set_option linter.unusedVariables false
set_option maxRecDepth 100000
open Go.ChangeShapes Go.WideShapes Go.ChangeAt Go.RowKit
theorem index_key (cs : Array Value) (hn : cs.size = 32) (k : Nat) (v : Value) (hv : cs[k]? = some v) (w : World) :
  (Instr.index 52 (.agg cs) (.int .i64 (k : Int))).run Tryz.prog w = .ok v w := by
 obtain ⟨hk, hv⟩ := Array.getElem?_eq_some_iff.1 hv
 have h3 : (k : Int) < 32 := by omega
 have h4 : k < 32 := by omega
 simp [Instr.index, asIntOf, h3, h4, hk, hv, part]
 try omega
theorem infoKey : (Tryz.prog.info? 52).map (·.size) = some 32 := by kernel_rfl
theorem wpList_load_key {ops : Array Oper} {rest : List Oper} {op : Oper} {a : Act} {w : World} {Q : Exit → Act → World → Prop} (hgd : op.guard = none) (x : Operand) (ho : op.op = .load 52 x)
  (b o : Nat) (hx : a.eval x = .pointer (some ⟨b, o, none⟩)) (k : List UInt8) (hk : k.length = 32) (hr : w.rangeAt b o (bvs k)) (h : wpList Tryz.prog ops Q rest (a.put op.dst (.agg (bvs k).toArray)) w) : wpList Tryz.prog ops Q (op :: rest) a w :=
 wpList_load_mid hgd 52 x ho b o hx (bvs k) _ hr Tryz.underlying52 rfl (by rw [infoKey, bvs_length, hk]) h
theorem le_byte (x : UInt8) : le x.toNat 1 = [x] := by
 have h := x.toNat_lt
 simp [le]
theorem free_row {w : World} {b j : Nat} {cs : Array Value} {t : TypeId} (h : w.heap[b]? = some (.cells cs t (0, 0))) : w.frozen? ⟨b, j, none⟩ = false := by simp [World.frozen?, h]
def key0 : List UInt8 := List.replicate 32 0
/-- A key. -/
structure Ky where
 b : List UInt8
 h : b.length = 32
def kyV (x : Ky) : List Value := bvs x.b
theorem kyV_len (x : Ky) : (kyV x).length = 32 := by unfold kyV; rw [bvs_length, x.h]
def kysB (l : List Ky) : List UInt8 := l.flatMap Ky.b
theorem kysB_len (l : List Ky) : (kysB l).length = l.length * 32 := by
 induction l with
 | nil => rfl
 | cons x l ih =>
  have e : kysB (x :: l) = x.b ++ kysB l := List.flatMap_cons
  rw [e, List.length_append, ih, x.h, List.length_cons]
  omega
theorem kysV_one (l : List Ky) : ∀ u ∈ l.flatMap kyV, u.oneCell' = true := by
 intro u hu
 rw [List.mem_flatMap] at hu
 obtain ⟨x, _, hx⟩ := hu
 exact bvs_cells _ u hx
/-- The keys of a view, one by one. -/
theorem ky_at {w : World} {a : Option Addr} {c : Nat} {l : List Ky} (hv : Vw w a l.length c 32 (l.flatMap kyV)) (h0 : 0 < l.length) :
  ∃ b o, a = some ⟨b, o, none⟩ ∧ ∀ j (hj : j < l.length), w.rangeAt b (o + j * 32) (kyV l[j]) := by
 obtain ⟨b, o, hb, hcell⟩ := hv.at h0 (by decide)
 refine ⟨b, o, hb, fun j hj r u hu => ?_⟩
 have hr : r < 32 := by rw [← kyV_len l[j]]; exact (List.getElem?_eq_some_iff.1 hu).1
 rw [Nat.add_assoc]
 exact hcell (j * 32 + r) u (by rw [flatMap_get kyV 32 kyV_len l j r hr, List.getElem?_eq_getElem hj]; exact hu)
theorem kysB_succ (l : List Ky) (j : Nat) (h : j < l.length) : kysB (l.take j) ++ l[j].b = kysB (l.take (j + 1)) := flatMap_succ Ky.b l j h
theorem kysB_le (l : List Ky) (j : Nat) (h : l.length ≤ 2000) : (kysB (l.take j)).length ≤ 64000 := by
 rw [kysB_len, List.length_take]; omega
/-- The bytes of a root. -/
def rootL (p : Int) (ks : List Ky) (k : Int) : List UInt8 := [1] ++ i4 p ++ i4 ks.length ++ kysB ks ++ i4 0 ++ i4 0 ++ i4 k
/-- What Pack answers. -/
def Packed (w : World) (l : List UInt8) (e0 : Int) (e : Ending) (w' : World) : Prop :=
 ∃ a c, e = .returned (.tuple #[.slice a l.length c, .int .i64 e0]) ∧ Vw w' a l.length c 1 (bvs l) ∧ (∀ g, blk a = some g → w.heap.size ≤ g ∧ g < w'.heap.size) ∧ Upd (fun _ => False) w w'
theorem root_cells {w : World} {b : Nat} {p : Int} {a : Option Addr} {n c : Nat} {k : Int} {T : TypeId} (h : w.heap[b]? = some (.cells #[.int .i64 p, .slice a n c, .slice none 0 0, .slice none 0 0, .int .i64 k] T)) :
  w.cell? ⟨b, 0, none⟩ = some (.int .i64 p) ∧ w.cell? ⟨b, 1, none⟩ = some (.slice a n c) ∧ w.cell? ⟨b, 2, none⟩ = some (.slice none 0 0) ∧ w.cell? ⟨b, 3, none⟩ = some (.slice none 0 0) ∧ w.cell? ⟨b, 4, none⟩ = some (.int .i64 k) := by
 refine ⟨?_, ?_, ?_, ?_, ?_⟩ <;> (rw [cell_of_row _ _ _ _ _ _ h]; rfl)
theorem key_one (k : List UInt8) : (bvs k).toArray.all (·.oneCell') = true := by simp [bvs, bv, Value.oneCell']
set_option maxHeartbeats 8000000 in
theorem mPackRoot_any (p : Int) (a : Option Addr) (c : Nat) (ks : List Ky) (k : Int) (w : World) (h : RootIn p ks.length k) (hv : Vw w a ks.length c 32 (ks.flatMap kyV)) :
  Calls Tryz.prog 11 #[.agg (rootA p a ks.length c k)] w (Packed w (rootL p ks k) 0) := by
 have hU1 := Upd.alloc (fun _ => False) w (.cells (rootA p a ks.length c k) 26)
 have hrow := heap_alloc_new w (.cells (rootA p a ks.length c k) 26)
 have hmr := mroot_ok p a ks.length c k (w.alloc (.cells (rootA p a ks.length c k) 26)) h
 have hv1 := hv.upd hU1 (fun _ _ h => h)
 unfold rootA at hU1 hrow hmr hv1 ⊢
 have HP := Lib.hid (And.intro hU1 (And.intro hrow hv1))
 have HIN := Lib.hid h
 have hn := h.n1
 have HD : Hid (rootL p ks k = [1] ++ i4 p ++ i4 ks.length ++ kysB ks ++ i4 0 ++ i4 0 ++ i4 k) := Lib.hid rfl
 generalize rootL p ks k = LL at *
 clear hU1 hrow hv1 hv h
 go_enter Tryz.func11, Tryz.ntmps11
 go_wp2_with fail
 refine hmr.mono ?_
 rintro e w1 ⟨rfl, hU2⟩
 obtain ⟨hU1, hrow, hv1⟩ := HP.out
 have hv2 := hv1.upd hU2 (fun _ _ h => h)
 have hrow1 := (hU2.block _ (lt_of_heap hrow) (fun h => h)).trans hrow
 have hU01 := hU1.trans hU2
 have hlt1 := lt_of_heap hrow1
 have HR1 := Lib.hid hrow1
 have HV := Lib.hid hv2
 have HU01 := Lib.hid hU01
 clear hmr hU1 hrow hv1 HP hU2 hv2 hrow1 hU01
 obtain ⟨K, hK, hW⟩ := Wn.fresh w1 86
 have HK := Lib.hid hK
 have HW0 := Lib.hid hW
 clear hK hW
 have HBK := Lib.hid (HK.out _ hlt1)
 go_upto_region 4 with (fail)
 have hW := HW0.out
 generalize w1.alloc (Obj.cells #[Value.slice none 0 0] 86) = x0 at *
 obtain ⟨bw, hbw0⟩ : ∃ bw, w1.heap.size = bw := ⟨_, rfl⟩
 rw [hbw0] at hW ⊢
 have HBW := Lib.hid hbw0
 clear HW0 hbw0
 go_wp2_with fail
 refine (wn_num hW (by simp) 1 1 1 (by omega) (by omega) rfl).mono ?_
 rintro e x1 ⟨rfl, hW1⟩
 clear hW
 have hW := hW1
 clear hW1
 have hl1 : ([] : List UInt8) ++ le (1 : Int).toNat 1 = [1] := rfl
 rw [hl1] at hW
 clear hl1
 obtain ⟨z0, z1, z2, z3, z4⟩ := root_cells (hW.row HBK.out HR1.out)
 clear z1 z2 z3 z4
 go_wp2_with fail
 refine wp_region_plan_last [([0, 1, 2, 3, 4], 5)] [] (fun w' => w'.cell? ⟨w.heap.size, 0, none⟩ = some (.int .i64 p)) (by kernel_rfl) (by kernel_rfl) z0 ?_
 iterate 5
  refine plan_take (v := ?_) rfl rfl (fun w' hS => ?_) ?_
  rotate_left; · (go_simp; try with_reducible rfl)
  simp only [putL]
 have hWd := hW.other (Upd.drew _ _)
 refine plan_act rfl (fun KK hKK => ?_)
 go_wp2_with fail
 refine (wn_int hWd (by simp) p).mono ?_
 rintro e x1 ⟨rfl, hW1⟩
 clear hWd
 go_wp2_with fail
 refine hKK.out _ _ (.inl rfl) (plan_end ?_)
 clear hKK
 clear hW z0
 have hW := hW1
 clear hW1
 have hll2 : (([1] : List UInt8) ++ i4 p).length ≤ 5 := by rw [List.length_append, i4_length]; simp
 generalize hL : ([1] : List UInt8) ++ i4 p = l2 at hW hll2
 have Hl2 := Lib.hid hL
 clear hL
 obtain ⟨z0, z1, z2, z3, z4⟩ := root_cells (hW.row HBK.out HR1.out)
 clear z0 z2 z3 z4
 go_wp2_with fail
 refine wp_region_plan_last [([0, 1, 2, 3, 4, 5], 6)] [] (fun w' => w'.cell? ⟨w.heap.size, 1, none⟩ = some (.slice a ks.length c)) (by kernel_rfl) (by kernel_rfl) z1 ?_
 iterate 6
  refine plan_take (v := ?_) rfl rfl (fun w' hS => ?_) ?_
  rotate_left; · (go_simp; try with_reducible rfl)
  simp only [putL]
 have hWd := hW.other (Upd.drew _ _)
 refine plan_act rfl (fun KK hKK => ?_)
 go_wp2_with fail
 refine (wn_int hWd (by omega) (ks.length : Int)).mono ?_
 rintro e x1 ⟨rfl, hW1⟩
 clear hWd
 go_wp2_with fail
 refine hKK.out _ _ (.inl rfl) (plan_end ?_)
 clear hKK
 clear hW z1
 have hW := hW1
 clear hW1
 have hll3 : (l2 ++ i4 (ks.length : Int)).length ≤ 9 := by rw [List.length_append, i4_length]; omega
 generalize hL : l2 ++ i4 (ks.length : Int) = l3 at hW hll3
 have Hl3 := Lib.hid hL
 clear hL
 obtain ⟨z0, z1, z2, z3, z4⟩ := root_cells (hW.row HBK.out HR1.out)
 clear z0 z2 z3 z4
 go_wp2_with fail
 go_loopw [38] (fun i wr => ∃ j : Nat, j ≤ ks.length ∧ i = .int .i64 (j : Int) ∧ Wn K 86 w1 wr bw (l3 ++ kysB (ks.take j))) (fun i _ => ks.length - (intOf i).toNat)
 case atStart => exact ⟨0, Nat.zero_le _, rfl, by simpa [kysB] using hW⟩
 case round =>
  clear hW z1
  obtain ⟨j, hj, rfl, hW⟩ := hrel
  by_cases hlt : j < ks.length
  ·have hI : (j : Int) < (ks.length : Int) := by omega
   have hvr := HV.out.upd (hW.old HK.out) (fun _ _ h => h)
   obtain ⟨b, o, hb, hcell⟩ := ky_at hvr (by omega)
   clear hvr
   subst hb
   have hrg : wr.rangeAt b (o + j * 32) (bvs ks[j].b) := hcell j hlt
   have hk32 := ks[j].h
   have hsucc := kysB_succ ks j hlt
   have hpre : (l3 ++ kysB (ks.take j)).length ≤ 70000 := by have := kysB_le ks j hn; rw [List.length_append]; omega
   generalize ks[j].b = kb at *
   have hS : (l3 ++ kysB (ks.take j)) ++ kb = l3 ++ kysB (ks.take (j + 1)) := by rw [List.append_assoc, hsucc]
   generalize l3 ++ kysB (ks.take j) = p0 at *
   have HSU := Lib.hid hS
   clear hcell hsucc hS
   have hsz : (Tryz.prog.info? 52).map (·.size) = some (bvs kb).toArray.size := by rw [infoKey]; simp [bvs, hk32]
   have hold : (32 : Nat) = (bvs kb).toArray.size := by simp [bvs, hk32]
   have HX := Lib.hid (And.intro hsz (And.intro hold (key_one kb)))
   clear hsz hold
   have hnew := heap_alloc_new wr (Obj.cells #[.int .u8 0, .int .u8 0, .int .u8 0, .int .u8 0, .int .u8 0, .int .u8 0, .int .u8 0, .int .u8 0, .int .u8 0, .int .u8 0, .int .u8 0, .int .u8 0, .int .u8 0, .int .u8 0, .int .u8 0, .int .u8 0, .int .u8 0, .int .u8 0, .int .u8 0, .int .u8 0, .int .u8 0, .int .u8 0, .int .u8 0, .int .u8 0, .int .u8 0, .int .u8 0, .int .u8 0, .int .u8 0, .int .u8 0, .int .u8 0, .int .u8 0, .int .u8 0] 52)
   have HNEW := Lib.hid hnew
   clear hnew
   go_upto_region 10 with first
    | refine wpList_load_key rfl (.tmp 40) rfl b (o + j * 32) rfl kb hk32 hrg ?_
    | refine wpList_store_row rfl 52 (.tmp 6) (.tmp 41) rfl wr.heap.size (bvs kb).toArray _ 52 rfl rfl HNEW.out HX.out.1 HX.out.2.1 HX.out.2.2 ?_
   have hrow2 := setRow_heap _ wr.heap.size _ (bvs kb).toArray _ _ HNEW.out
   have hrg2 : World.rangeAt (World.setRow (wr.alloc (Obj.cells #[.int .u8 0, .int .u8 0, .int .u8 0, .int .u8 0, .int .u8 0, .int .u8 0, .int .u8 0, .int .u8 0, .int .u8 0, .int .u8 0, .int .u8 0, .int .u8 0, .int .u8 0, .int .u8 0, .int .u8 0, .int .u8 0, .int .u8 0, .int .u8 0, .int .u8 0, .int .u8 0, .int .u8 0, .int .u8 0, .int .u8 0, .int .u8 0, .int .u8 0, .int .u8 0, .int .u8 0, .int .u8 0, .int .u8 0, .int .u8 0, .int .u8 0, .int .u8 0] 52)) wr.heap.size (bvs kb).toArray) wr.heap.size 0 (bvs kb) := fun i u hu => by
    rw [cell_of_row _ _ _ _ _ _ hrow2, Nat.zero_add, List.getElem?_toArray]; exact hu
   have hUs : Upd (fun _ => False) wr (World.setRow (wr.alloc (Obj.cells #[.int .u8 0, .int .u8 0, .int .u8 0, .int .u8 0, .int .u8 0, .int .u8 0, .int .u8 0, .int .u8 0, .int .u8 0, .int .u8 0, .int .u8 0, .int .u8 0, .int .u8 0, .int .u8 0, .int .u8 0, .int .u8 0, .int .u8 0, .int .u8 0, .int .u8 0, .int .u8 0, .int .u8 0, .int .u8 0, .int .u8 0, .int .u8 0, .int .u8 0, .int .u8 0, .int .u8 0, .int .u8 0, .int .u8 0, .int .u8 0, .int .u8 0, .int .u8 0] 52)) wr.heap.size (bvs kb).toArray) :=
    (Upd.alloc (fun _ => False) wr _).next (Upd.setRow (S := fun k => k = wr.heap.size) _ rfl _) (fun i hi h => by omega)
   generalize World.setRow (wr.alloc (Obj.cells #[.int .u8 0, .int .u8 0, .int .u8 0, .int .u8 0, .int .u8 0, .int .u8 0, .int .u8 0, .int .u8 0, .int .u8 0, .int .u8 0, .int .u8 0, .int .u8 0, .int .u8 0, .int .u8 0, .int .u8 0, .int .u8 0, .int .u8 0, .int .u8 0, .int .u8 0, .int .u8 0, .int .u8 0, .int .u8 0, .int .u8 0, .int .u8 0, .int .u8 0, .int .u8 0, .int .u8 0, .int .u8 0, .int .u8 0, .int .u8 0, .int .u8 0, .int .u8 0] 52)) wr.heap.size (bvs kb).toArray = y0 at *
   have hW2 := hW.other hUs
   clear hrow2 hUs hW HNEW HX hrg
   obtain ⟨Bz, hBz⟩ : ∃ Bz, wr.heap.size = Bz := ⟨_, rfl⟩
   rw [hBz] at hrg2 ⊢
   clear hBz
   have hix : ∀ (n : Nat) (hn : n < 32), ∀ w, (Instr.index 52 (.agg (bvs kb).toArray) (.int .i64 (n : Int))).run Tryz.prog w = .ok (.int .u8 ((kb[n]'(by omega)).toNat : Int)) w := fun n hn w =>
    index_key _ (by simp [bvs, hk32]) n _ (by simp [bvs, bv, List.getElem?_eq_getElem (show n < kb.length by omega)]) w
   have HIX := Lib.hid hix
   clear hix
   have hK0 : ∃ k0, (bvs kb).toArray = k0 := ⟨_, rfl⟩
   obtain ⟨k0, hK0⟩ := hK0
   simp only [hK0] at HIX
   have HK0 := Lib.hid hK0
   clear hK0
   go_wp2_with (refine wpList_load_key rfl (.tmp 6) rfl Bz 0 rfl kb hk32 hrg2 ?_; rw [HK0.out])
   clear hrg2
   go_loopw [43] (fun i wx => ∃ i0 : Nat, i0 ≤ 32 ∧ i = .int .i64 (i0 : Int) ∧ Wn K 86 w1 wx bw (p0 ++ kb.take i0)) (fun i _ => 32 - (intOf i).toNat)
   case atStart => exact ⟨0, by omega, rfl, by simpa using hW2⟩
   case round =>
    clear hW2
    obtain ⟨i0, hi0, rfl, hW⟩ := hrel
    by_cases hlt2 : i0 < 32
    ·have hI2 : (i0 : Int) < 32 := by omega
     have hixj := HIX.out i0 hlt2
     have hsucc : (p0 ++ kb.take i0) ++ [kb[i0]'(by omega)] = p0 ++ kb.take (i0 + 1) := by
      rw [List.append_assoc, List.take_succ_eq_append_getElem (by omega)]
     generalize kb[i0]'(by omega) = x at *
     have hx := x.toNat_lt
     have hnum := wn_num hW (by rw [List.length_append, List.length_take]; omega) (x.toNat : Int) 1 1 (by omega) (by omega) rfl
     rw [Int.toNat_natCast, le_byte, hsucc] at hnum
     have hcv : IntKind.u64.wrap (x.toNat : Int) = (x.toNat : Int) := by show _ % 18446744073709551616 = _; omega
     clear hW hsucc
     go_wp2_with fail
     refine hnum.mono ?_
     rintro e wz ⟨rfl, hW⟩
     clear hnum hixj
     go_wp2_with fail
     go_roundw
     case rel => exact ⟨i0 + 1, by omega, by first | rfl | go_num, hW⟩
     case measure => simp [intOf]; omega
    ·obtain rfl : i0 = 32 := by omega
     rw [List.take_of_length_le (by omega)] at hW
     rw [HSU.out] at hW
     go_wp2_with fail
     go_roundw
     case rel => exact ⟨j + 1, by omega, by first | rfl | go_num, hW⟩
     case measure => simp [intOf]; omega
  ·obtain rfl : j = ks.length := by omega
   rw [List.take_length] at hW
   have hll4 : (l3 ++ kysB ks).length ≤ 70000 := by have := kysB_len ks; rw [List.length_append]; omega
   generalize hL : l3 ++ kysB ks = l4 at hW hll4
   have Hl4 := Lib.hid hL
   clear hL hlt
   obtain ⟨z0, z1, z2, z3, z4⟩ := root_cells (hW.row HBK.out HR1.out)
   clear z0 z1 z3 z4
   go_wp2_with fail
   refine wp_region_plan_last [([0, 1, 2, 3, 4, 5], 6)] [] (fun w' => w'.cell? ⟨w.heap.size, 2, none⟩ = some (.slice none 0 0)) (by kernel_rfl) (by kernel_rfl) z2 ?_
   iterate 6
    refine plan_take (v := ?_) rfl rfl (fun w' hS => ?_) ?_
    rotate_left; · (go_simp; try with_reducible rfl)
    simp only [putL]
   have hWd := hW.other (Upd.drew _ _)
   refine plan_act rfl (fun KK hKK => ?_)
   go_wp2_with fail
   refine (wn_int hWd (by omega) 0).mono ?_
   rintro e x1 ⟨rfl, hW1⟩
   clear hWd
   go_wp2_with fail
   refine hKK.out _ _ (.inl rfl) (plan_end ?_)
   clear hKK
   clear hW z2
   have hW := hW1
   clear hW1
   have hll5 : (l4 ++ i4 0).length ≤ 70004 := by rw [List.length_append, i4_length]; omega
   generalize hL : l4 ++ i4 0 = l5 at hW hll5
   have Hl5 := Lib.hid hL
   clear hL
   obtain ⟨z0, z1, z2, z3, z4⟩ := root_cells (hW.row HBK.out HR1.out)
   clear z0 z1 z3 z4
   go_wp2_with fail
   go_loopw [64] (fun i wr => i = .int .i64 0 ∧ Wn K 86 w1 wr bw l5) (fun _ _ => 0)
   case atStart => exact ⟨rfl, hW⟩
   case round =>
    clear hW z2
    obtain ⟨rfl, hW⟩ := hrel
    obtain ⟨z0, z1, z2, z3, z4⟩ := root_cells (hW.row HBK.out HR1.out)
    clear z0 z1 z2 z4
    go_wp2_with fail
    refine wp_region_plan_last [([0, 1, 2, 3, 4, 5], 6)] [] (fun w' => w'.cell? ⟨w.heap.size, 3, none⟩ = some (.slice none 0 0)) (by kernel_rfl) (by kernel_rfl) z3 ?_
    iterate 6
     refine plan_take (v := ?_) rfl rfl (fun w' hS => ?_) ?_
     rotate_left; · (go_simp; try with_reducible rfl)
     simp only [putL]
    have hWd := hW.other (Upd.drew _ _)
    refine plan_act rfl (fun KK hKK => ?_)
    go_wp2_with fail
    refine (wn_int hWd (by omega) 0).mono ?_
    rintro e x1 ⟨rfl, hW1⟩
    clear hWd
    go_wp2_with fail
    refine hKK.out _ _ (.inl rfl) (plan_end ?_)
    clear hKK
    clear hW z3
    have hW := hW1
    clear hW1
    have hll6 : (l5 ++ i4 0).length ≤ 70008 := by rw [List.length_append, i4_length]; omega
    generalize hL : l5 ++ i4 0 = l6 at hW hll6
    have Hl6 := Lib.hid hL
    clear hL
    obtain ⟨z0, z1, z2, z3, z4⟩ := root_cells (hW.row HBK.out HR1.out)
    clear z0 z1 z2 z4
    go_wp2_with fail
    go_loopw [89] (fun i wr => i = .int .i64 0 ∧ Wn K 86 w1 wr bw l6) (fun _ _ => 0)
    case atStart => exact ⟨rfl, hW⟩
    case round =>
     clear hW z3
     obtain ⟨rfl, hW⟩ := hrel
     obtain ⟨z0, z1, z2, z3, z4⟩ := root_cells (hW.row HBK.out HR1.out)
     clear z0 z1 z2 z3
     go_wp2_with fail
     refine wp_region_plan_last [([0, 1, 2, 3, 4], 5)] [] (fun w' => w'.cell? ⟨w.heap.size, 4, none⟩ = some (.int .i64 k)) (by kernel_rfl) (by kernel_rfl) z4 ?_
     iterate 5
      refine plan_take (v := ?_) rfl rfl (fun w' hS => ?_) ?_
      rotate_left; · (go_simp; try with_reducible rfl)
      simp only [putL]
     have hWd := hW.other (Upd.drew _ _)
     refine plan_act rfl (fun KK hKK => ?_)
     go_wp2_with fail
     refine (wn_int hWd (by omega) k).mono ?_
     rintro e x1 ⟨rfl, hW1⟩
     clear hWd
     go_wp2_with fail
     refine hKK.out _ _ (.inl rfl) (plan_end ?_)
     clear hKK
     clear hW z4
     have hW := hW1
     clear hW1
     have hll7 : (l6 ++ i4 k).length ≤ 70012 := by rw [List.length_append, i4_length]; omega
     have hLL : LL = l6 ++ i4 k := by rw [HD.out, ← Hl6.out, ← Hl5.out, ← Hl4.out, ← Hl3.out, ← Hl2.out]
     rw [← hLL] at hW hll7
     have HC := Lib.hid (hW.old HK.out)
     clear hLL
     go_wp2_with fail
     refine (wn_bytes hW (by omega)).mono ?_
     rintro e x2 ⟨a2, c2, rfl, hown, hfr, hU3⟩
     have hfin := HU01.out.trans (HC.out.trans hU3)
     have hz := (HU01.out.trans HC.out).size
     have HF := Lib.hid (And.intro hfin (And.intro (Vw.of_own hown) (fun g (hg : blk a2 = some g) => And.intro (Nat.le_trans hz (hfr g hg)) (hown.lt g ((own_blk _ _ _).trans hg)).2)))
     clear hfin hz hown hfr hU3 hW
     go_wp2_with fail
     go_ret2
     exact ⟨a2, c2, rfl, HF.out.2.1, HF.out.2.2, HF.out.1⟩
theorem takeS_app (l r : List UInt8) : takeS l.length ⟨l ++ r, 0⟩ = (l, ⟨r, 0⟩) := by
 unfold takeS
 simp
theorem takeS_app' (n : Nat) (l r : List UInt8) (h : l.length = n) : takeS n ⟨l ++ r, 0⟩ = (l, ⟨r, 0⟩) := by
 subst h; exact takeS_app l r
theorem takeS_i4 (n : Int) (r : List UInt8) : takeS 4 ⟨i4 n ++ r, 0⟩ = (i4 n, ⟨r, 0⟩) := takeS_app' 4 _ _ (i4_length n)
theorem intV_i4 (n : Int) (r : List UInt8) (h0 : -1 ≤ n) (h1 : n ≤ 4294967294) : intV ⟨i4 n ++ r, 0⟩ = n := by
 rw [intV_eq, takeS_i4]
 unfold i4
 rw [leN_le]
 simp
 omega
theorem textS_t4 (s : ByteArray) (r : List UInt8) (h : s.size ≤ 100000000) : textS ⟨t4 s ++ r, 0⟩ = (s.data.toList, ⟨r, 0⟩) := by
 unfold textS t4
 rw [List.append_assoc, takeS_i4, intV_i4 _ _ (by omega) (by omega)]
 rw [if_neg (by simp), if_neg (by omega)]
 simp only [Int.toNat_natCast]
 exact takeS_app' _ _ _ (size_toList s)
theorem boolS_b1 (b : Bool) (r : List UInt8) : boolS ⟨b1 b ++ r, 0⟩ = (b, ⟨r, 0⟩) := by
 cases b <;> simp [boolS, takeS, b1, leN]
/-- An item. -/
structure It where
 k : Int
 v : Nat
 n : Int
 s : ByteArray
 b : Bool
end Go.Proofs.YtccejkikphpnfaaGreatDoor
