
/- The log's Fork in general. -/
import Derived.Test.YtccejkikphpnfaaGreatDoorQ45
namespace Go.Proofs.YtccejkikphpnfaaGreatDoor
set_option linter.unusedSimpArgs false
set_option linter.unusedVariables false
set_option maxRecDepth 100000
open Go.ChangeShapes Go.WideShapes Go.ChangeAt Go.RowKit
structure Opx where
 kind : Int
 fit : Bool
 r : Rt
 dest : Int
 redo : Bool
 p : Wt
 b : List UInt8
 ba : Option Addr
 bc : Nat
def opA (o : Opx) : Array Value := #[.int .i64 o.kind, .bool o.fit, .int .i64 o.r.p, .slice o.r.ca o.r.ks.length o.r.cc, .slice o.r.ma o.r.ms.length o.r.mc, .slice o.r.na o.r.ns.length o.r.nc, .int .i64 o.r.k, .int .i64 o.dest, .bool o.redo,
 .bool o.p.on, .bool o.p.re, .int .i64 o.p.src, .int .i64 o.p.dst, .slice o.p.sa o.p.ss.length o.p.sc, .int .i64 o.p.com, .slice o.p.ca o.p.cs.length o.p.cc, .slice o.ba o.b.length o.bc]
structure OpIn (w : World) (o : Opx) : Prop where
 r : RtIn w o.r
 p : WtIn w o.p
 b : Vw w o.ba o.b.length o.bc 1 (bvs o.b)
theorem OpIn.upd {w w' : World} {o : Opx} (h : OpIn w o) (hU : Upd (fun _ => False) w w') : OpIn w' o := ⟨h.r.upd hU, h.p.upd hU, h.b.upd hU (fun _ _ h => h)⟩
theorem opA_root (o : Opx) (j : Nat) (u : Value) (hu : (rtA o.r).toList[j]? = some u) : (opA o)[2 + j]? = some u := by
 match j, hu with
 | 0, hu | 1, hu | 2, hu | 3, hu | 4, hu => exact hu
 | j + 5, hu => simp [rtA] at hu
theorem opA_wait (o : Opx) (j : Nat) (u : Value) (hu : (wtA o.p).toList[j]? = some u) : (opA o)[9 + j]? = some u := by
 match j, hu with
 | 0, hu | 1, hu | 2, hu | 3, hu | 4, hu | 5, hu | 6, hu => exact hu
 | j + 7, hu => simp [wtA] at hu
theorem drop21_any (w : World) : Calls Tryz.prog 19 #[] w (Made w [4]) := by
 have hown : (w.alloc (.cells #[.int .u8 4] 5)).ownsRow 0 5 1 (.slice (some ⟨w.heap.size, 0, none⟩) 1 1) 1 (bvs [4]) := lit_own w 4
 have hUa := Upd.alloc (fun _ => False) w (.cells #[.int .u8 4] 5)
 have HF := Lib.hid (And.intro hown hUa)
 clear hown hUa
 go_enter Tryz.func19, Tryz.ntmps19
 go_wp2_with fail
 go_ret
 exact ⟨some ⟨w.heap.size, 0, none⟩, 1, rfl, Vw.of_own HF.out.1, (fun g h => by cases h; exact ⟨Nat.le_refl _, by simp⟩), HF.out.2⟩
theorem rootGR_len (r : Rt) : (rootGR r).length ≤ 18000000 := by
 unfold rootGR
 split
 ·rename_i h
  obtain ⟨h1, h2, h3⟩ := rootB_sz r h
  unfold rootG
  simp only [List.length_append, i4_length, List.length_singleton]
  have h4 : (kysB r.ks).length = r.ks.length * 32 := kysB_len r.ks
  omega
 ·simp
theorem moveL_len (v : Int) (r : Bool) : (moveL v r).length = 6 := by
 unfold moveL
 rw [List.length_append, List.length_append, i4_length]
 cases r <;> rfl
def Recd (w : World) (o : Opx) (e : Ending) (w' : World) : Prop :=
 ∃ (L : List UInt8) (a : Option Addr) (c : Nat), e = .returned (.slice a L.length c) ∧ Vw w' a L.length c 1 (bvs L) ∧ L.length ≤ 70000000 ∧ (∀ q, blk a = some q → (blk o.ba = some q ∧ L = o.b) ∨ (w.heap.size ≤ q ∧ q < w'.heap.size)) ∧ Upd (fun _ => False) w w'
set_option maxHeartbeats 16000000 in
theorem record_any (o : Opx) (g : RX) (A : RA) (rb lb : Nat) (w : World) (ho : OpIn w o) (h : RefX w rb lb g A) (hmax : (waitG o.p).length ≤ 17000000) (hbl : o.b.length ≤ 70000000) (hat : -1 ≤ g.at_) (hat2 : g.at_ < (g.rr.length : Int)) (hds : g.ds.length ≤ 100000) :
  Calls Tryz.prog 33 #[.agg (opA o), .pointer (some ⟨rb, 0, none⟩)] w (Recd w o) := by
 have hU0 := Upd.alloc (fun _ => False) w (.cells (opA o) 63)
 have hrow := heap_alloc_new w (.cells (opA o) 63)
 have h1 := h.other hU0
 have ho1 := ho.upd hU0
 have e0 : (opA o)[0]? = some (.int .i64 o.kind) := rfl
 have e1 : (opA o)[1]? = some (.bool o.fit) := rfl
 have e7 : (opA o)[7]? = some (.int .i64 o.dest) := rfl
 have e8 : (opA o)[8]? = some (.bool o.redo) := rfl
 have e16 : (opA o)[16]? = some (.slice o.ba o.b.length o.bc) := rfl
 have hrr := opA_root o
 have hrw := opA_wait o
 have hlt := h.lt
 have HG := Lib.hid (And.intro h1 (And.intro ho1 (And.intro hU0 (And.intro h ho))))
 have HE := Lib.hid (And.intro e0 (And.intro e1 (And.intro e7 (And.intro e8 (And.intro e16 (And.intro hrr hrw))))))
 have HB := Lib.hid (And.intro hmax (And.intro hbl (And.intro hat (And.intro hat2 hds))))
 have HSZ : Hid (w.heap.size ≠ rb) := Lib.hid (by omega)
 clear hU0 h1 ho1 h ho e0 e1 e7 e8 e16 hrr hrw hmax hbl hat hat2 hds hlt
 generalize opA o = AA at *
 go_enter Tryz.func33, Tryz.ntmps33
 go_upto_region 1 with (fail)
 obtain ⟨y0, hy0⟩ : ∃ y, y = w.alloc (.cells AA 63) := ⟨_, rfl⟩
 rw [← hy0] at HG hrow ⊢
 obtain ⟨B0, hB0⟩ : ∃ B, B = w.heap.size := ⟨_, rfl⟩
 have HB0 := Lib.hid hB0
 rw [← hB0] at hrow HSZ ⊢
 clear hy0 hB0
 have q0 : y0.cell? ⟨B0, 0, none⟩ = some (.int .i64 o.kind) := (cell_of_row y0 B0 0 _ _ _ hrow).trans HE.out.1
 have q1 : y0.cell? ⟨B0, 1, none⟩ = some (.bool o.fit) := (cell_of_row y0 B0 1 _ _ _ hrow).trans HE.out.2.1
 have q7 : y0.cell? ⟨B0, 7, none⟩ = some (.int .i64 o.dest) := (cell_of_row y0 B0 7 _ _ _ hrow).trans HE.out.2.2.1
 have q8 : y0.cell? ⟨B0, 8, none⟩ = some (.bool o.redo) := (cell_of_row y0 B0 8 _ _ _ hrow).trans HE.out.2.2.2.1
 have q16 : y0.cell? ⟨B0, 16, none⟩ = some (.slice o.ba o.b.length o.bc) := (cell_of_row y0 B0 16 _ _ _ hrow).trans HE.out.2.2.2.2.1
 have hr2 : y0.rangeAt B0 2 (rtA o.r).toList := fun j u hu => (cell_of_row y0 B0 (2 + j) _ _ _ hrow).trans (HE.out.2.2.2.2.2.1 j u hu)
 have hr9 : y0.rangeAt B0 9 (wtA o.p).toList := fun j u hu => (cell_of_row y0 B0 (9 + j) _ _ _ hrow).trans (HE.out.2.2.2.2.2.2 j u hu)
 have HR := Lib.hid (And.intro hr2 hr9)
 clear hr2 hr9 hrow HE
 have c1 := HG.out.1.c1
 have c2 := HG.out.1.c2
 obtain ⟨kk, hkk⟩ : ∃ x, x = o.kind := ⟨_, rfl⟩
 rw [← hkk] at q0
 clear hkk
 have HY : Hid (Upd (fun _ => False) w y0) := Lib.hid HG.out.2.2.1
 have hka : ∀ n : Int, kk ≠ n → (kk == n) = false := fun n h => by simp [h]
 have HKA := Lib.hid hka
 clear hka
 by_cases hk1 : kk = 1
 case pos =>
  subst hk1
  clear HR q16
  by_cases hx : (o.fit = true ∧ o.redo = true) ∧ 0 < g.ds.length
  case pos =>
   obtain ⟨⟨hf, hrd⟩, hl⟩ := hx
   rw [hf] at q1
   rw [hrd] at q8
   have hI : (0 : Int) < (g.ds.length : Int) := by omega
   obtain ⟨b, oo, hb, hcell⟩ := (HG.out.1.other (Upd.drew _ _)).ds.at hl (by decide)
   have hgl : g.ds.length - 1 < g.ds.length := by omega
   have hq := hcell (g.ds.length - 1) _ (iv_get g.ds (g.ds.length - 1) hgl)
   rw [hb] at c2
   have hI1 : IntKind.i64.wrap ((g.ds.length : Int) - 1) = ((g.ds.length - 1 : Nat) : Int) := by have := HB.out; rw [IntWalk.i64_in _ (by omega)]; omega
   have hI2 : (0 : Int) ≤ ((g.ds.length - 1 : Nat) : Int) := by omega
   have hI3 : ((g.ds.length - 1 : Nat) : Int) < (g.ds.length : Int) := by omega
   generalize g.ds[g.ds.length - 1] = x at *
   have hpm := r21PackMove_any x true y0.drew
   clear hf hrd hcell hb hl hgl q7
   go_upto_region 4 with (fail)
   refine wp_region_plan_last [([0, 1, 2, 3, 4, 5, 6, 7, 8, 9, 10, 11], 12)] [13] (fun w' => w'.cell? ⟨rb, 2, none⟩ = some (.slice (some ⟨b, oo, none⟩) g.ds.length A.dc) ∧ w'.cell? ⟨b, oo + (g.ds.length - 1), none⟩ = some (.int .i64 x)) (by kernel_rfl) (by kernel_rfl) ⟨c2, hq⟩ ?_
   iterate 12
    first | refine plan_skip rfl rfl ?_ | (refine plan_take (v := ?_) rfl rfl (fun w' hS => ?_) ?_; rotate_left; · (go_simp; try with_reducible rfl))
    simp only [putL]
   refine plan_act rfl (fun KK hKK => ?_)
   go_wp2_with fail
   refine hpm.mono ?_
   unfold Made
   rintro e w2 ⟨a3, c3, rfl, hv3, hf3, hU3⟩
   have HF := Lib.hid (And.intro hv3 (And.intro hf3 hU3))
   clear hv3 hf3 hU3 hpm
   have c2' := (HF.out.2.2.cell (World.block_lt_of_cell? y0.drew _ c2) (fun h => h)).trans c2
   have hq' := (HF.out.2.2.cell (World.block_lt_of_cell? y0.drew _ hq) (fun h => h)).trans hq
   have HW : Hid (Upd (fun _ => False) w y0.drew) := Lib.hid (HY.out.trans (Upd.drew _ _))
   go_wp2_with fail
   refine hKK.out _ _ (.inr ⟨c2', hq'⟩) ?_
   iterate 1
    first | refine plan_lskip rfl rfl ?_ | (refine plan_last (v := ?_) rfl rfl (fun w' hS => ?_) ?_; rotate_left; · (go_simp; try with_reducible rfl))
    simp only [putL]
   refine plan_end ?_
   go_wp2_with fail
   go_ret
   exact ⟨_, a3, c3, rfl, HF.out.1, by rw [moveL_len]; omega, fun q hq => .inr ⟨by have h1 := (HF.out.2.1 q hq).1; have h2 := HW.out.size; omega, (HF.out.2.1 q hq).2⟩, HW.out.trans HF.out.2.2⟩
  case neg =>
  by_cases hx2 : (o.fit = true ∧ o.redo = false) ∧ 0 ≤ g.at_
  case pos =>
   obtain ⟨⟨hf, hrd⟩, hl⟩ := hx2
   rw [hf] at q1
   rw [hrd] at q8
   obtain ⟨j, hj⟩ : ∃ j : Nat, g.at_ = (j : Int) := ⟨g.at_.toNat, by omega⟩
   have hjl : j < g.rr.length := by have := HB.out; omega
   obtain ⟨x, hxx⟩ : ∃ x, g.rr[j]? = some x := ⟨_, List.getElem?_eq_getElem hjl⟩
   obtain ⟨b, oo, hb, hcell⟩ := (HG.out.1.other (Upd.drew _ _)).rv.at (by omega) (by decide)
   have hq := hcell (j * 5 + 0) _ (rt_get g.rr j x hxx)
   rw [Nat.add_zero] at hq
   have c0 := HG.out.1.c0
   rw [hj] at c1
   rw [hb] at c0
   have hI1 : (0 : Int) ≤ (j : Int) := by omega
   have hI2 : (j : Int) < (g.rr.length : Int) := by omega
   generalize x.p = xp at *
   have hpm := r21PackMove_any xp false y0.drew
   clear hf hrd hcell hb hl hjl q7 hj hxx hx
   go_upto_region 6 with (fail)
   refine wp_region_plan_last [([0, 1, 2, 3, 4, 5, 6, 7, 8, 9, 10], 11)] [12] (fun w' => w'.cell? ⟨rb, 0, none⟩ = some (.slice (some ⟨b, oo, none⟩) g.rr.length A.rc) ∧ w'.cell? ⟨rb, 1, none⟩ = some (.int .i64 (j : Int)) ∧ w'.cell? ⟨b, oo + j * 5, none⟩ = some (.int .i64 xp)) (by kernel_rfl) (by kernel_rfl) ⟨c0, c1, hq⟩ ?_
   iterate 11
    first | refine plan_skip rfl rfl ?_ | (refine plan_take (v := ?_) rfl rfl (fun w' hS => ?_) ?_; rotate_left; · (go_simp; try with_reducible rfl))
    simp only [putL]
   refine plan_act rfl (fun KK hKK => ?_)
   go_wp2_with fail
   refine hpm.mono ?_
   unfold Made
   rintro e w2 ⟨a3, c3, rfl, hv3, hf3, hU3⟩
   have HF := Lib.hid (And.intro hv3 (And.intro hf3 hU3))
   clear hv3 hf3 hU3 hpm
   have c0' := (HF.out.2.2.cell (World.block_lt_of_cell? y0.drew _ c0) (fun h => h)).trans c0
   have c1' := (HF.out.2.2.cell (World.block_lt_of_cell? y0.drew _ c1) (fun h => h)).trans c1
   have hq' := (HF.out.2.2.cell (World.block_lt_of_cell? y0.drew _ hq) (fun h => h)).trans hq
   have HW : Hid (Upd (fun _ => False) w y0.drew) := Lib.hid (HY.out.trans (Upd.drew _ _))
   go_wp2_with fail
   refine hKK.out _ _ (.inr ⟨c0', c1', hq'⟩) ?_
   iterate 1
    first | refine plan_lskip rfl rfl ?_ | (refine plan_last (v := ?_) rfl rfl (fun w' hS => ?_) ?_; rotate_left; · (go_simp; try with_reducible rfl))
    simp only [putL]
   refine plan_end ?_
   go_wp2_with fail
   go_ret
   exact ⟨_, a3, c3, rfl, HF.out.1, by rw [moveL_len]; omega, fun q hq => .inr ⟨by have h1 := (HF.out.2.1 q hq).1; have h2 := HW.out.size; omega, (HF.out.2.1 q hq).2⟩, HW.out.trans HF.out.2.2⟩
  case neg =>
  have hpm := r21PackMove_any o.dest o.redo y0
  have HW : Hid (Upd (fun _ => False) w y0) := HY
  cases hf : o.fit with
  | false =>
   rw [hf] at q1
   clear hx hx2 hf
   go_wp2_with fail
   refine hpm.mono ?_
   unfold Made
   rintro e w2 ⟨a3, c3, rfl, hv3, hf3, hU3⟩
   have HF := Lib.hid (And.intro hv3 (And.intro hf3 hU3))
   clear hv3 hf3 hU3 hpm
   go_wp2_with fail
   go_ret
   exact ⟨_, a3, c3, rfl, HF.out.1, by rw [moveL_len]; omega, fun q hq => .inr ⟨by have h1 := (HF.out.2.1 q hq).1; have h2 := HW.out.size; omega, (HF.out.2.1 q hq).2⟩, HW.out.trans HF.out.2.2⟩
  | true =>
   rw [hf] at q1
   cases hrd : o.redo with
   | true =>
    rw [hrd] at q8 hpm
    have hl0 : g.ds.length = 0 := by
     rcases Nat.eq_zero_or_pos g.ds.length with h | h
     ·exact h
     ·exact absurd ⟨⟨hf, hrd⟩, h⟩ hx
    rw [hl0] at c2
    clear hx hx2 hf hrd hl0
    go_wp2_with fail
    refine hpm.mono ?_
    unfold Made
    rintro e w2 ⟨a3, c3, rfl, hv3, hf3, hU3⟩
    have HF := Lib.hid (And.intro hv3 (And.intro hf3 hU3))
    clear hv3 hf3 hU3 hpm
    go_wp2_with fail
    go_ret
    exact ⟨_, a3, c3, rfl, HF.out.1, by rw [moveL_len]; omega, fun q hq => .inr ⟨by have h1 := (HF.out.2.1 q hq).1; have h2 := HW.out.size; omega, (HF.out.2.1 q hq).2⟩, HW.out.trans HF.out.2.2⟩
   | false =>
    rw [hrd] at q8 hpm
    have hl0 : ¬ 0 ≤ g.at_ := fun h => hx2 ⟨⟨hf, hrd⟩, h⟩
    have hI : decide (0 ≤ g.at_) = false := decide_eq_false hl0
    clear hx hx2 hf hrd hl0
    go_wp2_with fail
    refine hpm.mono ?_
    unfold Made
    rintro e w2 ⟨a3, c3, rfl, hv3, hf3, hU3⟩
    have HF := Lib.hid (And.intro hv3 (And.intro hf3 hU3))
    clear hv3 hf3 hU3 hpm
    go_wp2_with fail
    go_ret
    exact ⟨_, a3, c3, rfl, HF.out.1, by rw [moveL_len]; omega, fun q hq => .inr ⟨by have h1 := (HF.out.2.1 q hq).1; have h2 := HW.out.size; omega, (HF.out.2.1 q hq).2⟩, HW.out.trans HF.out.2.2⟩
 case neg =>
 have hb1 := HKA.out 1 hk1
 clear q7 q8 c2
 by_cases hk2 : kk = 2
 case pos =>
  subst hk2
  have hrg := HR.out.2
  have hsz : (Tryz.prog.info? 30).map (·.size) = some (wtA o.p).toList.length := by rw [infoPd7]; rfl
  obtain ⟨p2, hp2⟩ : ∃ p2 : Wt, p2 = ⟨true, o.p.re, o.p.src, o.p.dst, o.p.sa, o.p.sc, o.p.ss, o.p.com, o.p.ca, o.p.cc, o.p.cs⟩ := ⟨_, rfl⟩
  have hset : (wtA o.p).setIfInBounds 0 (.bool true) = wtA p2 := by rw [hp2]; simp [wtA]
  have hzr := heap_alloc_new y0 (.cells #[.bool false, .bool false, .int .i64 0, .int .i64 0, .slice none 0 0, .int .i64 0, .slice none 0 0] 30)
  have hUz := Upd.alloc (fun _ => False) y0 (.cells #[.bool false, .bool false, .int .i64 0, .int .i64 0, .slice none 0 0, .int .i64 0, .slice none 0 0] 30)
  have hUs := Upd.setRow (S := fun k => k = y0.heap.size) (y0.alloc (.cells #[.bool false, .bool false, .int .i64 0, .int .i64 0, .slice none 0 0, .int .i64 0, .slice none 0 0] 30)) (b := y0.heap.size) rfl (wtA o.p)
  have hrw := setRow_heap _ _ _ (wtA o.p) _ _ hzr
  have hUc := Upd.setCell (S := fun k => k = y0.heap.size) ((y0.alloc (.cells #[.bool false, .bool false, .int .i64 0, .int .i64 0, .slice none 0 0, .int .i64 0, .slice none 0 0] 30)).setRow y0.heap.size (wtA o.p)) (p := ⟨y0.heap.size, 0, none⟩) rfl (.bool true)
  have hrc := setCell_heap 0 (.bool true) hrw
  rw [hset] at hrc
  have hU2 : Upd (fun _ => False) y0 (((y0.alloc (.cells #[.bool false, .bool false, .int .i64 0, .int .i64 0, .slice none 0 0, .int .i64 0, .slice none 0 0] 30)).setRow y0.heap.size (wtA o.p)).setCell ⟨y0.heap.size, 0, none⟩ (.bool true)) := (hUz.next hUs (fun i hi e => by omega)).next hUc (fun i hi e => by omega)
  have hp0 : (((y0.alloc (.cells #[.bool false, .bool false, .int .i64 0, .int .i64 0, .slice none 0 0, .int .i64 0, .slice none 0 0] 30)).setRow y0.heap.size (wtA o.p))).cell? ⟨y0.heap.size, 0, none⟩ = some (.bool o.p.on) := (cell_of_row _ _ 0 _ _ _ hrw).trans rfl
  have hf0 : (((y0.alloc (.cells #[.bool false, .bool false, .int .i64 0, .int .i64 0, .slice none 0 0, .int .i64 0, .slice none 0 0] 30)).setRow y0.heap.size (wtA o.p))).frozen? ⟨y0.heap.size, 0, none⟩ = false := free_row hrw
  have hwi : WtIn y0 p2 := by rw [hp2]; exact ⟨HG.out.2.1.p.sv, HG.out.2.1.p.se, HG.out.2.1.p.cv⟩
  have hwg : waitG p2 = waitG o.p := by rw [waitG_c, waitG_c, hp2]; rfl
  have hpk := r21PackWait_gen p2 _ (hwi.upd hU2) (by rw [hwg]; have := HB.out.1; omega)
  have hlen : (waitR p2).length ≤ 17000000 := by
   unfold waitR
   split
   ·rw [hwg]; exact HB.out.1
   ·simp
  have h7 : (wtA o.p).size = 7 := rfl
  have hone : (wtA o.p).all (·.oneCell') = true := by simp [wtA, Value.oneCell']
  have hsz2 : (Tryz.prog.info? 30).map (·.size) = some (wtA p2).size := by rw [infoPd7]; rfl
  have HU2 := Lib.hid (HY.out.trans hU2)
  have HA := Lib.hid (And.intro hsz (And.intro h7 (And.intro hone hsz2)))
  have hla : (wtA o.p).toList.toArray = wtA o.p := by simp
  have HLA := Lib.hid hla
  have HLN := Lib.hid hlen
  have hu0 : Hid (y0.heap.size = y0.heap.size) := Lib.hid rfl
  have HS7 : Hid ((Tryz.prog.info? 30).map (·.size) = some (wtA o.p).size) := Lib.hid (by rw [infoPd7]; rfl)
  clear hsz hset hUz hUs hUc hU2 hwi hwg hlen h7 hone hsz2 hla hp2 HKA HR q16
  generalize hEE : waitE p2 = EE at *
  generalize hRR : waitR p2 = RR at *
  generalize wtA p2 = A2 at *
  generalize hAL : (wtA o.p).toList = AL at *
  generalize hA1 : wtA o.p = A1 at *
  clear hEE hRR hAL hA1
  have hla2 := HLA.out
  subst hla2
  go_upto_region 9 with (fail)
  clear q0 q1 hb1 c1
  go_upto_region 10 with first
   | refine wpList_store_row rfl 30 (.tmp 5) (.tmp 76) rfl y0.heap.size AL.toArray _ 30 rfl rfl hzr HS7.out (by rw [HA.out.2.1]; rfl) HA.out.2.2.1 ?_
   | refine wpList_load_mid rfl 30 (.tmp 75) rfl B0 9 rfl AL _ hrg Tryz.underlying30 rfl HA.out.1 ?_
  go_upto_region 11 with (fail)
  generalize ((y0.alloc (.cells #[.bool false, .bool false, .int .i64 0, .int .i64 0, .slice none 0 0, .int .i64 0, .slice none 0 0] 30)).setRow y0.heap.size AL.toArray).setCell ⟨y0.heap.size, 0, none⟩ (.bool true) = y3 at *
  go_wp2_with (refine wpList_load_row rfl 30 (.tmp 5) rfl y0.heap.size A2 30 (0, 0) _ rfl hrc Tryz.underlying30 rfl HA.out.2.2.2 ?_)
  refine hpk.mono ?_
  unfold Packed
  rintro e w2 ⟨a3, c3, rfl, hv3, hf3, hU3⟩
  have HF := Lib.hid (And.intro hv3 (And.intro hf3 hU3))
  clear hv3 hf3 hU3 hpk
  go_wp2_with fail
  go_ret
  exact ⟨RR, a3, c3, rfl, HF.out.1, by have := HLN.out; omega, fun q hq => .inr ⟨by have h1 := (HF.out.2.1 q hq).1; have h2 := HU2.out.size; omega, (HF.out.2.1 q hq).2⟩, HU2.out.trans HF.out.2.2⟩
 case neg =>
 have hb2 := HKA.out 2 hk2
 by_cases hk3 : kk = 3
 case pos =>
  subst hk3
  have hpm := drop21_any y0
  clear HR q16 q1 c1 HKA
  go_wp2_with fail
  refine hpm.mono ?_
  unfold Made
  rintro e w2 ⟨a3, c3, rfl, hv3, hf3, hU3⟩
  have HF := Lib.hid (And.intro hv3 (And.intro hf3 hU3))
  clear hv3 hf3 hU3 hpm
  go_wp2_with fail
  go_ret
  exact ⟨[4], a3, c3, rfl, HF.out.1, by simp, fun q hq => .inr ⟨by have h1 := (HF.out.2.1 q hq).1; have h2 := HY.out.size; omega, (HF.out.2.1 q hq).2⟩, HY.out.trans HF.out.2.2⟩
 case neg =>
 have hb3 := HKA.out 3 hk3
 by_cases hk4 : kk = 4
 case pos =>
  subst hk4
  clear HR q1 c1 HKA
  go_wp2_with fail
  go_ret
  exact ⟨o.b, o.ba, o.bc, rfl, HG.out.2.1.b, HB.out.2.1, fun q hq => .inl ⟨hq, rfl⟩, HY.out⟩
 case neg =>
 have hb4 := HKA.out 4 hk4
 have hrg := HR.out.1
 obtain ⟨r2, hr2⟩ : ∃ r2 : Rt, r2 = ⟨g.at_, o.r.ca, o.r.cc, o.r.ks, o.r.ma, o.r.mc, o.r.ms, o.r.na, o.r.nc, o.r.ns, o.r.k⟩ := ⟨_, rfl⟩
 have hset : (rtA o.r).setIfInBounds 0 (.int .i64 g.at_) = rtA r2 := by rw [hr2]; simp [rtA]
 have hzr := heap_alloc_new y0 (.cells #[.int .i64 0, .slice none 0 0, .slice none 0 0, .slice none 0 0, .int .i64 0] 26)
 have hUz := Upd.alloc (fun _ => False) y0 (.cells #[.int .i64 0, .slice none 0 0, .slice none 0 0, .slice none 0 0, .int .i64 0] 26)
 have hUs := Upd.setRow (S := fun k => k = y0.heap.size) (y0.alloc (.cells #[.int .i64 0, .slice none 0 0, .slice none 0 0, .slice none 0 0, .int .i64 0] 26)) (b := y0.heap.size) rfl (rtA o.r)
 have hrw := setRow_heap _ _ _ (rtA o.r) _ _ hzr
 have hU1 : Upd (fun _ => False) y0 ((y0.alloc (.cells #[.int .i64 0, .slice none 0 0, .slice none 0 0, .slice none 0 0, .int .i64 0] 26)).setRow y0.heap.size (rtA o.r)) := hUz.next hUs (fun i hi e => by omega)
 have hUc := Upd.setCell (S := fun k => k = y0.heap.size) ((y0.alloc (.cells #[.int .i64 0, .slice none 0 0, .slice none 0 0, .slice none 0 0, .int .i64 0] 26)).setRow y0.heap.size (rtA o.r)) (p := ⟨y0.heap.size, 0, none⟩) rfl (.int .i64 g.at_)
 have hrc := setCell_heap 0 (.int .i64 g.at_) hrw
 rw [hset] at hrc
 have hU2 : Upd (fun _ => False) y0 (((y0.alloc (.cells #[.int .i64 0, .slice none 0 0, .slice none 0 0, .slice none 0 0, .int .i64 0] 26)).setRow y0.heap.size (rtA o.r)).setCell ⟨y0.heap.size, 0, none⟩ (.int .i64 g.at_)) := hU1.next hUc (fun i hi e => by omega)
 have hp0 : (((y0.alloc (.cells #[.int .i64 0, .slice none 0 0, .slice none 0 0, .slice none 0 0, .int .i64 0] 26)).setRow y0.heap.size (rtA o.r))).cell? ⟨y0.heap.size, 0, none⟩ = some (.int .i64 o.r.p) := (cell_of_row _ _ 0 _ _ _ hrw).trans rfl
 have hf0 : (((y0.alloc (.cells #[.int .i64 0, .slice none 0 0, .slice none 0 0, .slice none 0 0, .int .i64 0] 26)).setRow y0.heap.size (rtA o.r))).frozen? ⟨y0.heap.size, 0, none⟩ = false := free_row hrw
 have hfit : (((y0.alloc (.cells #[.int .i64 0, .slice none 0 0, .slice none 0 0, .slice none 0 0, .int .i64 0] 26)).setRow y0.heap.size (rtA o.r))).cell? ⟨B0, 1, none⟩ = some (.bool o.fit) := (hU1.cell (World.block_lt_of_cell? _ _ q1) (fun h => h)).trans q1
 have hat1 : (((y0.alloc (.cells #[.int .i64 0, .slice none 0 0, .slice none 0 0, .slice none 0 0, .int .i64 0] 26)).setRow y0.heap.size (rtA o.r))).cell? ⟨rb, 1, none⟩ = some (.int .i64 g.at_) := (hU1.cell (World.block_lt_of_cell? _ _ c1) (fun h => h)).trans c1
 have hri : RtIn y0 r2 := by rw [hr2]; exact ⟨HG.out.2.1.r.cv, HG.out.2.1.r.mv, HG.out.2.1.r.me, HG.out.2.1.r.nv, HG.out.2.1.r.nl⟩
 have hpk1 := r21PackRoot_gen o.r _ (HG.out.2.1.r.upd hU1)
 have hpk2 := r21PackRoot_gen r2 _ (hri.upd hU2)
 have hlen1 := rootGR_len o.r
 have hlen2 := rootGR_len r2
 have h5 : (rtA o.r).size = 5 := rfl
 have hone := rtA_one o.r
 have hsz : (Tryz.prog.info? 26).map (·.size) = some (rtA o.r).toList.length := by rw [infoRoot]; rfl
 have hsz1 : (Tryz.prog.info? 26).map (·.size) = some (rtA o.r).size := by rw [infoRoot]; rfl
 have hsz2 : (Tryz.prog.info? 26).map (·.size) = some (rtA r2).size := by rw [infoRoot]; rfl
 have HU1 := Lib.hid (HY.out.trans hU1)
 have HU2 := Lib.hid (HY.out.trans hU2)
 have HA := Lib.hid (And.intro hsz (And.intro h5 (And.intro hone (And.intro hsz1 hsz2))))
 have HLA : Hid ((rtA o.r).toList.toArray = rtA o.r) := Lib.hid (by simp)
 have HLN := Lib.hid (And.intro hlen1 hlen2)
 clear hsz hset hUz hUs hUc hU1 hU2 hri hlen1 hlen2 h5 hone hsz1 hsz2 hr2 HKA HR q16
 generalize rootGE r2 = EE2 at *
 generalize rootGR r2 = RR2 at *
 generalize rtA r2 = A2 at *
 generalize rootGE o.r = EE1 at *
 generalize rootGR o.r = RR1 at *
 generalize (rtA o.r).toList = AL at *
 generalize rtA o.r = A1 at *
 have hla2 := HLA.out
 subst hla2
 go_upto_region 17 with (fail)
 clear q0 q1 hb1 hb2 hb3 hb4 c1 hk1 hk2 hk3 hk4
 go_upto_region 18 with first
  | refine wpList_store_row rfl 26 (.tmp 8) (.tmp 92) rfl y0.heap.size AL.toArray _ 26 rfl rfl hzr HA.out.2.2.2.1 (by rw [HA.out.2.1]; rfl) HA.out.2.2.1 ?_
  | refine wpList_load_mid rfl 26 (.tmp 91) rfl B0 2 rfl AL _ hrg Tryz.underlying26 rfl HA.out.1 ?_
 cases hff : o.fit with
 | false =>
  rw [hff] at hfit
  clear hff hpk2 hrc hp0 hf0 hat1
  generalize (y0.alloc (.cells #[.int .i64 0, .slice none 0 0, .slice none 0 0, .slice none 0 0, .int .i64 0] 26)).setRow y0.heap.size AL.toArray = y3 at *
  go_upto_region 20 with (fail)
  go_wp2_with (refine wpList_load_row rfl 26 (.tmp 8) rfl y0.heap.size AL.toArray 26 (0, 0) _ rfl hrw Tryz.underlying26 rfl HA.out.2.2.2.1 ?_)
  refine hpk1.mono ?_
  unfold Packed
  rintro e w2 ⟨a3, c3, rfl, hv3, hf3, hU3⟩
  have HF := Lib.hid (And.intro hv3 (And.intro hf3 hU3))
  clear hv3 hf3 hU3 hpk1
  go_wp2_with fail
  go_ret
  exact ⟨RR1, a3, c3, rfl, HF.out.1, by have := HLN.out; omega, fun q hq => .inr ⟨by have h1 := (HF.out.2.1 q hq).1; have h2 := HU1.out.size; omega, (HF.out.2.1 q hq).2⟩, HU1.out.trans HF.out.2.2⟩
 | true =>
  rw [hff] at hfit
  clear hff hpk1
  go_upto_region 20 with (fail)
  generalize ((y0.alloc (.cells #[.int .i64 0, .slice none 0 0, .slice none 0 0, .slice none 0 0, .int .i64 0] 26)).setRow y0.heap.size AL.toArray).setCell ⟨y0.heap.size, 0, none⟩ (.int .i64 g.at_) = y3 at *
  go_wp2_with (refine wpList_load_row rfl 26 (.tmp 8) rfl y0.heap.size A2 26 (0, 0) _ rfl hrc Tryz.underlying26 rfl HA.out.2.2.2.2 ?_)
  refine hpk2.mono ?_
  unfold Packed
  rintro e w2 ⟨a3, c3, rfl, hv3, hf3, hU3⟩
  have HF := Lib.hid (And.intro hv3 (And.intro hf3 hU3))
  clear hv3 hf3 hU3 hpk2
  go_wp2_with fail
  go_ret
  exact ⟨RR2, a3, c3, rfl, HF.out.1, by have := HLN.out; omega, fun q hq => .inr ⟨by have h1 := (HF.out.2.1 q hq).1; have h2 := HU2.out.size; omega, (HF.out.2.1 q hq).2⟩, HU2.out.trans HF.out.2.2⟩
theorem logX_size (g : Lx) (A : LA) : (logX g A).size = 13 := rfl
theorem logX_one (g : Lx) (A : LA) : (logX g A).all (·.oneCell') = true := by simp [logX, Value.oneCell']
theorem infoLog13 : (Tryz.prog.info? 105).map (·.size) = some 13 := by kernel_rfl
/-- What a fork leaves: another log, alike. -/
def Forked [Inhabited RbT] (w : World) (g : Lx) (A : LA) (e : Ending) (w' : World) : Prop := e = .returned (.pointer (some ⟨w.heap.size, 0, none⟩)) ∧ w'.heap[w.heap.size]? = some (.cells (logX g A) 105) ∧ Upd (fun _ => False) w w'
set_option maxHeartbeats 4000000 in
theorem mForkX [Inhabited RbT] (g : Lx) (A : LA) (lb : Nat) (w : World) (h : LogX w lb g A) : Calls Tryz.prog 32 #[.pointer (some ⟨lb, 0, none⟩)] w (Forked w g A) := by
 have hrow := h.row
 have HS := Lib.hid (And.intro (logX_size g A) (logX_one g A))
 have hza := heap_alloc_new w (.cells #[.slice none 0 0, .slice none 0 0, .slice none 0 0, .int .i64 0, .slice none 0 0, .bool false, .bool false, .int .i64 0, .int .i64 0, .slice none 0 0, .int .i64 0, .slice none 0 0, .int .i64 0] 105)
 have hU : Upd (fun _ => False) w ((w.alloc (.cells #[.slice none 0 0, .slice none 0 0, .slice none 0 0, .int .i64 0, .slice none 0 0, .bool false, .bool false, .int .i64 0, .int .i64 0, .slice none 0 0, .int .i64 0, .slice none 0 0, .int .i64 0] 105)).setRow w.heap.size (logX g A)) := (Upd.alloc (fun _ => False) w (.cells #[.slice none 0 0, .slice none 0 0, .slice none 0 0, .int .i64 0, .slice none 0 0, .bool false, .bool false, .int .i64 0, .int .i64 0, .slice none 0 0, .int .i64 0, .slice none 0 0, .int .i64 0] 105)).next (Upd.setRow (S := fun k => k = w.heap.size) _ rfl (logX g A)) (fun i hi e => by omega)
 have hnew := setRow_heap _ _ _ (logX g A) _ _ hza
 have HU := Lib.hid (And.intro hU hnew)
 have HAA : Hid (logX g A = logX g A) := Lib.hid rfl
 clear h hU hnew
 unfold Forked
 generalize logX g A = AA at *
 go_enter Tryz.func32, Tryz.ntmps32
 go_wp2_with first
  | refine wpList_load_row rfl 105 (.tmp 7) rfl lb AA 105 (0, 0) _ rfl hrow Tryz.underlying105 rfl (by rw [infoLog13, HS.out.1]) ?_
  | refine wpList_store_row rfl 105 (.tmp 3) (.tmp 8) rfl w.heap.size AA _ 105 rfl rfl hza (by rw [infoLog13, HS.out.1]) (by rw [HS.out.1]; rfl) HS.out.2 ?_
 go_ret
 exact ⟨rfl, HU.out.2, HU.out.1⟩
/-- The fork stands on its own, whatever the first one does. -/
theorem LogX.fork [Inhabited RbT] {w w2 : World} {lb lb2 : Nat} {g : Lx} {A : LA} (h : LogX w lb g A) (hU : Upd (fun q => q = lb) w w2) (hrow : w2.heap[lb2]? = some (.cells (logX g A) 105)) (h1 : w.heap.size ≤ lb2) : LogX w2 lb2 g A := by
 have hz := hU.size
 have hc : ∀ q, Bd w lb q → Bd w2 lb2 q := fun q hq => ⟨by have := hq.2.1; omega, Nat.lt_of_lt_of_le hq.2.1 hz, hq.2.2⟩
 exact ⟨hrow, h.rr.upd hU (fun q hq => (h.n1 q hq).1), h.fs.upd hU (fun q hq => (h.n2 q hq).1), h.cs.upd hU (fun q hq => (h.n3 q hq).1), h.ds.upd hU (fun q hq => (h.n4 q hq).1),
  fun q hq => hc q (h.n1 q hq), fun q hq => hc q (h.n2 q hq), fun q hq => hc q (h.n3 q hq), fun q hq => hc q (h.n4 q hq),
  fun r hr => ⟨(h.re r hr).1.updS ((h.re r hr).2.mono (fun q hq => hq.1)) hU, (h.re r hr).2.mono hc⟩, ⟨h.pw.1.updS (h.pw.2.mono (fun q hq => hq.1)) hU, h.pw.2.mono hc⟩, fun q hq => ⟨Nat.lt_of_lt_of_le (h.rl q hq).1 hz, by have := (h.rl q hq).1; omega⟩⟩
/-- Other blocks are forbidden from now on: those that came since. -/
theorem LogX.rebase {i1 : Inhabited RbT} {i2 : Inhabited RbT} {w w2 : World} {S : Nat → Prop} {lb : Nat} {g : Lx} {A : LA} (h : @LogX i1 w lb g A) (hU : Upd S w w2) (hS : ∀ q, S q → @rbP i1 q ∨ (w.heap.size ≤ q)) (h2 : ∀ q, @rbP i2 q → @rbP i1 q ∨ (w.heap.size ≤ q ∧ q < w2.heap.size)) : @LogX i2 w2 lb g A := by
 obtain ⟨hrow, hrr, hfs, hcs, hds, n1, n2, n3, n4, hre, hpw, hrl⟩ := h
 have hlt : lb < w.heap.size := lt_of_heap hrow
 have hz := hU.size
 have hnl : ¬ S lb := fun hs => (hS lb hs).elim (fun hp => (hrl lb hp).2 rfl) (fun h => absurd hlt (Nat.not_lt.2 h))
 have hnb : ∀ q, @Bd i1 w lb q → ¬ S q := fun q hq hs => (hS q hs).elim (fun hp => hq.2.2 hp) (fun h => absurd hq.2.1 (Nat.not_lt.2 h))
 have hc : ∀ q, @Bd i1 w lb q → @Bd i2 w2 lb q := fun q hq => ⟨hq.1, Nat.lt_of_lt_of_le hq.2.1 hz, fun hp => (h2 q hp).elim (fun hp => hq.2.2 hp) (fun h => absurd hq.2.1 (Nat.not_lt.2 h.1))⟩
 exact ⟨(hU.block lb hlt hnl).trans hrow, hrr.upd hU (fun q hq => hnb q (n1 q hq)), hfs.upd hU (fun q hq => hnb q (n2 q hq)), hcs.upd hU (fun q hq => hnb q (n3 q hq)), hds.upd hU (fun q hq => hnb q (n4 q hq)),
  fun q hq => hc q (n1 q hq), fun q hq => hc q (n2 q hq), fun q hq => hc q (n3 q hq), fun q hq => hc q (n4 q hq),
  fun r hr => ⟨(hre r hr).1.updS ((hre r hr).2.mono hnb) hU, (hre r hr).2.mono hc⟩, ⟨hpw.1.updS (hpw.2.mono hnb) hU, hpw.2.mono hc⟩, fun q hq => (h2 q hq).elim (fun hp => ⟨Nat.lt_of_lt_of_le (hrl q hp).1 hz, (hrl q hp).2⟩) (fun h => ⟨h.2, by omega⟩)⟩
end Go.Proofs.YtccejkikphpnfaaGreatDoor
