
/- A law on a statement whose order of evaluation is open, where again and again one of two, or of three, operations that act may come first: a tree of plans. -/
import Derived.Test.YtccejkikphpnfaaGreatDoorMet6
import Derived.RegionTactic
import Derived.ChangeAlike
import Derived.Test.YtccejkikphpnfaaGreatDoorHelp
import Derived.Test.YtccejkikphpnfaaGreatDoorFork
namespace Go.Proofs.YtccejkikphpnfaaGreatDoor
set_option linter.unusedSimpArgs false
set_option linter.unusedVariables false
set_option maxRecDepth 100000
open Go.ChangeShapes Go.WideShapes Go.ChangeAt Go.RowKit

def moveL (v : Int) (redo : Bool) : List UInt8 := [2] ++ i4 v ++ b1 redo
/-- Bytes made in memory of their own. -/
def Made (w : World) (l : List UInt8) (e : Ending) (w' : World) : Prop :=
  ∃ a c, e = .returned (.slice a l.length c) ∧ Vw w' a l.length c 1 (bvs l) ∧ (∀ g, blk a = some g → w.heap.size ≤ g ∧ g < w'.heap.size) ∧ Upd (fun _ => False) w w'
set_option maxHeartbeats 4000000 in
theorem mPackMove_any (v : Int) (redo : Bool) (w : World) : Calls Tryz.prog 16 #[.int .i64 v, .bool redo] w (Made w (moveL v redo)) := by
  obtain ⟨K, hK, hW⟩ := Wn.fresh w 86
  have HK := Lib.hid hK
  have HW0 := Lib.hid hW
  clear hK hW
  have HD : Hid (moveL v redo = [2] ++ i4 v ++ b1 redo) := Lib.hid rfl
  generalize moveL v redo = LL at *
  go_enter Tryz.func16, Tryz.ntmps16
  go_upto_region 2 with (fail)
  have hW := HW0.out
  generalize w.alloc (Obj.cells #[Value.slice none 0 0] 86) = x0 at *
  obtain ⟨bw, hbw0⟩ : ∃ bw, w.heap.size = bw := ⟨_, rfl⟩
  rw [hbw0] at hW ⊢
  clear HW0 hbw0
  go_wp2_with fail
  refine (wn_num hW (by simp) 2 1 1 (by omega) (by omega) rfl).mono ?_
  rintro e x1 ⟨rfl, hW1⟩
  clear hW
  have hW := hW1
  clear hW1
  have hl1 : ([] : List UInt8) ++ le (2 : Int).toNat 1 = [2] := rfl
  rw [hl1] at hW
  clear hl1
  go_wp2_with fail
  refine (wn_int hW (by simp) v).mono ?_
  rintro e x1 ⟨rfl, hW1⟩
  clear hW
  have hW := hW1
  clear hW1
  have hl2 : (([2] : List UInt8) ++ i4 v).length ≤ 5 := by rw [List.length_append, i4_length]; simp
  go_wp2_with fail
  refine (wn_bool hW (by omega) redo).mono ?_
  rintro e x1 ⟨rfl, hW1⟩
  clear hW
  have hl3 : LL.length ≤ 6 := by rw [HD.out, List.length_append]; simp only [b1, List.length_cons, List.length_nil]; omega
  rw [← HD.out] at hW1
  have HC := Lib.hid (hW1.old HK.out)
  go_wp2_with fail
  refine (wn_bytes hW1 (by omega)).mono ?_
  rintro e x2 ⟨a2, c2, rfl, hown, hfr, hU3⟩
  have hz := HC.out.size
  have HF := Lib.hid (And.intro (HC.out.trans hU3) (And.intro (Vw.of_own hown) (fun g (hg : blk a2 = some g) => And.intro (Nat.le_trans hz (hfr g hg)) (hown.lt g ((own_blk _ _ _).trans hg)).2)))
  clear hz hown hfr hU3 hW1
  go_wp2_with fail
  go_ret
  exact ⟨a2, c2, rfl, HF.out.2.1, HF.out.2.2, HF.out.1⟩

theorem mNew_any (w : World) : Calls Tryz.prog 20 #[] w fun e w' => ∃ lb, e = .returned (.pointer (some ⟨lb, 0, none⟩)) ∧ LogW w' lb ⟨[], [], [], 0, [], 0⟩ ⟨none, 0, none, 0, none, 0, none, 0⟩ ∧ Upd (fun _ => False) w w' ∧ w.heap.size ≤ lb := by
  have hU := Upd.alloc (fun _ => False) w (.cells (logA ⟨[], [], [], 0, [], 0⟩ ⟨none, 0, none, 0, none, 0, none, 0⟩) 105)
  have hrow := heap_alloc_new w (.cells (logA ⟨[], [], [], 0, [], 0⟩ ⟨none, 0, none, 0, none, 0, none, 0⟩) 105)
  have hL : LogW (w.alloc (.cells (logA ⟨[], [], [], 0, [], 0⟩ ⟨none, 0, none, 0, none, 0, none, 0⟩) 105)) w.heap.size ⟨[], [], [], 0, [], 0⟩ ⟨none, 0, none, 0, none, 0, none, 0⟩ :=
    ⟨hrow, Vw.nl _ _, Vw.nl _ _, Vw.nl _ _, Vw.nl _ _, (fun q e => by cases e), (fun q e => by cases e), (fun q e => by cases e), (fun q e => by cases e)⟩
  unfold logA at hU hL
  have HF := Lib.hid (And.intro hL hU)
  clear hU hrow hL
  go_enter Tryz.func20, Tryz.ntmps20
  go_wp2_with fail
  go_ret
  exact ⟨_, rfl, HF.out.1, HF.out.2, Nat.le_refl _⟩
section
variable {w : World} {lb : Nat} {g : Lg} {A : LA}
theorem mAt_any (h : LogW w lb g A) (h0 : 0 ≤ g.top) (h1 : g.top ≤ 100000) : Calls Tryz.prog 24 #[.pointer (some ⟨lb, 0, none⟩)] w fun e w' => e = .returned (.int .i64 (g.top - 1)) ∧ w = w' := by
  have q := h.c3
  have hw : IntKind.i64.wrap (g.top - 1) = g.top - 1 := IntWalk.i64_in _ (by omega)
  clear h
  go_enter Tryz.func24, Tryz.ntmps24
  go_wp2_with fail
  go_ret
  exact ⟨rfl, rfl⟩
theorem mRecords_any (h : LogW w lb g A) : Calls Tryz.prog 25 #[.pointer (some ⟨lb, 0, none⟩)] w fun e w' => e = .returned (.int .i64 g.n) ∧ w = w' := by
  have q := h.c12
  clear h
  go_enter Tryz.func25, Tryz.ntmps25
  go_wp2_with fail
  go_ret
  exact ⟨rfl, rfl⟩
end
end Go.Proofs.YtccejkikphpnfaaGreatDoor

namespace Go.Proofs.YtccejkikphpnfaaGreatDoor
set_option linter.unusedSimpArgs false
set_option linter.unusedVariables false
set_option maxRecDepth 100000
open Go.ChangeShapes Go.WideShapes Go.ChangeAt Go.RowKit

theorem read_any3 (a : Option Addr) (c : Nat) (l : List UInt8) (w : World) (hv : Vw w a l.length c 1 (bvs l)) (hl : l.length ≤ 100000000) :
    Calls Tryz.prog 93 #[.slice a l.length c] w fun e w' => ∃ br F, e = .returned (.pointer (some ⟨br, 0, none⟩)) ∧ Rd w' br F l 0 ∧ Upd (fun _ => False) w w' ∧ w.heap.size ≤ br ∧ (∀ g, F = some g → w.heap.size ≤ g ∧ g < br) := by
  go_enter Tryz.func93, Tryz.ntmps93
  go_wp2_with fail
  refine (clone_any a c l w hv hl).mono ?_
  rintro e w1 ⟨a', c', rfl, hown, hU, hfr, hnil⟩
  have hz := hU.size
  have hvw := Vw.of_own hown
  have hlt : ∀ g, blk a' = some g → w.heap.size ≤ g ∧ g < w1.heap.size := fun g hg => ⟨hfr g hg, (hown.lt g ((own_blk _ _ _).trans hg)).2⟩
  clear hfr
  have Hlt := Lib.hid hlt; clear hlt
  go_wp2_with fail
  go_ret
  refine ⟨w1.heap.size, blk a', rfl, ⟨⟨a', c', heap_alloc_new _ _, hvw.upd (Upd.alloc (fun _ => False) _ _) (fun _ _ h => h), .inr rfl⟩, ?_⟩, hU.trans (Upd.alloc _ _ _), hz, Hlt.out⟩
  intro e; exact absurd (Hlt.out _ e).2 (Nat.lt_irrefl _)

def ReadRoot (w : World) (lb : Nat) (p : Int) (ks : List Ky) (k : Int) (e : Ending) (w' : World) : Prop :=
  ∃ L2 BX a2 c2, e = .returned (.tuple #[.func (.func 96) #[] #[.pointer (some ⟨L2, 0, none⟩), .pointer (some ⟨BX, 0, none⟩)], .int .i64 0]) ∧ w'.heap[L2]? = some (.cells #[.pointer (some ⟨lb, 0, none⟩)] 42) ∧ w'.heap[BX]? = some (.cells (rootA p a2 ks.length c2 k) 26) ∧
    Vw w' a2 ks.length c2 32 (ks.flatMap kyV) ∧ (∀ q, blk a2 = some q → w.heap.size ≤ q) ∧ Upd (fun _ => False) w w'
set_option maxHeartbeats 8000000 in
theorem read_root (lb : Nat) (p : Int) (ks : List Ky) (k : Int) (h : RootIn p ks.length k) (a : Option Addr) (c : Nat) (w : World) (hv : Vw w a (rootL p ks k).length c 1 (bvs (rootL p ks k))) :
    Calls Tryz.prog 57 #[.pointer (some ⟨lb, 0, none⟩), .slice a (rootL p ks k).length c] w (ReadRoot w lb p ks k) := by
  have hLr := rootL_eq p ks k
  have hll : (rootL p ks k).length ≤ 64021 := by have := rootR_len p ks k h.n1; rw [hLr, List.length_append, List.length_singleton]; omega
  have hU0 := Upd.alloc (fun _ => False) w (.cells #[.pointer (some ⟨lb, 0, none⟩)] 42)
  have hb0 := heap_alloc_new w (.cells #[.pointer (some ⟨lb, 0, none⟩)] 42)
  have HI0 := Lib.hid hv
  have HI := Lib.hid (And.intro (hv.upd hU0 (fun _ _ h => h)) (And.intro hb0 hU0))
  have HLr := Lib.hid hLr
  have HR := Lib.hid h
  generalize hLL : rootL p ks k = l at *
  have HLL := Lib.hid hLL
  clear hv hU0 hb0 hLr hLL
  go_enter Tryz.func57, Tryz.ntmps57
  go_upto_region 1 with (fail)
  generalize w.alloc (.cells #[.pointer (some ⟨lb, 0, none⟩)] 42) = y0 at *
  obtain ⟨L2, hL2⟩ : ∃ B, w.heap.size = B := ⟨_, rfl⟩
  rw [hL2] at HI ⊢
  have HB := Lib.hid hL2
  clear hL2
  go_wp2_with fail
  refine (read_any3 a c l y0 HI.out.1 (by omega)).mono ?_
  rintro e w1 ⟨br, F, rfl, hR, hU, hbr, hF⟩
  obtain ⟨BR, hBR⟩ : ∃ B, w1.heap.size = B := ⟨_, rfl⟩
  have hbrl : br < BR := by
    obtain ⟨a9, c9, hh, _⟩ := hR.ex
    rw [← hBR]
    exact lt_of_heap hh
  have hz0 := hU.size
  have hUn := Upd.alloc (fun _ => False) w1 (.cells #[.pointer (some ⟨br, 0, none⟩)] 139)
  have hrow := heap_alloc_new w1 (.cells #[.pointer (some ⟨br, 0, none⟩)] 139)
  have hL2 := ((hU.trans hUn).block L2 (lt_of_heap HI.out.2.1) (fun h => h)).trans HI.out.2.1
  have hltL := lt_of_heap HI.out.2.1
  have hvn := HI.out.1.upd (hU.trans hUn) (fun _ _ h => h)
  have hUw := HI.out.2.2.trans (hU.trans hUn)
  rw [hBR] at hrow
  have HJ := Lib.hid (And.intro (hR.upd hUn (fun h => h) (fun _ _ h => h)) (And.intro hrow (And.intro hL2 (And.intro hvn hUw))))
  have hnum := rnum_any br F ⟨l, 0⟩ 1 _ HJ.out.1 (by show l.length ≤ _; omega)
  have hlt : takeS (heldN 1) ⟨l, 0⟩ = ([1], ⟨rootR p ks k, 0⟩) := by rw [HLr.out]; exact takeS_app' 1 [1] _ rfl
  rw [hlt] at hnum
  have hF2 : ∀ g, F = some g → g < BR := fun g hg => by have := (hF g hg).2; omega
  have hFL : ∀ g, F = some g → L2 < g := fun g hg => by have := (hF g hg).1; omega
  have hbrL : L2 < br := by omega
  have HN := Lib.hid (And.intro hbrl (And.intro hF2 (And.intro hFL hbrL)))
  clear hR hU hbr hF hbrl hz0 hUn hrow hL2 hltL hvn hUw hlt hF2 hFL hbrL HI
  have hln : (leN [1] : Int) = 1 := rfl
  unfold ReadN at hnum
  dsimp only at hnum
  rw [hln] at hnum
  clear hln
  go_upto_region 5 with (fail)
  generalize w1.alloc (.cells #[.pointer (some ⟨br, 0, none⟩)] 139) = w2 at *
  clear hBR
  have q : w2.cell? ⟨BR, 0, none⟩ = some (.pointer (some ⟨br, 0, none⟩)) := by rw [cell_of_row _ _ _ _ _ _ HJ.out.2.1]; rfl
  go_wp2_with fail
  refine hnum.mono ?_
  rintro e w3 ⟨rfl, hR, hU⟩
  have hn1 := HN.out.1
  have hn2 := HN.out.2.2.2
  have hrow := (hU.block BR (lt_of_heap HJ.out.2.1) (by omega)).trans HJ.out.2.1
  have hL2 := (hU.block L2 (lt_of_heap HJ.out.2.2.1) (by omega)).trans HJ.out.2.2.1
  have hBz := lt_of_heap hrow
  have HB' := HB.out
  have hUw : Upd (fun _ => False) w w3 := HJ.out.2.2.2.2.next hU (fun i hi e => by omega)
  have hvn := HJ.out.2.2.2.1
  have hmr := mrroot_any p ks k HR.out br F w3 hR (fun g hg => by have := HN.out.2.1 g hg; omega)
  clear q hnum
  have q : w3.cell? ⟨BR, 0, none⟩ = some (.pointer (some ⟨br, 0, none⟩)) := by rw [cell_of_row _ _ _ _ _ _ hrow]; rfl
  have HK := Lib.hid (And.intro hL2 (And.intro hUw hBz))
  clear hR hU hrow hL2 hUw hBz HB' hvn hn1 hn2
  go_wp2_with fail
  refine hmr.mono ?_
  rintro e w4 ⟨a2, c2, rfl, hown, hfr, hU4⟩
  obtain ⟨BX, hBX⟩ : ∃ B, w4.heap.size = B := ⟨_, rfl⟩
  have hUx := Upd.alloc (fun _ => False) w4 (.cells (rootA p a2 ks.length c2 k) 26)
  have hrx := heap_alloc_new w4 (.cells (rootA p a2 ks.length c2 k) 26)
  rw [hBX] at hrx
  have hv2 := (Vw.of_own hown).upd hUx (fun _ _ h => h)
  have hn1 := HN.out.1
  have hn2 := HN.out.2.2.2
  have hB0 := HB.out
  have hU04 := (HK.out.2.1.next hU4 (fun i hi e => by omega)).trans hUx
  have hL4 := (hUx.block L2 (Nat.lt_of_lt_of_le (lt_of_heap HK.out.1) hU4.size) (fun h => h)).trans ((hU4.block L2 (lt_of_heap HK.out.1) (by omega)).trans HK.out.1)
  have hfr2 : ∀ q, blk a2 = some q → w.heap.size ≤ q := fun q hq => by have := hfr q hq; have := HK.out.2.1.size; omega
  have hvn := HJ.out.2.2.2.1
  have hpk := mPackRoot_any p a2 c2 ks k _ HR.out hv2
  rw [HLL.out] at hpk
  unfold rootA at hUx hrx hpk hU04 hL4 hv2 ⊢
  have HX := Lib.hid (And.intro hL4 (And.intro hrx (And.intro hv2 (And.intro hfr2 hU04))))
  clear hUx hrx hv2 hn1 hn2 hB0 hU04 hL4 hfr2 hvn hmr hown hfr hU4 q HJ
  go_upto_region 8 with (fail)
  generalize w4.alloc (.cells #[.int .i64 p, .slice a2 ks.length c2, .slice none 0 0, .slice none 0 0, .int .i64 k] 26) = w5 at *
  clear hBX
  have hrx := HX.out.2.1
  go_wp2_with (refine wpList_load_row rfl 26 (.tmp 10) rfl BX #[.int .i64 p, .slice a2 ks.length c2, .slice none 0 0, .slice none 0 0, .int .i64 k] 26 (0, 0) _ rfl hrx Tryz.underlying26 rfl (by rw [infoRoot]; rfl) ?_)
  refine hpk.mono ?_
  unfold Packed
  rintro e w6 ⟨a3, c3, rfl, hv3, hf3, hU6⟩
  have hva := HI0.out.upd (HX.out.2.2.2.2.trans hU6) (fun _ _ h => h)
  have hse := slEqB_any a3 a c3 c l l w6 hv3 hva
  have hbb : (l == l) = true := by simp
  rw [hbb] at hse
  have HY := Lib.hid (And.intro ((hU6.block L2 (lt_of_heap HX.out.1) (fun h => h)).trans HX.out.1) (And.intro ((hU6.block BX (lt_of_heap HX.out.2.1) (fun h => h)).trans HX.out.2.1) (And.intro (HX.out.2.2.1.upd hU6 (fun _ _ h => h)) (And.intro HX.out.2.2.2.1 (HX.out.2.2.2.2.trans hU6)))))
  clear hpk hv3 hf3 hU6 hva hrx hbb HX HK HN
  go_wp2_with fail
  refine hse.mono ?_
  rintro e w7 ⟨rfl, hU7⟩
  have HZ := Lib.hid (And.intro ((hU7.block L2 (lt_of_heap HY.out.1) (fun h => h)).trans HY.out.1) (And.intro ((hU7.block BX (lt_of_heap HY.out.2.1) (fun h => h)).trans HY.out.2.1) (And.intro (HY.out.2.2.1.upd hU7 (fun _ _ h => h)) (And.intro HY.out.2.2.2.1 (HY.out.2.2.2.2.trans hU7)))))
  clear hse hU7 HY
  go_wp2_with fail
  go_ret2
  exact ⟨L2, BX, a2, c2, rfl, HZ.out⟩
end Go.Proofs.YtccejkikphpnfaaGreatDoor

namespace Go.Proofs.YtccejkikphpnfaaGreatDoor
set_option linter.unusedSimpArgs false
set_option linter.unusedVariables false
set_option maxRecDepth 100000
open Go.ChangeShapes Go.WideShapes Go.ChangeAt Go.RowKit

theorem LogW.setN {w : World} {lb : Nat} {g : Lg} {A : LA} (h : LogW w lb g A) (m : Int) : LogW (w.setCell ⟨lb, 12, none⟩ (.int .i64 m)) lb ⟨g.rr, g.fs, g.cs, g.top, g.ds, m⟩ A ∧ Upd (fun q => q = lb) w (w.setCell ⟨lb, 12, none⟩ (.int .i64 m)) :=
  h.put (g' := ⟨g.rr, g.fs, g.cs, g.top, g.ds, m⟩) (A' := A) (Upd.refl _ _) 12 (.int .i64 m) (by simp [logA]) h.rr h.fs h.cs h.ds h.n1 h.n2 h.n3 h.n4

/-- A root's record fits behind a log. -/
structure Fits (g : Lg) (ks : List Ky) (k : Int) : Prop where
  inn : RootIn (g.top - 1) ks.length k
  rr : g.rr.length < 2000
  cs : g.cs.length + ks.length ≤ 2000
  fs : g.fs.length ≤ 2000
  t0 : 0 ≤ g.top
  t1 : g.top ≤ 2000
  n0 : 0 ≤ g.n
  n1 : g.n ≤ 100000
def lgRoot (g : Lg) (x : RRow) (ks : List Ky) (m : Int) : Lg := ⟨g.rr ++ [x], g.fs ++ [(g.cs.length : Int)], g.cs ++ ks, (g.rr.length : Int) + 1, [], m⟩
theorem read1_any (g : Lg) (A : LA) (lb L2 BX : Nat) (a : Option Addr) (c : Nat) (ks : List Ky) (k : Int) (w : World) (h : LogW w lb g A) (hF : Fits g ks k) (ha : ∀ q, blk a = some q → q ≠ lb)
    (hL : w.heap[L2]? = some (.cells #[.pointer (some ⟨lb, 0, none⟩)] 42)) (hX : w.heap[BX]? = some (.cells (rootA (g.top - 1) a ks.length c k) 26)) (hv : Vw w a ks.length c 32 (ks.flatMap kyV)) :
    Calls Tryz.prog 96 #[.pointer (some ⟨L2, 0, none⟩), .pointer (some ⟨BX, 0, none⟩)] w fun e w' => e = .returned (.int .i64 0) ∧ ∃ A' x, x.p = g.top - 1 ∧ LogW w' lb (lgRoot g x ks g.n) A' ∧ Upd (fun q => q = lb) w w' := by
  have hadd := addRoot_any g A lb a c ks k w h hF.rr hF.cs hF.fs hF.t0 hF.t1 ha hv
  have q : w.cell? ⟨L2, 0, none⟩ = some (.pointer (some ⟨lb, 0, none⟩)) := by rw [cell_of_row _ _ _ _ _ _ hL]; rfl
  unfold lgRoot
  clear h hF ha hL hv
  go_enter Tryz.func96, Tryz.ntmps96
  go_wp2_with (refine wpList_load_row rfl 26 (.tmp 1) rfl BX (rootA (g.top - 1) a ks.length c k) 26 (0, 0) _ rfl hX Tryz.underlying26 rfl (by rw [infoRoot]; rfl) ?_)
  refine hadd.mono ?_
  rintro e w1 ⟨rfl, A', hL1, hU1⟩
  have HF := Lib.hid (And.intro hL1 hU1)
  clear hadd hL1 hU1 hX q
  go_wp2_with fail
  go_ret
  exact ⟨rfl, A', ⟨g.top - 1, a, ks.length, c, k⟩, rfl, HF.out⟩

set_option maxHeartbeats 4000000 in
theorem add_root (g : Lg) (A : LA) (lb : Nat) (ks : List Ky) (k : Int) (a : Option Addr) (c : Nat) (w : World) (h : LogW w lb g A) (hF : Fits g ks k)
    (hv : Vw w a (rootL (g.top - 1) ks k).length c 1 (bvs (rootL (g.top - 1) ks k))) :
    Calls Tryz.prog 21 #[.pointer (some ⟨lb, 0, none⟩), .slice a (rootL (g.top - 1) ks k).length c] w fun e w' => e = .returned (.int .i64 0) ∧ ∃ A' x, x.p = g.top - 1 ∧ LogW w' lb (lgRoot g x ks (g.n + 1)) A' ∧ Upd (fun q => q = lb) w w' := by
  have hread := read_root lb (g.top - 1) ks k hF.inn a c w hv
  have hw : IntKind.i64.wrap (g.n + 1) = g.n + 1 := IntWalk.i64_in _ (by have := hF.n0; have := hF.n1; omega)
  have HF := Lib.hid hF
  have HL := Lib.hid h
  have hlt := h.lt
  clear h hF hv
  go_enter Tryz.func21, Tryz.ntmps21
  go_wp2_with fail
  refine hread.mono ?_
  rintro e w1 ⟨L2, BX, a2, c2, rfl, hL2, hBX, hv2, hfr, hU⟩
  have hr1 := read1_any g A lb L2 BX a2 c2 ks k w1 (HL.out.other hU) HF.out (fun q hq => by have := hfr q hq; omega) hL2 hBX hv2
  have HU := Lib.hid hU
  clear hread hL2 hBX hv2 hfr hU
  go_wp2_with fail
  refine hr1.mono ?_
  rintro e w2 ⟨rfl, A', x, hx, hL2, hU2⟩
  have HL2 := Lib.hid hL2
  have HU2 := Lib.hid ((HU.out.mono (fun _ _ h => h.elim)).trans hU2)
  have q := hL2.c12
  have f := hL2.free 12
  have hqn : (lgRoot g x ks g.n).n = g.n := rfl
  rw [hqn] at q
  clear hr1 hL2 hU2 hqn
  go_wp2_with fail
  have hfin := HL2.out.setN (g.n + 1)
  have HZ := Lib.hid (And.intro hfin.1 (HU2.out.trans hfin.2))
  clear hfin q f
  go_ret
  exact ⟨rfl, A', x, hx, HZ.out⟩
end Go.Proofs.YtccejkikphpnfaaGreatDoor

namespace Go.Proofs.YtccejkikphpnfaaGreatDoor
set_option linter.unusedSimpArgs false
set_option linter.unusedVariables false
set_option maxRecDepth 100000
open Go.ChangeShapes Go.WideShapes Go.ChangeAt Go.RowKit

theorem ownsRow_set {w : World} {e : TypeId} {g n c : Nat} {xs : List Value} (h : w.ownsRow 0 e 1 (.slice (some ⟨g, 0, none⟩) n c) n xs) (j : Nat) (hj : j < n) (u : Value) :
    (w.setCell ⟨g, j, none⟩ u).ownsRow 0 e 1 (.slice (some ⟨g, 0, none⟩) n c) n (xs.set j u) := by
  rcases h.2 with ⟨hv, _⟩ | ⟨g', cap, cur, hv, hbg, hg, hnc, hcm, hcs, htake⟩
  · cases hv
  · simp only [Value.slice.injEq, Option.some.injEq, Addr.mk.injEq, and_true, true_and] at hv
    obtain ⟨rfl, rfl⟩ := hv
    simp only [Nat.mul_one] at *
    refine ⟨by rw [List.length_set, h.1, Nat.mul_one], .inr ⟨g, c, cur.setIfInBounds j u, rfl, hbg, setCell_heap j u hg, hnc, hcm, by simpa using hcs, ?_⟩⟩
    rw [← htake, Nat.mul_one, Array.toList_setIfInBounds, List.take_set]
theorem ownsRow_at {w : World} {e : TypeId} {g n c : Nat} {xs : List Value} (h : w.ownsRow 0 e 1 (.slice (some ⟨g, 0, none⟩) n c) n xs) (j : Nat) (u : Value) (hu : xs[j]? = some u) : w.cell? ⟨g, j, none⟩ = some u := by
  have hv := Vw.of_own h
  have := hv.cell ⟨g, 0, none⟩ rfl j u hu
  have ha : (Addr.add ⟨g, 0, none⟩ j) = ⟨g, j, none⟩ := by unfold Addr.add; split <;> simp_all
  rwa [ha] at this
theorem ownsRow_free {w : World} {e : TypeId} {g n c : Nat} {xs : List Value} (h : w.ownsRow 0 e 1 (.slice (some ⟨g, 0, none⟩) n c) n xs) (j : Nat) (hj : j < n) : w.frozen? ⟨g, j, none⟩ = false := by
  rcases h.2 with ⟨hv, _⟩ | ⟨g', cap, cur, hv, hbg, hg, hnc, hcm, hcs, htake⟩
  · cases hv
  · simp only [Value.slice.injEq, Option.some.injEq, Addr.mk.injEq, and_true, true_and] at hv
    obtain ⟨rfl, rfl⟩ := hv
    simp [World.frozen?, hg]
structure RevAt (xs : List Int) (t : Nat) (ys : List Int) : Prop where
  len : ys.length = xs.length
  val : ∀ k, k < xs.length → ys[k]? = if k < t ∨ xs.length ≤ k + t then xs[xs.length - 1 - k]? else xs[k]?
theorem RevAt.step {xs ys : List Int} {t : Nat} (h : RevAt xs t ys) (ht : t < xs.length - 1 - t) (x y : Int) (hx : xs[t]? = some x) (hy : xs[xs.length - 1 - t]? = some y) : RevAt xs (t + 1) ((ys.set t y).set (xs.length - 1 - t) x) := by
  refine ⟨by simp [h.len], fun k hk => ?_⟩
  have hl := h.len
  rw [List.getElem?_set, List.getElem?_set, List.length_set]
  by_cases h1 : xs.length - 1 - t = k
  · rw [if_pos h1, if_pos (by omega), if_pos (by omega), ← h1, show xs.length - 1 - (xs.length - 1 - t) = t from by omega, hx]
  · rw [if_neg h1]
    by_cases h2 : t = k
    · rw [if_pos h2, if_pos (by omega), if_pos (by omega), ← h2, hy]
    · rw [if_neg h2, h.val k hk]
      by_cases h3 : k < t ∨ xs.length ≤ k + t
      · rw [if_pos h3, if_pos (by omega)]
      · rw [if_neg h3, if_neg (by omega)]
theorem RevAt.fin {xs ys : List Int} {t : Nat} (h : RevAt xs t ys) (ht : xs.length ≤ 2 * t + 1) : ys = xs.reverse := by
  apply List.ext_getElem?
  intro k
  have hl := h.len
  by_cases hk : k < xs.length
  · rw [h.val k hk, List.getElem?_reverse hk]
    split
    · rfl
    · rename_i h3
      have : xs.length - 1 - k = k := by omega
      rw [this]
  · rw [List.getElem?_eq_none (by omega), List.getElem?_eq_none (by simp; omega)]

set_option maxHeartbeats 4000000 in
theorem rev_any (a : Option Addr) (c : Nat) (xs : List Int) (w : World) (h : w.ownsRow 0 3 1 (.slice a xs.length c) xs.length (xs.map iv)) (hl : xs.length ≤ 100000) :
    Calls Tryz.prog 64 #[.slice a xs.length c] w fun e w' => e = .returned (.tuple #[]) ∧ w'.ownsRow 0 3 1 (.slice a xs.length c) xs.length (xs.reverse.map iv) ∧ Upd (fun q => blk a = some q) w w' := by
  have hw : IntKind.i64.wrap ((xs.length : Int) - 1) = (xs.length : Int) - 1 := IntWalk.i64_in _ (by omega)
  have hlv := (Vw.of_own h).le
  have hcv := (Vw.of_own h).cap
  unfold maxLen at hcv
  have HO := Lib.hid h
  clear h
  go_enter Tryz.func64, Tryz.ntmps64
  go_wp2_with fail
  go_loopw [2, 3] (fun i j wr => ∃ (t : Nat) (ys : List Int), t ≤ xs.length ∧ i = .int .i64 (t : Int) ∧ j = .int .i64 ((xs.length : Int) - 1 - (t : Int)) ∧ Hid (RevAt xs t ys ∧ wr.ownsRow 0 3 1 (.slice a xs.length c) xs.length (ys.map iv) ∧ Upd (fun q => blk a = some q) w wr)) (fun i _ _ => xs.length - (intOf i).toNat)
  case atStart => exact ⟨0, xs, Nat.zero_le _, rfl, by simp, Lib.hid ⟨⟨rfl, fun k hk => by simp; omega⟩, HO.out, Upd.refl _ _⟩⟩
  case round =>
    clear HO
    obtain ⟨t, ys, ht, rfl, rfl, HI⟩ := hrel
    by_cases hlt : t < xs.length - 1 - t
    · have hI : (t : Int) < (xs.length : Int) - 1 - (t : Int) := by omega
      have hI0 : (0 : Int) ≤ (t : Int) := by omega
      have hI1 : (t : Int) < (xs.length : Int) := by omega
      have hI2 : (0 : Int) ≤ (xs.length : Int) - 1 - (t : Int) := by omega
      have hI3 : (xs.length : Int) - 1 - (t : Int) < (xs.length : Int) := by omega
      have hj : ((xs.length : Int) - 1 - (t : Int)).toNat = xs.length - 1 - t := by omega
      obtain ⟨g, rfl⟩ : ∃ g, a = some ⟨g, 0, none⟩ := by
        rcases HI.out.2.1.2 with ⟨hv, _⟩ | ⟨g, cap, cur, hv, _⟩
        · simp only [Value.slice.injEq] at hv; omega
        · simp only [Value.slice.injEq] at hv; exact ⟨g, hv.1⟩
      have hq := And.intro (RevAt.val HI.out.1 t (by omega)) (RevAt.val HI.out.1 (xs.length - 1 - t) (by omega))
      rw [if_neg (by omega), if_neg (by omega)] at hq
      obtain ⟨x, hx⟩ : ∃ x, xs[t]? = some x := ⟨_, List.getElem?_eq_getElem (by omega)⟩
      obtain ⟨y, hy⟩ : ∃ y, xs[xs.length - 1 - t]? = some y := ⟨_, List.getElem?_eq_getElem (by omega)⟩
      have hc1 : wr.cell? ⟨g, t, none⟩ = some (.int .i64 x) := ownsRow_at HI.out.2.1 t _ (by simp [hq.1, hx, iv])
      have hc2 : wr.cell? ⟨g, xs.length - 1 - t, none⟩ = some (.int .i64 y) := ownsRow_at HI.out.2.1 (xs.length - 1 - t) _ (by simp [hq.2, hy, iv])
      have hf1 := ownsRow_free HI.out.2.1 t (by omega)
      have hf2 := ownsRow_free HI.out.2.1 (xs.length - 1 - t) (by omega)
      obtain ⟨j, hjj⟩ : ∃ j, xs.length - 1 - t = j := ⟨_, rfl⟩
      have hjI : (xs.length : Int) - 1 - (t : Int) = (j : Int) := by omega
      have hne : t ≠ j := by omega
      have hlast := HI.out.2.1
      have hstep := HI.out.1.step hlt x y hx hy
      have ho2 := ownsRow_set (ownsRow_set HI.out.2.1 t (by omega) (.int .i64 y)) (xs.length - 1 - t) (by omega) (.int .i64 x)
      have hU2 : Upd (fun q => blk (some (⟨g, 0, none⟩ : Addr)) = some q) w ((wr.setCell ⟨g, t, none⟩ (.int .i64 y)).setCell ⟨g, xs.length - 1 - t, none⟩ (.int .i64 x)) :=
        (HI.out.2.2.trans (Upd.setCell (S := fun q => blk (some (⟨g, 0, none⟩ : Addr)) = some q) wr (by rfl) _)).trans (Upd.setCell (S := fun q => blk (some (⟨g, 0, none⟩ : Addr)) = some q) _ (by rfl) _)
      rw [hjj] at hc2 hf2 ho2 hU2 hstep
      rw [hjI]
      rw [hjI] at hI hI2 hI3
      have hd1 : IntKind.i64.wrap ((t : Int) + 1) = (t : Int) + 1 := IntWalk.i64_in _ (by omega)
      have hd2 : IntKind.i64.wrap ((j : Int) - 1) = (j : Int) - 1 := IntWalk.i64_in _ (by omega)
      have HX := Lib.hid (And.intro hstep (And.intro ho2 (And.intro hU2 (And.intro hjj hjI))))
      clear hstep ho2 hU2 hjj hjI hlast hq hx hy hj HI hlt
      have hap : (⟨g, t, none⟩ : Addr) ≠ ⟨g, j, none⟩ := fun e => by cases e; exact hne rfl
      go_upto_region 3 with (fail)
      go_region
      go_wp2_with fail
      go_roundw
      case rel => exact ⟨t + 1, _, by omega, by first | rfl | go_num, by rw [← HX.out.2.2.2.2]; congr 1; omega, Lib.hid ⟨HX.out.1, by have := ownsRow_upd HX.out.2.1 (Upd.drew (fun _ => False) _) (fun _ _ h => h); simpa [iv, List.map_set] using this, HX.out.2.2.1.trans (Upd.drew _ _)⟩⟩
      case measure => simp [intOf]; omega
    · have hI : ¬ (t : Int) < (xs.length : Int) - 1 - (t : Int) := by omega
      have hfin := HI.out.1.fin (by omega)
      have hr := HI.out.2.1
      rw [hfin] at hr
      have HF := Lib.hid (And.intro hr HI.out.2.2)
      clear hfin hr HI hlt
      go_wp2_with fail
      go_end0
      refine ⟨rfl, ?_, HF.out.2⟩
      have := HF.out.1
      rw [List.map_reverse] at this
      exact this
end Go.Proofs.YtccejkikphpnfaaGreatDoor

namespace Go.Proofs.YtccejkikphpnfaaGreatDoor
set_option linter.unusedSimpArgs false
set_option linter.unusedVariables false
set_option maxRecDepth 100000
open Go.ChangeShapes Go.WideShapes Go.ChangeAt Go.RowKit

/-- From the root i back, each one's elder: these. -/
def Chain (rr : List RRow) : Int → List Int → Prop
  | i, [] => i < 0
  | i, j :: L => j = i ∧ 0 ≤ i ∧ ∃ x, rr[i.toNat]? = some x ∧ Chain rr x.p L
theorem Chain.small {rr : List RRow} {i : Int} {L : List Int} (h : Chain rr i L) (hb : -1 ≤ i) : -1 ≤ i ∧ i < rr.length := by
  cases L with
  | nil => have : i < 0 := h; omega
  | cons j L =>
    obtain ⟨h1, h2, x, hx, _⟩ := h
    have := (List.getElem?_eq_some_iff.1 hx).1
    omega
theorem rr_get (rr : List RRow) (i : Nat) (x : RRow) (hx : rr[i]? = some x) : (rr.flatMap rrV)[i * 5 + 0]? = some (.int .i64 x.p) := by
  rw [flatMap_get rrV 5 rrV_len rr i 0 (by decide), hx]; rfl

set_option maxHeartbeats 4000000 in
theorem mLine_any (g : Lg) (A : LA) (lb : Nat) (L : List Int) (w : World) (h : LogW w lb g A) (hch : Chain g.rr (g.top - 1) L) (ht0 : 0 ≤ g.top) (ht1 : g.top ≤ 2000) (hL : L.length ≤ 100000) :
    Calls Tryz.prog 26 #[.pointer (some ⟨lb, 0, none⟩)] w fun e w' => ∃ a c, e = .returned (.slice a L.length c) ∧ w'.ownsRow 0 3 1 (.slice a L.length c) L.length (L.reverse.map iv) ∧ (∀ q, blk a = some q → w.heap.size ≤ q) ∧ Upd (fun _ => False) w w' := by
  have hat := mAt_any h ht0 (by omega)
  obtain ⟨ra, rc, fa, fc, ka, kc, da, dc⟩ := A
  obtain ⟨rr, fs, cs, top, ds, n⟩ := g
  dsimp only at *
  have HL := Lib.hid h
  have HCH := Lib.hid hch
  have hcap := h.rr.cap
  have hlr := h.rr.le
  unfold maxLen at hcap
  dsimp only at hcap hlr
  clear h hch
  go_enter Tryz.func26, Tryz.ntmps26
  go_wp2_with fail
  refine hat.mono ?_
  rintro e w' ⟨rfl, rfl⟩
  clear hat
  go_wp2_with fail
  go_loopw [3, 4] (fun o i wr => ∃ (D R : List Int) (a' : Option Addr) (c' : Nat) (v : Int), Hid (D ++ R = L ∧ Chain rr v R) ∧ o = .slice a' D.length c' ∧ i = .int .i64 v ∧ Hid (wr.ownsRow 0 3 1 (.slice a' D.length c') D.length (D.map iv) ∧ (∀ q, blk a' = some q → w.heap.size ≤ q) ∧ Upd (fun _ => False) w wr)) (fun o _ _ => L.length - (match o with | .slice _ n _ => n | _ => 0))
  case atStart => exact ⟨[], L, none, 0, top - 1, Lib.hid ⟨rfl, HCH.out⟩, rfl, rfl, Lib.hid ⟨World.ownsRow_nil _ _ _ _, (fun q e => by cases e), Upd.refl _ _⟩⟩
  case round =>
    clear HCH
    obtain ⟨D, R, a', c', v, HC, rfl, rfl, HI⟩ := hrel
    cases R with
    | nil =>
      have hv : v < 0 := HC.out.2
      have hI : decide ((0 : Int) ≤ v) = false := by rw [decide_eq_false_iff_not]; omega
      have hDL : D = L := by have := HC.out.1; rwa [List.append_nil] at this
      subst hDL
      have hrev := rev_any a' c' D wr HI.out.1 hL
      have HF := Lib.hid HI.out.2
      clear HC HI
      go_wp2_with fail
      refine hrev.mono ?_
      rintro e w2 ⟨rfl, hown, hU⟩
      have HZ := Lib.hid (And.intro hown (HF.out.2.next hU (fun i hi e => by have := HF.out.1 i e; omega)))
      clear hrev hown hU
      go_wp2_with fail
      go_ret
      exact ⟨a', c', rfl, HZ.out.1, HF.out.1, HZ.out.2⟩
    | cons j R =>
      obtain ⟨hDR, hjv, h0, x, hx, hch⟩ := HC.out
      subst hjv
      have hlen := (List.getElem?_eq_some_iff.1 hx).1
      have hDl : D.length ≤ 100000 := by have := congrArg List.length hDR; rw [List.length_append] at this; omega
      have hI2 : j < (rr.length : Int) := by omega
      have hLw := HL.out.other HI.out.2.2
      obtain ⟨b, o, hb, hcell⟩ := hLw.rr.at (by show 0 < rr.length; omega) (by decide)
      dsimp only at hb
      subst hb
      have q0 := hLw.c0
      dsimp only at q0
      have hq := hcell (j.toNat * 5 + 0) _ (rr_get rr j.toNat x hx)
      rw [Nat.add_zero] at hq
      have HX := Lib.hid (And.intro hDR (And.intro hx hch))
      have hmeas : D.length < L.length := by rw [← hDR, List.length_append, List.length_cons]; omega
      obtain ⟨i0, hi, hz0, hz1, hz2⟩ := info_parts4 infoIntZ
      have HIX := Lib.hid (And.intro hi (And.intro hz0 (And.intro hz1 hz2)))
      clear hi hz0 hz1 hz2 hDR hx hch HC
      have hUa := Upd.alloc (fun _ => False) wr (.cells #[.int .i64 j] 3)
      have hown1 := ownsRow_upd HI.out.1 hUa (fun _ _ h => h)
      have hsrc := int_src wr j
      clear q0 hq hcell hLw
      go_upto_region 6 with (fail)
      go_wp2_with (at_builtin; refine wpList_app _ rfl (.tmp 19) (.tmp 21) 49 49 rfl 3 i0 (.int .i64 0) 1 8 Tryz.underlying49 HIX.out.1 HIX.out.2.1 HIX.out.2.2.1 HIX.out.2.2.2 rfl a' D.length c' (D.map iv) rfl hown1 (.slice (some ⟨wr.heap.size, 0, none⟩) 1 1) 1 [iv j] rfl hsrc ?_ ?_ ?_)
      · unfold maxLen; omega
      · omega
      intro a8 c8 w8 hown8 hg8 hat8 hnil8
      have hU8 : Upd (fun _ => False) w w8 := (HI.out.2.2.trans hUa).next (Upd.grown (S := fun k => blk a' = some k) hg8 (fun k hk => hk)) (fun i hi e => by have := HI.out.2.1 i e; omega)
      have hz8 := hUa.size
      have hzw := HI.out.2.2.size
      have hf8 : ∀ q, blk a8 = some q → w.heap.size ≤ q := fun q hq => by
        rcases hat8 with e | e
        · exact HI.out.2.1 q (e.symm.trans hq)
        · rw [e] at hq; cases hq; omega
      have hLw8 := HL.out.other hU8
      obtain ⟨b2, o2, hb2, hcell2⟩ := hLw8.rr.at (by show 0 < rr.length; omega) (by decide)
      dsimp only at hb2
      cases hb2
      have q0 := hLw8.c0
      dsimp only at q0
      have hq := hcell2 (j.toNat * 5 + 0) _ (rr_get rr j.toNat x HX.out.2.1)
      rw [Nat.add_zero] at hq
      have HN := Lib.hid (And.intro hown8 (And.intro hf8 hU8))
      clear hown8 hg8 hat8 hnil8 hU8 hz8 hzw hf8 hLw8 hcell2 hUa hown1 hsrc
      go_wp2_with fail
      go_roundw
      case rel => exact ⟨D ++ [j], R, a8, c8, x.p, Lib.hid ⟨by rw [← HX.out.1]; simp, HX.out.2.2⟩, by simp, rfl, Lib.hid ⟨by have := HN.out.1; simpa [iv] using this, HN.out.2⟩⟩
      case measure => simp; omega
end Go.Proofs.YtccejkikphpnfaaGreatDoor

namespace Go.Proofs.YtccejkikphpnfaaGreatDoor
set_option linter.unusedSimpArgs false
set_option linter.unusedVariables false
set_option maxRecDepth 100000
open Go.ChangeShapes Go.WideShapes Go.ChangeAt Go.RowKit

theorem iv_get (l : List Int) (j : Nat) (h : j < l.length) : (l.map iv)[j]? = some (.int .i64 l[j]) := by simp [iv, h]
theorem take_succ_getI (l : List Int) (j : Nat) (h : j < l.length) : l.take (j + 1) = l.take j ++ [l[j]] := List.take_succ_eq_append_getElem h
theorem eqlI_any (x y : Int) (w : World) : Calls Tryz.prog 68 #[.int .i64 x, .int .i64 y] w fun e w' => e = .returned (.bool (x == y)) ∧ w = w' := by
  go_enter Tryz.func68, Tryz.ntmps68
  go_wp2
  go_ret
  exact ⟨rfl, rfl⟩
set_option maxRecDepth 100000 in
set_option maxHeartbeats 1000000 in
theorem sameI_any (a a2 : Option Addr) (c c2 : Nat) (l k : List Int) (w : World) (hv : Vw w a l.length c 1 (l.map iv)) (hv2 : Vw w a2 k.length c2 1 (k.map iv)) :
    Calls Tryz.prog 67 #[.slice a l.length c, .slice a2 k.length c2, .func (.func 68) #[] #[]] w fun e w' => e = .returned (.bool (l == k)) ∧ Upd (fun _ => False) w w' := by
  have hcap := hv.cap
  have hlc := hv.le
  have hcap2 := hv2.cap
  have hlc2 := hv2.le
  unfold maxLen at hcap hcap2
  by_cases hlen : l.length = k.length
  · have hb : ((l.length : Int) != (k.length : Int)) = false := by simp [hlen]
    have HL := Lib.hid hlen
    clear hlen
    go_enter Tryz.func67, Tryz.ntmps67
    go_wp2_with fail
    go_loopw [7] (fun i wr => ∃ j : Nat, j ≤ l.length ∧ i = .int .i64 (j : Int) ∧ Upd (fun _ => False) w wr ∧ Hid (l.take j = k.take j)) (fun i _ => l.length - (intOf i).toNat)
    case atStart => exact ⟨0, Nat.zero_le _, rfl, Upd.refl _ _, rfl⟩
    case round =>
      obtain ⟨j, hj, rfl, hU, hE⟩ := hrel
      have hvr := hv.upd hU (fun _ _ h => h)
      have hvr2 := hv2.upd hU (fun _ _ h => h)
      by_cases hlt : j < l.length
      · have hlt2 : j < k.length := by have := HL.out; omega
        obtain ⟨b, off, rfl, hcell⟩ := hvr.at (by omega) (by decide)
        obtain ⟨b2, off2, rfl, hcell2⟩ := hvr2.at (by omega) (by decide)
        have hce : wr.cell? ⟨b, off + j, none⟩ = some (.int .i64 l[j]) := hcell j _ (iv_get l j hlt)
        have hce2 : wr.cell? ⟨b2, off2 + j, none⟩ = some (.int .i64 k[j]) := hcell2 j _ (iv_get k j hlt2)
        have hI : (j : Int) < (l.length : Int) := by omega
        have hI2 : (j : Int) < (k.length : Int) := by omega
        have hI0 : (0 : Int) ≤ (j : Int) := by omega
        by_cases hxy : l[j] = k[j]
        · have hbe : (l[j] == k[j]) = true := by simpa using hxy
          have HX := Lib.hid hxy; clear hxy
          go_wp2_with fail
          go_quiet ((go_at_call 68; exact Calls.quiet_of_same ((eqlI_any _ _ _).mono fun e w' h => ⟨h.1, h.2.symm⟩)))
          go_wp2_with fail
          go_roundw
          case rel => exact ⟨j + 1, by omega, by go_num, hU.trans (Upd.drewN _ _ _), by show _ = _; rw [take_succ_getI l j hlt, take_succ_getI k j hlt2, hE.out, HX.out]⟩
          case measure => simp [intOf]; omega
        · have hbe : (l[j] == k[j]) = false := by simpa using hxy
          have hne : (l == k) = false := by
            cases h : l == k
            · rfl
            · have e := eq_of_beq h
              exact absurd (by subst e; rfl) hxy
          have HNE := Lib.hid hne; clear hne hxy
          go_wp2_with fail
          go_quiet ((go_at_call 68; exact Calls.quiet_of_same ((eqlI_any _ _ _).mono fun e w' h => ⟨h.1, h.2.symm⟩)))
          go_wp2_with fail
          go_ret
          exact ⟨by rw [HNE.out]; rfl, hU.trans (Upd.drewN _ _ _)⟩
      · have hI : ¬ (j : Int) < (l.length : Int) := by omega
        have heq : (l == k) = true := by
          have := hE.out
          rw [List.take_of_length_le (by omega), List.take_of_length_le (by have := HL.out; omega)] at this
          simpa using this
        have HE := Lib.hid heq; clear heq
        go_wp2_with fail
        go_ret
        exact ⟨by rw [HE.out]; rfl, hU⟩
  · have hb : ((l.length : Int) != (k.length : Int)) = true := by simp; omega
    have hne : (l == k) = false := by
      cases h : l == k
      · rfl
      · exact absurd (by rw [eq_of_beq h]) hlen
    have HNE := Lib.hid hne; clear hne hlen
    go_enter Tryz.func67, Tryz.ntmps67
    go_wp2_with fail
    go_ret
    exact ⟨by rw [HNE.out]; rfl, Upd.refl _ _⟩
theorem plainI_any (a a2 : Option Addr) (c c2 : Nat) (l k : List Int) (w : World) (hv : Vw w a l.length c 1 (l.map iv)) (hv2 : Vw w a2 k.length c2 1 (k.map iv)) :
    Calls Tryz.prog 29 #[.slice a l.length c, .slice a2 k.length c2] w fun e w' => e = .returned (.bool (l == k)) ∧ Upd (fun _ => False) w w' := by
  go_enter Tryz.func29, Tryz.ntmps29
  go_wp2_with (go_at_call 67; refine (sameI_any a a2 c c2 l k w hv hv2).mono ?_; rintro e w1 ⟨rfl, hU⟩)
  go_ret
  exact ⟨rfl, hU⟩

set_option maxHeartbeats 4000000 in
theorem awake21_any (w : World) : Calls Tryz.prog 10 #[] w fun e w' => e = .returned (.bool true) ∧ Upd (fun _ => False) w w' := by
  have hpk := mPackRoot_any (-1) none 0 [] (-1) w ⟨by decide, by decide, by decide, by decide, by decide⟩ (Vw.nl _ _)
  unfold rootA at hpk
  dsimp only [List.length_nil] at hpk
  go_enter Tryz.func10, Tryz.ntmps10
  go_wp2_with fail
  refine hpk.mono ?_
  unfold Packed
  rintro e w1 ⟨a, c, rfl, hv, hf, hU⟩
  have hnew := mNew_any w1
  have HV := Lib.hid (And.intro hv hU)
  clear hpk hv hf hU
  go_wp2_with fail
  refine hnew.mono ?_
  rintro e w2 ⟨lb, rfl, hL, hU2, hlb⟩
  have hat := mAt_any hL (by decide) (by decide)
  have hadd := add_root ⟨[], [], [], 0, [], 0⟩ _ lb [] (-1) a c w2 hL ⟨⟨by decide, by decide, by decide, by decide, by decide⟩, by decide, by decide, by decide, by decide, by decide, by decide, by decide⟩ (HV.out.1.upd hU2 (fun _ _ h => h))
  have HU2 := Lib.hid (HV.out.2.trans hU2)
  have hlbw : w.heap.size ≤ lb := Nat.le_trans HV.out.2.size hlb
  try dsimp only at hat
  try dsimp only at hadd
  rw [show (0 : Int) - 1 = -1 from rfl] at hat hadd
  clear hnew hL hU2 hlb
  go_wp2_with fail
  refine hat.mono ?_
  rintro e w' ⟨rfl, rfl⟩
  clear hat
  go_wp2_with fail
  refine hadd.mono ?_
  rintro e w3 ⟨rfl, A', x, hx, hL, hU3⟩
  try dsimp only at hx
  have htop : (lgRoot ⟨[], [], [], 0, [], 0⟩ x [] (0 + 1)).top = 1 := rfl
  have hat := mAt_any hL (by rw [htop]; decide) (by rw [htop]; decide)
  have hrec := mRecords_any hL
  have hline := mLine_any _ _ lb [0] w3 hL ⟨rfl, by rw [htop]; decide, x, rfl, by show x.p < 0; rw [hx]; decide⟩ (by rw [htop]; decide) (by rw [htop]; decide) (by decide)
  have HU3 := Lib.hid (HU2.out.next hU3 (fun i hi e => by omega))
  rw [show (lgRoot ⟨[], [], [], 0, [], 0⟩ x [] (0 + 1)).top - 1 = 0 from rfl] at hat
  rw [show (lgRoot ⟨[], [], [], 0, [], 0⟩ x [] (0 + 1)).n = 1 from rfl] at hrec
  dsimp only [List.length_cons, List.length_nil, List.reverse_cons, List.reverse_nil, List.nil_append] at hline
  clear hadd hL hU3 hx htop
  go_wp2_with fail
  refine hat.mono ?_
  rintro e w' ⟨rfl, rfl⟩
  clear hat
  go_wp2_with fail
  refine hrec.mono ?_
  rintro e w' ⟨rfl, rfl⟩
  clear hrec
  go_wp2_with fail
  refine hline.mono ?_
  rintro e w4 ⟨a4, c4, rfl, hown, hfr, hU4⟩
  have hUl := Upd.alloc (fun _ => False) w4 (.cells #[.int .i64 0] 3)
  have hvl : Vw (w4.alloc (.cells #[.int .i64 0] 3)) (some ⟨w4.heap.size, 0, none⟩) ([0] : List Int).length 1 1 (([0] : List Int).map iv) := by
    refine ⟨by simp, Nat.le_refl _, by decide, (fun h => by cases h), fun y hy j u hu => ?_⟩
    cases hy
    have ha : (Addr.add ⟨w4.heap.size, 0, none⟩ j) = ⟨w4.heap.size, j, none⟩ := by unfold Addr.add; split <;> simp_all
    rw [ha, cell_of_row _ _ _ _ _ _ (heap_alloc_new _ _)]
    simpa [iv] using hu
  have hpl := plainI_any a4 (some ⟨w4.heap.size, 0, none⟩) c4 1 [0] [0] _ ((Vw.of_own hown).upd hUl (fun _ _ h => h)) hvl
  have hb : (([0] : List Int) == [0]) = true := rfl
  rw [hb] at hpl
  dsimp only [List.length_cons, List.length_nil] at hpl
  have HU4 := Lib.hid (HU3.out.trans (hU4.trans hUl))
  clear hline hown hfr hU4 hUl hvl hb
  go_wp2_with fail
  refine hpl.mono ?_
  rintro e w5 ⟨rfl, hU5⟩
  have HU5 := Lib.hid (HU4.out.trans hU5)
  clear hpl hU5
  go_wp2_with fail
  go_ret
  exact ⟨rfl, HU5.out⟩
end Go.Proofs.YtccejkikphpnfaaGreatDoor

namespace Go.Proofs.YtccejkikphpnfaaGreatDoor
set_option linter.unusedSimpArgs false
set_option linter.unusedVariables false
set_option maxRecDepth 100000
open Go.ChangeShapes Go.WideShapes Go.ChangeAt Go.RowKit

theorem key_vw {w : World} {b o : Nat} {k : List UInt8} (hk : k.length = 32) (hr : w.rangeAt b o (bvs k)) : Vw w (some ⟨b, o, none⟩) 32 32 1 (bvs k) := by
  refine ⟨by rw [bvs_length, hk], Nat.le_refl _, by decide, (fun h => by cases h), fun x hx j u hu => ?_⟩
  cases hx
  have := hr j u hu
  unfold Addr.add
  split
  · rename_i h; subst h; exact this
  · exact this
theorem key_src {w : World} {b o : Nat} {k : List UInt8} (hk : k.length = 32) (hr : w.rangeAt b o (bvs k)) : Src Tryz.prog 1 33 (.slice (some ⟨b, o, none⟩) 32 32) 32 (bvs k) w :=
  (key_vw hk hr).src (P := Tryz.prog) (t := 33) Tryz.underlying33 (bvs_cells k)
/-- What an append of m cells behind a list leaves. -/
theorem app_next {B : Nat} {w w1 w2 : World} {a1 a2 : Option Addr} {L k : List UInt8} {m c2 : Nat} (hU : Upd (fun _ => False) w w1) (hB : B = w.heap.size) (hf : ∀ g, blk a1 = some g → B ≤ g) (hk : k.length = m)
    (hown2 : w2.ownsRow 0 5 1 (.slice a2 (L.length + m) c2) (L.length + m) (bvs L ++ bvs k)) (hg2 : w1.grownBy w2 (blk a1)) (hat2 : blk a2 = blk a1 ∨ blk a2 = some w1.heap.size) :
    w2.ownsRow 0 5 1 (.slice a2 (L ++ k).length c2) (L ++ k).length (bvs (L ++ k)) ∧ Upd (fun _ => False) w w2 ∧ (∀ g, blk a2 = some g → B ≤ g) := by
  have hz := hU.size
  refine ⟨?_, ?_, ?_⟩
  · rw [List.length_append, hk, bvs_append]; exact hown2
  · refine hU.next (Upd.grown (S := fun k => blk a1 = some k) hg2 (fun k hk => hk)) (fun i hi hs => ?_)
    have := hf i hs
    omega
  · intro g hg'
    rcases hat2 with h | h
    · exact hf g (h.symm.trans hg')
    · rw [h] at hg'; cases hg'; omega

theorem lit_own (w : World) (x : UInt8) : (w.alloc (.cells #[.int .u8 (x.toNat : Int)] 5)).ownsRow 0 5 1 (.slice (some ⟨w.heap.size, 0, none⟩) 1 1) 1 [.int .u8 (x.toNat : Int)] :=
  World.ownsRow_lit (base := 0) (e := 5) (size := 1) w #[.int .u8 (x.toNat : Int)] 1 (Nat.zero_le _) (by decide) rfl
theorem r21PackMove_any (v : Int) (redo : Bool) (w : World) : Calls Tryz.prog 17 #[.int .i64 v, .bool redo] w (Made w (moveL v redo)) := by
  have hown : (w.alloc (.cells #[.int .u8 2] 5)).ownsRow 0 5 1 (.slice (some ⟨w.heap.size, 0, none⟩) 1 1) 1 (bvs [2]) := lit_own w 2
  have hUa := Upd.alloc (fun _ => False) w (.cells #[.int .u8 2] 5)
  have hint := refInt_any (some ⟨w.heap.size, 0, none⟩) 1 [2] v _ (Vw.of_own hown) (by decide)
  have HD : Hid (moveL v redo = [2] ++ i4 v ++ b1 redo) := Lib.hid rfl
  generalize moveL v redo = LL at *
  have HU := Lib.hid hUa
  clear hown hUa
  dsimp only [List.length_cons, List.length_nil] at hint
  go_enter Tryz.func17, Tryz.ntmps17
  go_wp2_with fail
  refine hint.mono ?_
  rintro e w1 ⟨a1, c1, rfl, hown, hU, hf, hnil⟩
  have hl : (([2] : List UInt8) ++ i4 v).length ≤ 5 := by rw [List.length_append, i4_length]; simp
  have hbo := refBool_any a1 c1 _ redo w1 (Vw.of_own hown) (by omega)
  rw [← HD.out] at hbo
  have HU1 := Lib.hid (HU.out.trans hU)
  generalize ([2] : List UInt8) ++ i4 v = l1 at *
  clear hint hown hU hf hnil hl
  go_wp2_with fail
  refine hbo.mono ?_
  rintro e w2 ⟨a2, c2, rfl, hown, hU, hf, hnil⟩
  have hz := HU1.out.size
  have HZ := Lib.hid (And.intro (Vw.of_own hown) (And.intro (fun g (hg : blk a2 = some g) => And.intro (Nat.le_trans hz (hf g hg)) (hown.lt g ((own_blk _ _ _).trans hg)).2) (HU1.out.trans hU)))
  clear hbo hown hU hf hnil hz
  go_wp2_with fail
  go_ret
  exact ⟨a2, c2, rfl, HZ.out⟩

set_option maxHeartbeats 8000000 in
theorem r21PackRoot_any (p : Int) (a : Option Addr) (c : Nat) (ks : List Ky) (k : Int) (w : World) (h : RootIn p ks.length k) (hv : Vw w a ks.length c 32 (ks.flatMap kyV)) :
    Calls Tryz.prog 12 #[.agg (rootA p a ks.length c k)] w (Packed w (rootL p ks k) 0) := by
  have hU1 := Upd.alloc (fun _ => False) w (.cells (rootA p a ks.length c k) 26)
  have hrow := heap_alloc_new w (.cells (rootA p a ks.length c k) 26)
  have hmr := rootMay_ok p a ks.length c k (w.alloc (.cells (rootA p a ks.length c k) 26)) h
  have hv1 := hv.upd hU1 (fun _ _ h => h)
  unfold rootA at hU1 hrow hmr hv1 ⊢
  have HP := Lib.hid (And.intro hU1 (And.intro hrow hv1))
  have hn := h.n1
  have HD : Hid (rootL p ks k = [1] ++ i4 p ++ i4 ks.length ++ kysB ks ++ i4 0 ++ i4 0 ++ i4 k) := Lib.hid rfl
  generalize rootL p ks k = LL at *
  clear hU1 hrow hv1 hv h
  go_enter Tryz.func12, Tryz.ntmps12
  go_upto_region 1 with (fail)
  obtain ⟨hU1, hrow, hv1⟩ := HP.out
  generalize w.alloc (.cells #[.int .i64 p, .slice a ks.length c, .slice none 0 0, .slice none 0 0, .int .i64 k] 26) = y0 at *
  obtain ⟨RB, hRB⟩ : ∃ B, w.heap.size = B := ⟨_, rfl⟩
  rw [hRB] at hrow ⊢
  have HB : Hid (w.heap.size = RB) := Lib.hid hRB
  have HU0 := Lib.hid hU1
  have HR0 := Lib.hid hrow
  have hz0 := lt_of_heap hrow
  have HZ0 := Lib.hid hz0
  clear hRB hU1 hz0
  have hrow' := hrow
  clear hrow
  have HV0 := Lib.hid hv1
  clear hv1 HP
  go_wp2_with (refine wpList_load_row rfl 26 (.tmp 1) rfl RB #[.int .i64 p, .slice a ks.length c, .slice none 0 0, .slice none 0 0, .int .i64 k] 26 (0, 0) _ rfl hrow' Tryz.underlying26 rfl (by rw [infoRoot]; rfl) ?_)
  refine hmr.mono ?_
  rintro e w1 ⟨rfl, hU2⟩
  have HR : Hid (∀ w', Upd (fun _ => False) w1 w' → w'.heap[RB]? = some (.cells #[.int .i64 p, .slice a ks.length c, .slice none 0 0, .slice none 0 0, .int .i64 k] 26)) := Lib.hid (fun w' hU => (hU.block RB (Nat.lt_of_lt_of_le HZ0.out hU2.size) (fun h => h)).trans ((hU2.block RB HZ0.out (fun h => h)).trans HR0.out))
  have HV : Hid (∀ w', Upd (fun _ => False) w1 w' → Vw w' a ks.length c 32 (ks.flatMap kyV)) := Lib.hid (fun w' hU => HV0.out.upd (hU2.trans hU) (fun _ _ h => h))
  have HU := Lib.hid (HU0.out.trans hU2)
  have hz1 : RB < w1.heap.size := Nat.lt_of_lt_of_le HZ0.out hU2.size
  have HZ := Lib.hid hz1
  clear hmr hU2 HU0 HR0 HZ0 hrow' HV0 hz1
  obtain ⟨i0, hi, hz0, hz1, hz2⟩ := info_parts infoU8
  have HIU := Lib.hid (And.intro hi (And.intro hz0 (And.intro hz1 hz2)))
  clear hi hz0 hz1 hz2
  obtain ⟨z0, z1, z2, z3, z4⟩ := root_cells (HR.out _ (Upd.refl _ _))
  clear z2 z3 z4
  go_upto_region 3 with (fail)
  refine wp_region_plan_last [([1, 2, 4, 5, 6], 0), ([], 3), ([], 7)] [8] (fun w' => w'.cell? ⟨RB, 0, none⟩ = some (.int .i64 p) ∧ w'.cell? ⟨RB, 1, none⟩ = some (.slice a ks.length c)) (by kernel_rfl) (by kernel_rfl) ⟨z0, z1⟩ ?_
  clear z0 z1
  iterate 5
    first
    | (refine plan_skip rfl rfl ?_)
    | (refine plan_take (v := ?_) rfl rfl (fun w' hS => ?_) ?_
       rotate_left
       · skip
         go_simp; try with_reducible rfl)
    simp only [Act.put, List.getElem_toArray, List.getElem_cons_zero, List.getElem_cons_succ, List.setIfInBounds_toArray, List.set_cons_zero, List.set_cons_succ]
  refine plan_act rfl (fun K1 hK1 => ?_)
  have hown : (w1.drew.alloc (.cells #[.int .u8 1] 5)).ownsRow 0 5 1 (.slice (some ⟨w1.drew.heap.size, 0, none⟩) 1 1) 1 (bvs [1]) := lit_own w1.drew 1
  have hUa : Upd (fun _ => False) w1 (w1.drew.alloc (.cells #[.int .u8 1] 5)) := (Upd.drew _ _).trans (Upd.alloc _ _ _)
  have hint := refInt_any (some ⟨w1.drew.heap.size, 0, none⟩) 1 [1] p _ (Vw.of_own hown) (by decide)
  dsimp only [List.length_cons, List.length_nil] at hint
  have HA := Lib.hid hUa
  obtain ⟨z0, z1, z2, z3, z4⟩ := root_cells (HR.out _ hUa)
  have hq := And.intro z0 z1
  clear z0 z1 z2 z3 z4 hown hUa
  go_wp2_with fail
  refine hK1.out _ _ (.inr hq) ?_
  clear hq
  refine plan_act rfl (fun K2 hK2 => ?_)
  go_wp2_with fail
  refine hint.mono ?_
  rintro ee v1 ⟨e, d, rfl, hown, hU, hf, hnil⟩
  have hU1 := HA.out.trans hU
  have hb : ∀ g, blk e = some g → w1.heap.size ≤ g := fun g hg => by have := hf g hg; have := HA.out.size; omega
  have hl1 : (([1] : List UInt8) ++ i4 p).length ≤ 5 := by rw [List.length_append, i4_length]; simp
  generalize hL : ([1] : List UInt8) ++ i4 p = l1 at *
  have Hl1 := Lib.hid hL
  have HI := Lib.hid (And.intro hown (And.intro hU1 hb))
  obtain ⟨z0, z1, z2, z3, z4⟩ := root_cells (HR.out _ hU1)
  have hq := And.intro z0 z1
  clear z0 z1 z2 z3 z4 hL hint hown hU hf hnil hU1 hb HA
  go_wp2_with fail
  refine hK2.out _ _ (.inr hq) ?_
  clear hq
  refine plan_act rfl (fun K3 hK3 => ?_)
  go_wp2_with fail
  refine (refInt_any e d l1 (ks.length : Int) _ (Vw.of_own HI.out.1) (by omega)).mono ?_
  rintro ee v2 ⟨e2, d2, rfl, hown, hU, hf, hnil⟩
  have hU2 := HI.out.2.1.trans hU
  have hb : ∀ g, blk e2 = some g → w1.heap.size ≤ g := fun g hg => by have := hf g hg; have := HI.out.2.1.size; omega
  have hl2 : (l1 ++ i4 (ks.length : Int)).length ≤ 9 := by rw [List.length_append, i4_length]; omega
  generalize hL : l1 ++ i4 (ks.length : Int) = l2 at *
  have Hl2 := Lib.hid hL
  clear HI
  have HI := Lib.hid (And.intro hown (And.intro hU2 hb))
  obtain ⟨z0, z1, z2, z3, z4⟩ := root_cells (HR.out _ hU2)
  have hq := And.intro z0 z1
  clear z0 z1 z2 z3 z4 hL hown hU hf hnil hU2 hb
  go_wp2_with fail
  refine hK3.out _ _ (.inr hq) ?_
  clear hq
  iterate 1
    first
    | (refine plan_lskip rfl rfl ?_)
    | (refine plan_last (v := ?_) rfl rfl (fun w' hS => ?_) ?_
       rotate_left
       · skip
         go_simp; try with_reducible rfl)
    simp only [Act.put, List.getElem_toArray, List.getElem_cons_zero, List.getElem_cons_succ, List.setIfInBounds_toArray, List.set_cons_zero, List.set_cons_succ]
  refine plan_end ?_
  go_wp2_with fail
  go_loopw [4, 5] (fun s i wr => ∃ (j : Nat) (e : Option Addr) (d : Nat) (L : List UInt8), Hid (L = l2 ++ kysB (ks.take j)) ∧ j ≤ ks.length ∧ s = .slice e L.length d ∧ i = .int .i64 (j : Int) ∧ Hid (wr.ownsRow 0 5 1 (.slice e L.length d) L.length (bvs L) ∧ Upd (fun _ => False) w1 wr ∧ (∀ g, blk e = some g → w1.heap.size ≤ g))) (fun _ i _ => ks.length - (intOf i).toNat)
  case atStart => exact ⟨0, e2, d2, l2, Lib.hid (by simp [kysB]), Nat.zero_le _, rfl, rfl, HI⟩
  case round =>
    clear HI
    obtain ⟨j, e, d, L, HLj, hj, rfl, rfl, HI⟩ := hrel
    have hlL : L.length ≤ 70000 := by have := kysB_le ks j hn; rw [HLj.out, List.length_append]; omega
    obtain ⟨z0, z1, z2, z3, z4⟩ := root_cells (HR.out _ HI.out.2.1)
    clear z0 z3 z4
    by_cases hlt : j < ks.length
    · have hI : (j : Int) < (ks.length : Int) := by omega
      obtain ⟨b, o, hb, hcell⟩ := ky_at (HV.out _ HI.out.2.1) (by omega)
      subst hb
      have hrg : wr.rangeAt b (o + j * 32) (bvs ks[j].b) := hcell j hlt
      have hk32 := ks[j].h
      have hsucc : L ++ ks[j].b = l2 ++ kysB (ks.take (j + 1)) := by rw [HLj.out, List.append_assoc, kysB_succ ks j hlt]
      generalize ks[j].b = kb at *
      have hsrc := key_src hk32 hrg
      have hown := HI.out.1
      have HSU := Lib.hid hsucc
      clear hcell hsucc hrg
      have hi := HIU.out.1
      have hz0 := HIU.out.2.1
      have hz1 := HIU.out.2.2.1
      have hz2 := HIU.out.2.2.2
      go_upto_region 7 with (fail)
      go_wp2_with (at_builtin; refine wpList_app _ rfl (.tmp 27) (.tmp 32) 33 33 rfl 5 i0 (.int .u8 0) 1 1 Tryz.underlying33 hi hz0 hz1 hz2 rfl e L.length d (bvs L) rfl hown (.slice (some ⟨b, o + j * 32, none⟩) 32 32) 32 (bvs kb) rfl hsrc ?_ ?_ ?_)
      · unfold maxLen; omega
      · omega
      clear hi hz0 hz1 hz2
      intro a3 c3 w3 hown3 hg3 hat3 hnil3
      have HI3 := Lib.hid (app_next (w := w1) HI.out.2.1 rfl HI.out.2.2 hk32 hown3 hg3 hat3)
      have hlen3 : L.length + 32 = (L ++ kb).length := by rw [List.length_append, hk32]
      clear hown3 hg3 hat3 hnil3 hsrc hown z1 z2
      go_wp2_with fail
      go_roundw
      case rel => exact ⟨j + 1, a3, c3, L ++ kb, Lib.hid HSU.out, by omega, by rw [hlen3], by first | rfl | go_num, HI3⟩
      case measure => simp [intOf]; omega
    · obtain rfl : j = ks.length := by omega
      have HLL := HLj.out
      rw [List.take_length] at HLL
      have HLk := Lib.hid HLL
      clear HLj HLL hlt
      obtain ⟨l3, hl30⟩ : ∃ l, l = L := ⟨_, rfl⟩
      subst hl30
      have hl3 := hlL
      go_wp2_with fail
      refine (refInt_any e d l3 0 _ (Vw.of_own HI.out.1) (by omega)).mono ?_
      rintro ee v2 ⟨e2, d2, rfl, hown, hU, hf, hnil⟩
      have hU2 := HI.out.2.1.trans hU
      have hb : ∀ g, blk e2 = some g → w1.heap.size ≤ g := fun g hg => by have := hf g hg; have := HI.out.2.1.size; omega
      have hl4 : (l3 ++ i4 0).length ≤ 70004 := by rw [List.length_append, i4_length]; omega
      generalize hL : l3 ++ i4 0 = l4 at *
      have Hl4 := Lib.hid hL
      clear HI
      have HI := Lib.hid (And.intro hown (And.intro hU2 hb))
      clear hL hown hU hf hnil hU2 hb
      obtain ⟨e, he⟩ : ∃ e, e = e2 := ⟨_, rfl⟩
      subst he
      obtain ⟨d, hd⟩ : ∃ d, d = d2 := ⟨_, rfl⟩
      subst hd
      clear z1 z2
      go_wp2_with fail
      go_loopw [4, 6] (fun s i wr => s = .slice e l4.length d ∧ i = .int .i64 0 ∧ Hid (wr.ownsRow 0 5 1 (.slice e l4.length d) l4.length (bvs l4) ∧ Upd (fun _ => False) w1 wr ∧ (∀ g, blk e = some g → w1.heap.size ≤ g))) (fun _ _ _ => 0)
      case atStart => exact ⟨rfl, rfl, HI⟩
      case round =>
        clear HI
        obtain ⟨rfl, rfl, HI⟩ := hrel
        obtain ⟨z0, z1, z2, z3, z4⟩ := root_cells (HR.out _ HI.out.2.1)
        clear z0 z1 z4
        go_wp2_with fail
        refine (refInt_any e d l4 0 _ (Vw.of_own HI.out.1) (by omega)).mono ?_
        rintro ee v2 ⟨e2, d2, rfl, hown, hU, hf, hnil⟩
        have hU2 := HI.out.2.1.trans hU
        have hb : ∀ g, blk e2 = some g → w1.heap.size ≤ g := fun g hg => by have := hf g hg; have := HI.out.2.1.size; omega
        have hl5 : (l4 ++ i4 0).length ≤ 70008 := by rw [List.length_append, i4_length]; omega
        generalize hL : l4 ++ i4 0 = l5 at *
        have Hl5 := Lib.hid hL
        clear HI
        have HI := Lib.hid (And.intro hown (And.intro hU2 hb))
        clear hL hown hU hf hnil hU2 hb
        obtain ⟨e, he⟩ : ∃ e, e = e2 := ⟨_, rfl⟩
        subst he
        obtain ⟨d, hd⟩ : ∃ d, d = d2 := ⟨_, rfl⟩
        subst hd
        clear z2 z3
        go_wp2_with fail
        go_loopw [4, 8] (fun s i wr => s = .slice e l5.length d ∧ i = .int .i64 0 ∧ Hid (wr.ownsRow 0 5 1 (.slice e l5.length d) l5.length (bvs l5) ∧ Upd (fun _ => False) w1 wr ∧ (∀ g, blk e = some g → w1.heap.size ≤ g))) (fun _ _ _ => 0)
        case atStart => exact ⟨rfl, rfl, HI⟩
        case round =>
          clear HI
          obtain ⟨rfl, rfl, HI⟩ := hrel
          obtain ⟨z0, z1, z2, z3, z4⟩ := root_cells (HR.out _ HI.out.2.1)
          clear z0 z1 z2
          go_wp2_with fail
          refine (refInt_any e d l5 k _ (Vw.of_own HI.out.1) (by omega)).mono ?_
          rintro ee v2 ⟨e2, d2, rfl, hown, hU, hf, hnil⟩
          have hU2 := HI.out.2.1.trans hU
          have hb : ∀ g, blk e2 = some g → w1.heap.size ≤ g := fun g hg => by have := hf g hg; have := HI.out.2.1.size; omega
          have hl6 : (l5 ++ i4 k).length ≤ 70012 := by rw [List.length_append, i4_length]; omega
          generalize hL : l5 ++ i4 k = l6 at *
          have Hl6 := Lib.hid hL
          clear HI
          have HI := Lib.hid (And.intro hown (And.intro hU2 hb))
          clear hL hown hU hf hnil hU2 hb
          obtain ⟨e, he⟩ : ∃ e, e = e2 := ⟨_, rfl⟩
          subst he
          obtain ⟨d, hd⟩ : ∃ d, d = d2 := ⟨_, rfl⟩
          subst hd
          have hfin : LL = l6 := by rw [HD.out, ← Hl6.out, ← Hl5.out, ← Hl4.out, HLk.out, ← Hl2.out, ← Hl1.out]
          subst hfin
          have hzz := HU.out.size
          have HZZ := Lib.hid (And.intro (Vw.of_own HI.out.1) (And.intro (fun g (hg : blk e = some g) => And.intro (Nat.le_trans hzz (HI.out.2.2 g hg)) (HI.out.1.lt g ((own_blk _ _ _).trans hg)).2) (HU.out.trans HI.out.2.1)))
          clear HI z3 z4 hzz
          go_wp2_with fail
          go_ret2
          exact ⟨e, d, rfl, HZZ.out⟩
end Go.Proofs.YtccejkikphpnfaaGreatDoor

namespace Go.Proofs.YtccejkikphpnfaaGreatDoor
open Go.ChangeShapes Go.WideShapes Go.ChangeAt Go.RowKit

inductive PU where
  | last (l : List Nat)
  | one (seg : List Nat) (e : Nat) (t : PU)
  | two (seg : List Nat) (e1 : Nat) (t1 : PU) (e2 : Nat) (t2 : PU)
  | three (seg : List Nat) (e1 : Nat) (t1 : PU) (e2 : Nat) (t2 : PU) (e3 : Nat) (t3 : PU)
section
variable {P : Program} {ops : Array Oper} {Q : Exit → Act → World → Prop} {md : Region.Mode} {S : World → Prop}

def triWp (P : Program) (ops : Array Oper) (Q : Exit → Act → World → Prop) (S : World → Prop) : PU → Act → World → Prop
  | .last l, a, w => takes P ops S l (fun A => Q .normal A w) a
  | .one sg e t, a, w => takes P ops S sg (fun A => ∃ o, ops[e]? = some o ∧ wpList P ops (Exit.then (fun a' w' => S w' ∧ triWp P ops Q S t a' w') (calmQ Q)) [o] A w) a
  | .two sg e1 t1 e2 t2, a, w => takes P ops S sg (fun A => (∃ o, ops[e1]? = some o ∧ wpList P ops (Exit.then (fun a' w' => S w' ∧ triWp P ops Q S t1 a' w') (calmQ Q)) [o] A w) ∧
      (∃ o, ops[e2]? = some o ∧ wpList P ops (Exit.then (fun a' w' => S w' ∧ triWp P ops Q S t2 a' w') (calmQ Q)) [o] A w)) a
  | .three sg e1 t1 e2 t2 e3 t3, a, w => takes P ops S sg (fun A => (∃ o, ops[e1]? = some o ∧ wpList P ops (Exit.then (fun a' w' => S w' ∧ triWp P ops Q S t1 a' w') (calmQ Q)) [o] A w) ∧ (∃ o, ops[e2]? = some o ∧ wpList P ops (Exit.then (fun a' w' => S w' ∧ triWp P ops Q S t2 a' w') (calmQ Q)) [o] A w) ∧ (∃ o, ops[e3]? = some o ∧ wpList P ops (Exit.then (fun a' w' => S w' ∧ triWp P ops Q S t3 a' w') (calmQ Q)) [o] A w)) a
def triOk (md : Region.Mode) (ops : Array Oper) : PU → Array Bool → Bool
  | .last l, listed => takesOk md ops l listed && (Region.ready md ops (marked l listed)).isEmpty
  | .one sg e t, listed => takesOk md ops sg listed && (Region.ready md ops (marked sg listed) == [e]) && triOk md ops t ((marked sg listed).setIfInBounds e true)
  | .two sg e1 t1 e2 t2, listed => takesOk md ops sg listed && (Region.ready md ops (marked sg listed) == [e1, e2]) && triOk md ops t1 ((marked sg listed).setIfInBounds e1 true) && triOk md ops t2 ((marked sg listed).setIfInBounds e2 true)
  | .three sg e1 t1 e2 t2 e3 t3, listed => takesOk md ops sg listed && (Region.ready md ops (marked sg listed) == [e1, e2, e3]) && triOk md ops t1 ((marked sg listed).setIfInBounds e1 true) && triOk md ops t2 ((marked sg listed).setIfInBounds e2 true) && triOk md ops t3 ((marked sg listed).setIfInBounds e3 true)
def triSize : PU → Nat
  | .last l => l.length
  | .one sg _ t => sg.length + 1 + triSize t
  | .two sg _ t1 _ _ => sg.length + 1 + triSize t1
  | .three sg _ t1 _ _ _ _ => sg.length + 1 + triSize t1
def triEven : PU → Bool
  | .last _ => true
  | .one _ _ t => triEven t
  | .two _ _ t1 _ t2 => (triSize t1 == triSize t2) && triEven t1 && triEven t2
  | .three _ _ t1 _ t2 _ t3 => (triSize t1 == triSize t2) && (triSize t1 == triSize t3) && triEven t1 && triEven t2 && triEven t3

theorem tri_sound (hs : Region.noSelect ops = true) : ∀ (t : PU) (listed : Array Bool) (a : Act) (w : World), listed.size = ops.size → Down md ops listed → triOk md ops t listed = true → triEven t = true →
      S w → triWp P ops Q S t a w → wpAnyX P md ops (calmQ Q) S ops.size (triSize t) listed a w := by
  have hex : ∀ listed : Array Bool, listed.size = ops.size → Down md ops listed → ops.size ∈ Region.ready md ops listed → ∀ k, k < ops.size → listed.getD k true = false → k = ops.size := by
    intro l _ _ hx
    obtain ⟨_, o, ho, _⟩ := mem_ready.1 hx
    have := (Array.getElem?_eq_some_iff.1 ho).1
    omega
  have hlt : ∀ {i : Nat} {o : Oper}, ops[i]? = some o → i ≠ ops.size := fun ho e => by
    have := (Array.getElem?_eq_some_iff.1 ho).1
    omega
  intro t
  induction t with
  | last l =>
    intro listed a w h1 h2 hok _ hS h
    simp only [triOk, Bool.and_eq_true, List.isEmpty_iff] at hok
    have := takes_sound (P := P) (Q := calmQ Q) (S := S) hs (fun _ _ _ h => h) hex 0 l listed a w (fun A => Q .normal A w) h1 h2 hok.1 hS (fun A _ _ hA => ⟨hok.2, hA⟩) h
    simpa [triSize] using this
  | one sg e t ih =>
    intro listed a w h1 h2 hok hev hS h
    simp only [triOk, Bool.and_eq_true, beq_iff_eq] at hok
    obtain ⟨⟨hok1, hok2⟩, hok3⟩ := hok
    rw [show triSize (.one sg e t) = sg.length + (triSize t + 1) from by simp [triSize]; omega]
    refine takes_sound (P := P) (Q := calmQ Q) (S := S) hs (fun _ _ _ h => h) hex (triSize t + 1) sg listed a w _ h1 h2 hok1 hS ?_ h
    intro A hz hd hN
    obtain ⟨o, ho, hA⟩ := hN
    refine ⟨fun h0 => (by rw [hok2] at h0; cases h0), fun i hi => ?_⟩
    have hmem := hi
    rw [hok2, List.mem_singleton] at hi
    subst hi
    refine wpOp_mono (fun a' w' h3 => ⟨.inr h3.1, ?_⟩) (wpOp_of_list ho hA)
    exact ih _ a' w' (by simpa using hz) (hd.next hmem) hok3 hev h3.1 h3.2
  | two sg e1 t1 e2 t2 ih1 ih2 =>
    intro listed a w h1 h2 hok hev hS h
    simp only [triOk, Bool.and_eq_true, beq_iff_eq] at hok
    simp only [triEven, Bool.and_eq_true, beq_iff_eq] at hev
    obtain ⟨⟨⟨hok1, hok2⟩, hok3⟩, hok4⟩ := hok
    rw [show triSize (.two sg e1 t1 e2 t2) = sg.length + (triSize t1 + 1) from by simp [triSize]; omega]
    refine takes_sound (P := P) (Q := calmQ Q) (S := S) hs (fun _ _ _ h => h) hex (triSize t1 + 1) sg listed a w _ h1 h2 hok1 hS ?_ h
    intro A hz hd hN
    obtain ⟨⟨o1, ho1, hA1⟩, o2, ho2, hA2⟩ := hN
    refine ⟨fun h0 => (by rw [hok2] at h0; cases h0), fun i hi => ?_⟩
    have hmem := hi
    rw [hok2] at hi
    simp only [List.mem_cons, List.not_mem_nil, or_false] at hi
    rcases hi with rfl | rfl
    · refine wpOp_mono (fun a' w' h3 => ⟨.inr h3.1, ?_⟩) (wpOp_of_list ho1 hA1)
      exact ih1 _ a' w' (by simpa using hz) (hd.next hmem) hok3 hev.1.2 h3.1 h3.2
    · refine wpOp_mono (fun a' w' h3 => ⟨.inr h3.1, ?_⟩) (wpOp_of_list ho2 hA2)
      rw [hev.1.1]
      exact ih2 _ a' w' (by simpa using hz) (hd.next hmem) hok4 hev.2 h3.1 h3.2
  | three sg e1 t1 e2 t2 e3 t3 ih1 ih2 ih3 =>
    intro listed a w h1 h2 hok hev hS h
    simp only [triOk, Bool.and_eq_true, beq_iff_eq] at hok
    simp only [triEven, Bool.and_eq_true, beq_iff_eq] at hev
    obtain ⟨⟨⟨⟨hok1, hok2⟩, hok3⟩, hok4⟩, hok5⟩ := hok
    obtain ⟨⟨⟨⟨hev1, hev2⟩, hev3⟩, hev4⟩, hev5⟩ := hev
    rw [show triSize (.three sg e1 t1 e2 t2 e3 t3) = sg.length + (triSize t1 + 1) from by simp [triSize]; omega]
    refine takes_sound (P := P) (Q := calmQ Q) (S := S) hs (fun _ _ _ h => h) hex (triSize t1 + 1) sg listed a w _ h1 h2 hok1 hS ?_ h
    intro A hz hd hN
    obtain ⟨⟨o1, ho1, hA1⟩, ⟨o2, ho2, hA2⟩, o3, ho3, hA3⟩ := hN
    refine ⟨fun h0 => (by rw [hok2] at h0; cases h0), fun i hi => ?_⟩
    have hmem := hi
    rw [hok2] at hi
    simp only [List.mem_cons, List.not_mem_nil, or_false] at hi
    rcases hi with rfl | rfl | rfl
    · refine wpOp_mono (fun a' w' h3 => ⟨.inr h3.1, ?_⟩) (wpOp_of_list ho1 hA1)
      exact ih1 _ a' w' (by simpa using hz) (hd.next hmem) hok3 hev3 h3.1 h3.2
    · refine wpOp_mono (fun a' w' h3 => ⟨.inr h3.1, ?_⟩) (wpOp_of_list ho2 hA2)
      rw [hev1]
      exact ih2 _ a' w' (by simpa using hz) (hd.next hmem) hok4 hev4 h3.1 h3.2
    · refine wpOp_mono (fun a' w' h3 => ⟨.inr h3.1, ?_⟩) (wpOp_of_list ho3 hA3)
      rw [hev2]
      exact ih3 _ a' w' (by simpa using hz) (hd.next hmem) hok5 hev5 h3.1 h3.2

/-- THE LAW. -/
theorem wp_region_tri {id : Nat} {a : Act} {w : World} (t : PU) (S : World → Prop) (hm : P.follows .mixedOrders = true)
    (hok : (Region.noSelect ops && triOk .any ops t (Array.replicate ops.size false) && triSize t == ops.size && triEven t) = true) (hS : S w.drew)
    (h : triWp P ops Q S t a w.drew) : (Code.region id ops true).wp P Q a w := by
  simp only [Bool.and_eq_true, beq_iff_eq] at hok
  obtain ⟨⟨⟨h1, h3⟩, h4⟩, h5⟩ := hok
  have key := tri_sound (P := P) (S := S) h1 t (Array.replicate ops.size false) a _ (by simp) (down_none _) h3 h5 hS h
  rw [h4] at key
  exact Code.wp_mono calmQ_imp (wp_region_any hm (wpAny_of_X (S := S) (ex := ops.size) _ _ _ _ key))

/-! The moves -/
theorem tri_take {i e : Nat} {r : List Nat} {t : PU} {a : Act} {w : World} {o : Oper} {v : Value} (ho : ops[i]? = some o) (hw : Region.wanted o (yielded ops a.tmps) = true)
    (hy : ∀ w', S w' → (execOp a.eval o).run P w' = .ok (.value v) w') (h : triWp P ops Q S (.one r e t) (a.put o.dst v) w) : triWp P ops Q S (.one (i :: r) e t) a w :=
  ⟨o, v, ho, .inl ⟨hw, hy⟩, h⟩
theorem tri_take2 {i e1 e2 : Nat} {r : List Nat} {t1 t2 : PU} {a : Act} {w : World} {o : Oper} {v : Value} (ho : ops[i]? = some o) (hw : Region.wanted o (yielded ops a.tmps) = true)
    (hy : ∀ w', S w' → (execOp a.eval o).run P w' = .ok (.value v) w') (h : triWp P ops Q S (.two r e1 t1 e2 t2) (a.put o.dst v) w) : triWp P ops Q S (.two (i :: r) e1 t1 e2 t2) a w :=
  ⟨o, v, ho, .inl ⟨hw, hy⟩, h⟩
theorem tri_last {i : Nat} {r : List Nat} {a : Act} {w : World} {o : Oper} {v : Value} (ho : ops[i]? = some o) (hw : Region.wanted o (yielded ops a.tmps) = true)
    (hy : ∀ w', S w' → (execOp a.eval o).run P w' = .ok (.value v) w') (h : triWp P ops Q S (.last r) (a.put o.dst v) w) : triWp P ops Q S (.last (i :: r)) a w :=
  ⟨o, v, ho, .inl ⟨hw, hy⟩, h⟩
theorem tri_end {a : Act} {w : World} (h : Q .normal a w) : triWp P ops Q S (.last []) a w := h
theorem tri_act {e : Nat} {t : PU} {a : Act} {w : World} {o : Oper} (ho : ops[e]? = some o)
    (h : ∀ K : Act → World → Prop, Shut (∀ a' w', S w' → triWp P ops Q S t a' w' → K a' w') → wpList P ops (Exit.then K (calmQ Q)) [o] a w) : triWp P ops Q S (.one [] e t) a w :=
  ⟨o, ho, h _ (fun _ _ h1 h2 => ⟨h1, h2⟩)⟩
theorem tri_both {e1 e2 : Nat} {t1 t2 : PU} {a : Act} {w : World} (h1 : triWp P ops Q S (.one [] e1 t1) a w) (h2 : triWp P ops Q S (.one [] e2 t2) a w) : triWp P ops Q S (.two [] e1 t1 e2 t2) a w :=
  ⟨h1, h2⟩
theorem tri_take3 {i e1 e2 e3 : Nat} {r : List Nat} {t1 t2 t3 : PU} {a : Act} {w : World} {o : Oper} {v : Value} (ho : ops[i]? = some o) (hw : Region.wanted o (yielded ops a.tmps) = true)
    (hy : ∀ w', S w' → (execOp a.eval o).run P w' = .ok (.value v) w') (h : triWp P ops Q S (.three r e1 t1 e2 t2 e3 t3) (a.put o.dst v) w) : triWp P ops Q S (.three (i :: r) e1 t1 e2 t2 e3 t3) a w :=
  ⟨o, v, ho, .inl ⟨hw, hy⟩, h⟩
theorem tri_all {e1 e2 e3 : Nat} {t1 t2 t3 : PU} {a : Act} {w : World} (h1 : triWp P ops Q S (.one [] e1 t1) a w) (h2 : triWp P ops Q S (.one [] e2 t2) a w) (h3 : triWp P ops Q S (.one [] e3 t3) a w) : triWp P ops Q S (.three [] e1 t1 e2 t2 e3 t3) a w :=
  ⟨h1, h2, h3⟩
end
end Go.Proofs.YtccejkikphpnfaaGreatDoor
