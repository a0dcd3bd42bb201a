
/- A root's record: read, and added. -/
import Derived.Test.YtccejkikphpnfaaGreatDoorMet7
namespace Go.Proofs.YtccejkikphpnfaaGreatDoor
set_option linter.unusedSimpArgs false
set_option linter.unusedVariables false
set_option maxRecDepth 100000
open Go.ChangeShapes Go.WideShapes Go.ChangeAt Go.RowKit

theorem read_any3 (a : Option Addr) (c : Nat) (l : List UInt8) (w : World) (hv : Vw w a l.length c 1 (bvs l)) (hl : l.length ≤ 100000000) :
    Calls Tryz.prog 93 #[.slice a l.length c] w fun e w' => ∃ br F, e = .returned (.pointer (some ⟨br, 0, none⟩)) ∧ Rd w' br F l 0 ∧ Upd (fun _ => False) w w' ∧ w.heap.size ≤ br ∧ (∀ g, F = some g → w.heap.size ≤ g ∧ g < br) := by
  go_enter Tryz.func93, Tryz.ntmps93
  go_wp2_with fail
  refine (clone_any a c l w hv hl).mono ?_
  rintro e w1 ⟨a', c', rfl, hown, hU, hfr, hnil⟩
  have hz := hU.size
  have hvw := Vw.of_own hown
  have hlt : ∀ g, blk a' = some g → w.heap.size ≤ g ∧ g < w1.heap.size := fun g hg => ⟨hfr g hg, (hown.lt g ((own_blk _ _ _).trans hg)).2⟩
  clear hfr
  have Hlt := Lib.hid hlt; clear hlt
  go_wp2_with fail
  go_ret
  refine ⟨w1.heap.size, blk a', rfl, ⟨⟨a', c', heap_alloc_new _ _, hvw.upd (Upd.alloc (fun _ => False) _ _) (fun _ _ h => h), .inr rfl⟩, ?_⟩, hU.trans (Upd.alloc _ _ _), hz, Hlt.out⟩
  intro e; exact absurd (Hlt.out _ e).2 (Nat.lt_irrefl _)

def ReadRoot (w : World) (lb : Nat) (p : Int) (ks : List Ky) (k : Int) (e : Ending) (w' : World) : Prop :=
  ∃ L2 BX a2 c2, e = .returned (.tuple #[.func (.func 96) #[] #[.pointer (some ⟨L2, 0, none⟩), .pointer (some ⟨BX, 0, none⟩)], .int .i64 0]) ∧ w'.heap[L2]? = some (.cells #[.pointer (some ⟨lb, 0, none⟩)] 42) ∧ w'.heap[BX]? = some (.cells (rootA p a2 ks.length c2 k) 26) ∧
    Vw w' a2 ks.length c2 32 (ks.flatMap kyV) ∧ (∀ q, blk a2 = some q → w.heap.size ≤ q) ∧ Upd (fun _ => False) w w'
set_option maxHeartbeats 8000000 in
theorem read_root (lb : Nat) (p : Int) (ks : List Ky) (k : Int) (h : RootIn p ks.length k) (a : Option Addr) (c : Nat) (w : World) (hv : Vw w a (rootL p ks k).length c 1 (bvs (rootL p ks k))) :
    Calls Tryz.prog 57 #[.pointer (some ⟨lb, 0, none⟩), .slice a (rootL p ks k).length c] w (ReadRoot w lb p ks k) := by
  have hLr := rootL_eq p ks k
  have hll : (rootL p ks k).length ≤ 64021 := by have := rootR_len p ks k h.n1; rw [hLr, List.length_append, List.length_singleton]; omega
  have hU0 := Upd.alloc (fun _ => False) w (.cells #[.pointer (some ⟨lb, 0, none⟩)] 42)
  have hb0 := heap_alloc_new w (.cells #[.pointer (some ⟨lb, 0, none⟩)] 42)
  have HI0 := Lib.hid hv
  have HI := Lib.hid (And.intro (hv.upd hU0 (fun _ _ h => h)) (And.intro hb0 hU0))
  have HLr := Lib.hid hLr
  have HR := Lib.hid h
  generalize hLL : rootL p ks k = l at *
  have HLL := Lib.hid hLL
  clear hv hU0 hb0 hLr hLL
  go_enter Tryz.func57, Tryz.ntmps57
  go_upto_region 1 with (fail)
  generalize w.alloc (.cells #[.pointer (some ⟨lb, 0, none⟩)] 42) = y0 at *
  obtain ⟨L2, hL2⟩ : ∃ B, w.heap.size = B := ⟨_, rfl⟩
  rw [hL2] at HI ⊢
  have HB := Lib.hid hL2
  clear hL2
  go_wp2_with fail
  refine (read_any3 a c l y0 HI.out.1 (by omega)).mono ?_
  rintro e w1 ⟨br, F, rfl, hR, hU, hbr, hF⟩
  obtain ⟨BR, hBR⟩ : ∃ B, w1.heap.size = B := ⟨_, rfl⟩
  have hbrl : br < BR := by
    obtain ⟨a9, c9, hh, _⟩ := hR.ex
    rw [← hBR]
    exact lt_of_heap hh
  have hz0 := hU.size
  have hUn := Upd.alloc (fun _ => False) w1 (.cells #[.pointer (some ⟨br, 0, none⟩)] 139)
  have hrow := heap_alloc_new w1 (.cells #[.pointer (some ⟨br, 0, none⟩)] 139)
  have hL2 := ((hU.trans hUn).block L2 (lt_of_heap HI.out.2.1) (fun h => h)).trans HI.out.2.1
  have hltL := lt_of_heap HI.out.2.1
  have hvn := HI.out.1.upd (hU.trans hUn) (fun _ _ h => h)
  have hUw := HI.out.2.2.trans (hU.trans hUn)
  rw [hBR] at hrow
  have HJ := Lib.hid (And.intro (hR.upd hUn (fun h => h) (fun _ _ h => h)) (And.intro hrow (And.intro hL2 (And.intro hvn hUw))))
  have hnum := rnum_any br F ⟨l, 0⟩ 1 _ HJ.out.1 (by show l.length ≤ _; omega)
  have hlt : takeS (heldN 1) ⟨l, 0⟩ = ([1], ⟨rootR p ks k, 0⟩) := by rw [HLr.out]; exact takeS_app' 1 [1] _ rfl
  rw [hlt] at hnum
  have hF2 : ∀ g, F = some g → g < BR := fun g hg => by have := (hF g hg).2; omega
  have hFL : ∀ g, F = some g → L2 < g := fun g hg => by have := (hF g hg).1; omega
  have hbrL : L2 < br := by omega
  have HN := Lib.hid (And.intro hbrl (And.intro hF2 (And.intro hFL hbrL)))
  clear hR hU hbr hF hbrl hz0 hUn hrow hL2 hltL hvn hUw hlt hF2 hFL hbrL HI
  have hln : (leN [1] : Int) = 1 := rfl
  unfold ReadN at hnum
  dsimp only at hnum
  rw [hln] at hnum
  clear hln
  go_upto_region 5 with (fail)
  generalize w1.alloc (.cells #[.pointer (some ⟨br, 0, none⟩)] 139) = w2 at *
  clear hBR
  have q : w2.cell? ⟨BR, 0, none⟩ = some (.pointer (some ⟨br, 0, none⟩)) := by rw [cell_of_row _ _ _ _ _ _ HJ.out.2.1]; rfl
  go_wp2_with fail
  refine hnum.mono ?_
  rintro e w3 ⟨rfl, hR, hU⟩
  have hn1 := HN.out.1
  have hn2 := HN.out.2.2.2
  have hrow := (hU.block BR (lt_of_heap HJ.out.2.1) (by omega)).trans HJ.out.2.1
  have hL2 := (hU.block L2 (lt_of_heap HJ.out.2.2.1) (by omega)).trans HJ.out.2.2.1
  have hBz := lt_of_heap hrow
  have HB' := HB.out
  have hUw : Upd (fun _ => False) w w3 := HJ.out.2.2.2.2.next hU (fun i hi e => by omega)
  have hvn := HJ.out.2.2.2.1
  have hmr := mrroot_any p ks k HR.out br F w3 hR (fun g hg => by have := HN.out.2.1 g hg; omega)
  clear q hnum
  have q : w3.cell? ⟨BR, 0, none⟩ = some (.pointer (some ⟨br, 0, none⟩)) := by rw [cell_of_row _ _ _ _ _ _ hrow]; rfl
  have HK := Lib.hid (And.intro hL2 (And.intro hUw hBz))
  clear hR hU hrow hL2 hUw hBz HB' hvn hn1 hn2
  go_wp2_with fail
  refine hmr.mono ?_
  rintro e w4 ⟨a2, c2, rfl, hown, hfr, hU4⟩
  obtain ⟨BX, hBX⟩ : ∃ B, w4.heap.size = B := ⟨_, rfl⟩
  have hUx := Upd.alloc (fun _ => False) w4 (.cells (rootA p a2 ks.length c2 k) 26)
  have hrx := heap_alloc_new w4 (.cells (rootA p a2 ks.length c2 k) 26)
  rw [hBX] at hrx
  have hv2 := (Vw.of_own hown).upd hUx (fun _ _ h => h)
  have hn1 := HN.out.1
  have hn2 := HN.out.2.2.2
  have hB0 := HB.out
  have hU04 := (HK.out.2.1.next hU4 (fun i hi e => by omega)).trans hUx
  have hL4 := (hUx.block L2 (Nat.lt_of_lt_of_le (lt_of_heap HK.out.1) hU4.size) (fun h => h)).trans ((hU4.block L2 (lt_of_heap HK.out.1) (by omega)).trans HK.out.1)
  have hfr2 : ∀ q, blk a2 = some q → w.heap.size ≤ q := fun q hq => by have := hfr q hq; have := HK.out.2.1.size; omega
  have hvn := HJ.out.2.2.2.1
  have hpk := mPackRoot_any p a2 c2 ks k _ HR.out hv2
  rw [HLL.out] at hpk
  unfold rootA at hUx hrx hpk hU04 hL4 hv2 ⊢
  have HX := Lib.hid (And.intro hL4 (And.intro hrx (And.intro hv2 (And.intro hfr2 hU04))))
  clear hUx hrx hv2 hn1 hn2 hB0 hU04 hL4 hfr2 hvn hmr hown hfr hU4 q HJ
  go_upto_region 8 with (fail)
  generalize w4.alloc (.cells #[.int .i64 p, .slice a2 ks.length c2, .slice none 0 0, .slice none 0 0, .int .i64 k] 26) = w5 at *
  clear hBX
  have hrx := HX.out.2.1
  go_wp2_with (refine wpList_load_row rfl 26 (.tmp 10) rfl BX #[.int .i64 p, .slice a2 ks.length c2, .slice none 0 0, .slice none 0 0, .int .i64 k] 26 (0, 0) _ rfl hrx Tryz.underlying26 rfl (by rw [infoRoot]; rfl) ?_)
  refine hpk.mono ?_
  unfold Packed
  rintro e w6 ⟨a3, c3, rfl, hv3, hf3, hU6⟩
  have hva := HI0.out.upd (HX.out.2.2.2.2.trans hU6) (fun _ _ h => h)
  have hse := slEqB_any a3 a c3 c l l w6 hv3 hva
  have hbb : (l == l) = true := by simp
  rw [hbb] at hse
  have HY := Lib.hid (And.intro ((hU6.block L2 (lt_of_heap HX.out.1) (fun h => h)).trans HX.out.1) (And.intro ((hU6.block BX (lt_of_heap HX.out.2.1) (fun h => h)).trans HX.out.2.1) (And.intro (HX.out.2.2.1.upd hU6 (fun _ _ h => h)) (And.intro HX.out.2.2.2.1 (HX.out.2.2.2.2.trans hU6)))))
  clear hpk hv3 hf3 hU6 hva hrx hbb HX HK HN
  go_wp2_with fail
  refine hse.mono ?_
  rintro e w7 ⟨rfl, hU7⟩
  have HZ := Lib.hid (And.intro ((hU7.block L2 (lt_of_heap HY.out.1) (fun h => h)).trans HY.out.1) (And.intro ((hU7.block BX (lt_of_heap HY.out.2.1) (fun h => h)).trans HY.out.2.1) (And.intro (HY.out.2.2.1.upd hU7 (fun _ _ h => h)) (And.intro HY.out.2.2.2.1 (HY.out.2.2.2.2.trans hU7)))))
  clear hse hU7 HY
  go_wp2_with fail
  go_ret2
  exact ⟨L2, BX, a2, c2, rfl, HZ.out⟩
end Go.Proofs.YtccejkikphpnfaaGreatDoor
