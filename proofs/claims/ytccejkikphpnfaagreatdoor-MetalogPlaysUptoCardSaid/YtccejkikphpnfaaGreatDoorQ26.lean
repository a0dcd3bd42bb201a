
/- read of a record in general: a root's, a wait's, a drop's, none. -/
import Derived.Test.YtccejkikphpnfaaGreatDoorQ25
namespace Go.Proofs.YtccejkikphpnfaaGreatDoor
set_option linter.unusedSimpArgs false
set_option linter.unusedVariables false
set_option maxRecDepth 100000
open Go.ChangeShapes Go.WideShapes Go.ChangeAt Go.RowKit
def moveL (v : Int) (redo : Bool) : List UInt8 := [2] ++ i4 v ++ b1 redo
/-- Bytes made in memory of their own. -/
def Made (w : World) (l : List UInt8) (e : Ending) (w' : World) : Prop :=
 ∃ a c, e = .returned (.slice a l.length c) ∧ Vw w' a l.length c 1 (bvs l) ∧ (∀ g, blk a = some g → w.heap.size ≤ g ∧ g < w'.heap.size) ∧ Upd (fun _ => False) w w'
set_option maxHeartbeats 4000000 in
theorem mPackMove_any (v : Int) (redo : Bool) (w : World) : Calls Tryz.prog 16 #[.int .i64 v, .bool redo] w (Made w (moveL v redo)) := by
 obtain ⟨K, hK, hW⟩ := Wn.fresh w 86
 have HK := Lib.hid hK
 have HW0 := Lib.hid hW
 clear hK hW
 have HD : Hid (moveL v redo = [2] ++ i4 v ++ b1 redo) := Lib.hid rfl
 generalize moveL v redo = LL at *
 go_enter Tryz.func16, Tryz.ntmps16
 go_upto_region 2 with (fail)
 have hW := HW0.out
 generalize w.alloc (Obj.cells #[Value.slice none 0 0] 86) = x0 at *
 obtain ⟨bw, hbw0⟩ : ∃ bw, w.heap.size = bw := ⟨_, rfl⟩
 rw [hbw0] at hW ⊢
 clear HW0 hbw0
 go_wp2_with fail
 refine (wn_num hW (by simp) 2 1 1 (by omega) (by omega) rfl).mono ?_
 rintro e x1 ⟨rfl, hW1⟩
 clear hW
 have hW := hW1
 clear hW1
 have hl1 : ([] : List UInt8) ++ le (2 : Int).toNat 1 = [2] := rfl
 rw [hl1] at hW
 clear hl1
 go_wp2_with fail
 refine (wn_int hW (by simp) v).mono ?_
 rintro e x1 ⟨rfl, hW1⟩
 clear hW
 have hW := hW1
 clear hW1
 have hl2 : (([2] : List UInt8) ++ i4 v).length ≤ 5 := by rw [List.length_append, i4_length]; simp
 go_wp2_with fail
 refine (wn_bool hW (by omega) redo).mono ?_
 rintro e x1 ⟨rfl, hW1⟩
 clear hW
 have hl3 : LL.length ≤ 6 := by rw [HD.out, List.length_append]; simp only [b1, List.length_cons, List.length_nil]; omega
 rw [← HD.out] at hW1
 have HC := Lib.hid (hW1.old HK.out)
 go_wp2_with fail
 refine (wn_bytes hW1 (by omega)).mono ?_
 rintro e x2 ⟨a2, c2, rfl, hown, hfr, hU3⟩
 have hz := HC.out.size
 have HF := Lib.hid (And.intro (HC.out.trans hU3) (And.intro (Vw.of_own hown) (fun g (hg : blk a2 = some g) => And.intro (Nat.le_trans hz (hfr g hg)) (hown.lt g ((own_blk _ _ _).trans hg)).2)))
 clear hz hown hfr hU3 hW1
 go_wp2_with fail
 go_ret
 exact ⟨a2, c2, rfl, HF.out.2.1, HF.out.2.2, HF.out.1⟩
theorem mNew_any (w : World) : Calls Tryz.prog 20 #[] w fun e w' => ∃ lb, e = .returned (.pointer (some ⟨lb, 0, none⟩)) ∧ LogW w' lb ⟨[], [], [], 0, [], 0⟩ ⟨none, 0, none, 0, none, 0, none, 0⟩ ∧ Upd (fun _ => False) w w' ∧ w.heap.size ≤ lb := by
 have hU := Upd.alloc (fun _ => False) w (.cells (logA ⟨[], [], [], 0, [], 0⟩ ⟨none, 0, none, 0, none, 0, none, 0⟩) 105)
 have hrow := heap_alloc_new w (.cells (logA ⟨[], [], [], 0, [], 0⟩ ⟨none, 0, none, 0, none, 0, none, 0⟩) 105)
 have hL : LogW (w.alloc (.cells (logA ⟨[], [], [], 0, [], 0⟩ ⟨none, 0, none, 0, none, 0, none, 0⟩) 105)) w.heap.size ⟨[], [], [], 0, [], 0⟩ ⟨none, 0, none, 0, none, 0, none, 0⟩ :=
  ⟨hrow, Vw.nl _ _, Vw.nl _ _, Vw.nl _ _, Vw.nl _ _, (fun q e => by cases e), (fun q e => by cases e), (fun q e => by cases e), (fun q e => by cases e)⟩
 unfold logA at hU hL
 have HF := Lib.hid (And.intro hL hU)
 clear hU hrow hL
 go_enter Tryz.func20, Tryz.ntmps20
 go_wp2_with fail
 go_ret
 exact ⟨_, rfl, HF.out.1, HF.out.2, Nat.le_refl _⟩
section
variable {w : World} {lb : Nat} {g : Lg} {A : LA}
theorem mAt_any (h : LogW w lb g A) (h0 : 0 ≤ g.top) (h1 : g.top ≤ 100000) : Calls Tryz.prog 24 #[.pointer (some ⟨lb, 0, none⟩)] w fun e w' => e = .returned (.int .i64 (g.top - 1)) ∧ w = w' := by
 have q := h.c3
 have hw : IntKind.i64.wrap (g.top - 1) = g.top - 1 := IntWalk.i64_in _ (by omega)
 clear h
 go_enter Tryz.func24, Tryz.ntmps24
 go_wp2_with fail
 go_ret
 exact ⟨rfl, rfl⟩
theorem mRecords_any (h : LogW w lb g A) : Calls Tryz.prog 25 #[.pointer (some ⟨lb, 0, none⟩)] w fun e w' => e = .returned (.int .i64 g.n) ∧ w = w' := by
 have q := h.c12
 clear h
 go_enter Tryz.func25, Tryz.ntmps25
 go_wp2_with fail
 go_ret
 exact ⟨rfl, rfl⟩
end
theorem read_any3 (a : Option Addr) (c : Nat) (l : List UInt8) (w : World) (hv : Vw w a l.length c 1 (bvs l)) (hl : l.length ≤ 100000000) :
  Calls Tryz.prog 93 #[.slice a l.length c] w fun e w' => ∃ br F, e = .returned (.pointer (some ⟨br, 0, none⟩)) ∧ Rd w' br F l 0 ∧ Upd (fun _ => False) w w' ∧ w.heap.size ≤ br ∧ (∀ g, F = some g → w.heap.size ≤ g ∧ g < br) := by
 go_enter Tryz.func93, Tryz.ntmps93
 go_wp2_with fail
 refine (clone_any a c l w hv hl).mono ?_
 rintro e w1 ⟨a', c', rfl, hown, hU, hfr, hnil⟩
 have hz := hU.size
 have hvw := Vw.of_own hown
 have hlt : ∀ g, blk a' = some g → w.heap.size ≤ g ∧ g < w1.heap.size := fun g hg => ⟨hfr g hg, (hown.lt g ((own_blk _ _ _).trans hg)).2⟩
 clear hfr
 have Hlt := Lib.hid hlt; clear hlt
 go_wp2_with fail
 go_ret
 refine ⟨w1.heap.size, blk a', rfl, ⟨⟨a', c', heap_alloc_new _ _, hvw.upd (Upd.alloc (fun _ => False) _ _) (fun _ _ h => h), .inr rfl⟩, ?_⟩, hU.trans (Upd.alloc _ _ _), hz, Hlt.out⟩
 intro e; exact absurd (Hlt.out _ e).2 (Nat.lt_irrefl _)
def ReadRoot (w : World) (lb : Nat) (p : Int) (ks : List Ky) (k : Int) (e : Ending) (w' : World) : Prop :=
 ∃ L2 BX a2 c2, e = .returned (.tuple #[.func (.func 96) #[] #[.pointer (some ⟨L2, 0, none⟩), .pointer (some ⟨BX, 0, none⟩)], .int .i64 0]) ∧ w'.heap[L2]? = some (.cells #[.pointer (some ⟨lb, 0, none⟩)] 42) ∧ w'.heap[BX]? = some (.cells (rootA p a2 ks.length c2 k) 26) ∧
  Vw w' a2 ks.length c2 32 (ks.flatMap kyV) ∧ (∀ q, blk a2 = some q → w.heap.size ≤ q) ∧ Upd (fun _ => False) w w'
set_option maxHeartbeats 8000000 in
theorem read_root (lb : Nat) (p : Int) (ks : List Ky) (k : Int) (h : RootIn p ks.length k) (a : Option Addr) (c : Nat) (w : World) (hv : Vw w a (rootL p ks k).length c 1 (bvs (rootL p ks k))) :
  Calls Tryz.prog 57 #[.pointer (some ⟨lb, 0, none⟩), .slice a (rootL p ks k).length c] w (ReadRoot w lb p ks k) := by
 have hLr := rootL_eq p ks k
 have hll : (rootL p ks k).length ≤ 64021 := by have := rootR_len p ks k h.n1; rw [hLr, List.length_append, List.length_singleton]; omega
 have hU0 := Upd.alloc (fun _ => False) w (.cells #[.pointer (some ⟨lb, 0, none⟩)] 42)
 have hb0 := heap_alloc_new w (.cells #[.pointer (some ⟨lb, 0, none⟩)] 42)
 have HI0 := Lib.hid hv
 have HI := Lib.hid (And.intro (hv.upd hU0 (fun _ _ h => h)) (And.intro hb0 hU0))
 have HLr := Lib.hid hLr
 have HR := Lib.hid h
 generalize hLL : rootL p ks k = l at *
 have HLL := Lib.hid hLL
 clear hv hU0 hb0 hLr hLL
 go_enter Tryz.func57, Tryz.ntmps57
 go_upto_region 1 with (fail)
 generalize w.alloc (.cells #[.pointer (some ⟨lb, 0, none⟩)] 42) = y0 at *
 obtain ⟨L2, hL2⟩ : ∃ B, w.heap.size = B := ⟨_, rfl⟩
 rw [hL2] at HI ⊢
 have HB := Lib.hid hL2
 clear hL2
 go_wp2_with fail
 refine (read_any3 a c l y0 HI.out.1 (by omega)).mono ?_
 rintro e w1 ⟨br, F, rfl, hR, hU, hbr, hF⟩
 obtain ⟨BR, hBR⟩ : ∃ B, w1.heap.size = B := ⟨_, rfl⟩
 have hbrl : br < BR := by
  obtain ⟨a9, c9, hh, _⟩ := hR.ex
  rw [← hBR]
  exact lt_of_heap hh
 have hz0 := hU.size
 have hUn := Upd.alloc (fun _ => False) w1 (.cells #[.pointer (some ⟨br, 0, none⟩)] 139)
 have hrow := heap_alloc_new w1 (.cells #[.pointer (some ⟨br, 0, none⟩)] 139)
 have hL2 := ((hU.trans hUn).block L2 (lt_of_heap HI.out.2.1) (fun h => h)).trans HI.out.2.1
 have hltL := lt_of_heap HI.out.2.1
 have hvn := HI.out.1.upd (hU.trans hUn) (fun _ _ h => h)
 have hUw := HI.out.2.2.trans (hU.trans hUn)
 rw [hBR] at hrow
 have HJ := Lib.hid (And.intro (hR.upd hUn (fun h => h) (fun _ _ h => h)) (And.intro hrow (And.intro hL2 (And.intro hvn hUw))))
 have hnum := rnum_any br F ⟨l, 0⟩ 1 _ HJ.out.1 (by show l.length ≤ _; omega)
 have hlt : takeS (heldN 1) ⟨l, 0⟩ = ([1], ⟨rootR p ks k, 0⟩) := by rw [HLr.out]; exact takeS_app' 1 [1] _ rfl
 rw [hlt] at hnum
 have hF2 : ∀ g, F = some g → g < BR := fun g hg => by have := (hF g hg).2; omega
 have hFL : ∀ g, F = some g → L2 < g := fun g hg => by have := (hF g hg).1; omega
 have hbrL : L2 < br := by omega
 have HN := Lib.hid (And.intro hbrl (And.intro hF2 (And.intro hFL hbrL)))
 clear hR hU hbr hF hbrl hz0 hUn hrow hL2 hltL hvn hUw hlt hF2 hFL hbrL HI
 have hln : (leN [1] : Int) = 1 := rfl
 unfold ReadN at hnum
 dsimp only at hnum
 rw [hln] at hnum
 clear hln
 go_upto_region 5 with (fail)
 generalize w1.alloc (.cells #[.pointer (some ⟨br, 0, none⟩)] 139) = w2 at *
 clear hBR
 have q : w2.cell? ⟨BR, 0, none⟩ = some (.pointer (some ⟨br, 0, none⟩)) := by rw [cell_of_row _ _ _ _ _ _ HJ.out.2.1]; rfl
 go_wp2_with fail
 refine hnum.mono ?_
 rintro e w3 ⟨rfl, hR, hU⟩
 have hn1 := HN.out.1
 have hn2 := HN.out.2.2.2
 have hrow := (hU.block BR (lt_of_heap HJ.out.2.1) (by omega)).trans HJ.out.2.1
 have hL2 := (hU.block L2 (lt_of_heap HJ.out.2.2.1) (by omega)).trans HJ.out.2.2.1
 have hBz := lt_of_heap hrow
 have HB' := HB.out
 have hUw : Upd (fun _ => False) w w3 := HJ.out.2.2.2.2.next hU (fun i hi e => by omega)
 have hvn := HJ.out.2.2.2.1
 have hmr := mrroot_any p ks k HR.out br F w3 hR (fun g hg => by have := HN.out.2.1 g hg; omega)
 clear q hnum
 have q : w3.cell? ⟨BR, 0, none⟩ = some (.pointer (some ⟨br, 0, none⟩)) := by rw [cell_of_row _ _ _ _ _ _ hrow]; rfl
 have HK := Lib.hid (And.intro hL2 (And.intro hUw hBz))
 clear hR hU hrow hL2 hUw hBz HB' hvn hn1 hn2
 go_wp2_with fail
 refine hmr.mono ?_
 rintro e w4 ⟨a2, c2, rfl, hown, hfr, hU4⟩
 obtain ⟨BX, hBX⟩ : ∃ B, w4.heap.size = B := ⟨_, rfl⟩
 have hUx := Upd.alloc (fun _ => False) w4 (.cells (rootA p a2 ks.length c2 k) 26)
 have hrx := heap_alloc_new w4 (.cells (rootA p a2 ks.length c2 k) 26)
 rw [hBX] at hrx
 have hv2 := (Vw.of_own hown).upd hUx (fun _ _ h => h)
 have hn1 := HN.out.1
 have hn2 := HN.out.2.2.2
 have hB0 := HB.out
 have hU04 := (HK.out.2.1.next hU4 (fun i hi e => by omega)).trans hUx
 have hL4 := (hUx.block L2 (Nat.lt_of_lt_of_le (lt_of_heap HK.out.1) hU4.size) (fun h => h)).trans ((hU4.block L2 (lt_of_heap HK.out.1) (by omega)).trans HK.out.1)
 have hfr2 : ∀ q, blk a2 = some q → w.heap.size ≤ q := fun q hq => by have := hfr q hq; have := HK.out.2.1.size; omega
 have hvn := HJ.out.2.2.2.1
 have hpk := mPackRoot_any p a2 c2 ks k _ HR.out hv2
 rw [HLL.out] at hpk
 unfold rootA at hUx hrx hpk hU04 hL4 hv2 ⊢
 have HX := Lib.hid (And.intro hL4 (And.intro hrx (And.intro hv2 (And.intro hfr2 hU04))))
 clear hUx hrx hv2 hn1 hn2 hB0 hU04 hL4 hfr2 hvn hmr hown hfr hU4 q HJ
 go_upto_region 8 with (fail)
 generalize w4.alloc (.cells #[.int .i64 p, .slice a2 ks.length c2, .slice none 0 0, .slice none 0 0, .int .i64 k] 26) = w5 at *
 clear hBX
 have hrx := HX.out.2.1
 go_wp2_with (refine wpList_load_row rfl 26 (.tmp 10) rfl BX #[.int .i64 p, .slice a2 ks.length c2, .slice none 0 0, .slice none 0 0, .int .i64 k] 26 (0, 0) _ rfl hrx Tryz.underlying26 rfl (by rw [infoRoot]; rfl) ?_)
 refine hpk.mono ?_
 unfold Packed
 rintro e w6 ⟨a3, c3, rfl, hv3, hf3, hU6⟩
 have hva := HI0.out.upd (HX.out.2.2.2.2.trans hU6) (fun _ _ h => h)
 have hse := slEqB_any a3 a c3 c l l w6 hv3 hva
 have hbb : (l == l) = true := by simp
 rw [hbb] at hse
 have HY := Lib.hid (And.intro ((hU6.block L2 (lt_of_heap HX.out.1) (fun h => h)).trans HX.out.1) (And.intro ((hU6.block BX (lt_of_heap HX.out.2.1) (fun h => h)).trans HX.out.2.1) (And.intro (HX.out.2.2.1.upd hU6 (fun _ _ h => h)) (And.intro HX.out.2.2.2.1 (HX.out.2.2.2.2.trans hU6)))))
 clear hpk hv3 hf3 hU6 hva hrx hbb HX HK HN
 go_wp2_with fail
 refine hse.mono ?_
 rintro e w7 ⟨rfl, hU7⟩
 have HZ := Lib.hid (And.intro ((hU7.block L2 (lt_of_heap HY.out.1) (fun h => h)).trans HY.out.1) (And.intro ((hU7.block BX (lt_of_heap HY.out.2.1) (fun h => h)).trans HY.out.2.1) (And.intro (HY.out.2.2.1.upd hU7 (fun _ _ h => h)) (And.intro HY.out.2.2.2.1 (HY.out.2.2.2.2.trans hU7)))))
 clear hse hU7 HY
 go_wp2_with fail
 go_ret2
 exact ⟨L2, BX, a2, c2, rfl, HZ.out⟩
structure Enc {X : Type} (f : RS → X × RS) (enc : X → List UInt8) (C : Nat) : Prop where
 le : ∀ s, (enc (f s).1).length + (f s).2.l.length ≤ s.l.length + C
 ok : ∀ s, s.e = 0 → (f s).2.e = 0 → (enc (f s).1).length + (f s).2.l.length ≤ s.l.length
theorem Enc.list {X : Type} {f : RS → X × RS} {enc : X → List UInt8} {C : Nat} (h : Enc f enc C) (hf : Goes f) : ∀ n s, ((listS f n s).1.flatMap enc).length + (listS f n s).2.l.length ≤ s.l.length + C ∧ (s.e = 0 → (listS f n s).2.e = 0 → ((listS f n s).1.flatMap enc).length + (listS f n s).2.l.length ≤ s.l.length)
 | 0, s => ⟨by simp [listS], fun _ _ => by simp [listS]⟩
 | n + 1, s => by
  by_cases he : s.e = 0
  ·rw [listS_go f n s he]
   dsimp only
   rw [List.flatMap_cons, List.length_append]
   by_cases h1 : (f s).2.e = 0
   ·have ih := Enc.list h hf n (f s).2
    have h2 := h.ok s he h1
    exact ⟨by have := ih.1; omega, fun _ h3 => by have := ih.2 h1 h3; omega⟩
   ·rw [listS_stop f n _ h1]
    have h2 := h.le s
    exact ⟨by simp; omega, fun _ h3 => absurd h3 h1⟩
  ·rw [listS_stop f _ s he]
   exact ⟨by simp, fun h => absurd h he⟩
theorem take_enc (n : Nat) (s : RS) : n + (takeS n s).2.l.length ≤ s.l.length + n ∧ (s.e = 0 → (takeS n s).2.e = 0 → n + (takeS n s).2.l.length ≤ s.l.length) := by
 have h := takeS_len n s
 refine ⟨by omega, fun he h2 => ?_⟩
 unfold takeS at h2 ⊢
 rw [if_neg (by simp [he])] at h2 ⊢
 split
 ·rename_i h3; rw [if_pos h3] at h2; exact absurd h2 (by decide)
 ·simp; omega
/-- A number ahead of a list, and the list. -/
theorem Enc.some {X : Type} {f : RS → X × RS} {enc : X → List UInt8} {C : Nat} (h : Enc f enc C) (hf : Goes f) : Enc (someS f) (fun l => i4 l.length ++ l.flatMap enc) (C + 4) := by
 refine ⟨fun s => ?_, fun s he h2 => ?_⟩
 ·rw [List.length_append, i4_length]
  have h1 := (take_enc 4 s).1
  have h3 := (h.list hf (intV s).toNat (takeS 4 s).2).1
  unfold someS
  omega
 ·rw [List.length_append, i4_length]
  have hk : (takeS 4 s).2.e = 0 := by
   by_cases e : (takeS 4 s).2.e = 0
   ·exact e
   ·exact absurd h2 ((list_goes hf _).stuck _ e)
  have h1 := (take_enc 4 s).2 he hk
  have h3 := (h.list hf (intV s).toNat (takeS 4 s).2).2 hk h2
  unfold someS at h2 ⊢
  omega
theorem Enc.two {X Y Z : Type} {f : RS → X × RS} {g : RS → Y × RS} {k : RS → Z × RS} {ef : X → List UInt8} {eg : Y → List UInt8} {ek : Z → List UInt8} {C D : Nat} (hf : Enc f ef C) (hg : Enc g eg D) (gg : Goes g)
  (hk : ∀ s, (k s).2 = (g (f s).2).2) (he : ∀ s, (ek (k s).1).length = (ef (f s).1).length + (eg (g (f s).2).1).length) : Enc k ek (C + D) := by
 refine ⟨fun s => ?_, fun s h1 h2 => ?_⟩
 ·have a := hf.le s
  have b := hg.le (f s).2
  rw [he, hk]; omega
 ·rw [hk] at h2
  have h3 : (f s).2.e = 0 := by
   by_cases e : (f s).2.e = 0
   ·exact e
   ·exact absurd h2 (gg.stuck _ e)
  have a := hf.ok s h1 h3
  have b := hg.ok (f s).2 h3 h2
  rw [he, hk]; omega
theorem int_enc : Enc intF i4 4 := ⟨fun s => by rw [i4_length]; exact (take_enc 4 s).1, fun s h h2 => by rw [i4_length]; exact (take_enc 4 s).2 h h2⟩
theorem takeS_both (n : Nat) (s : RS) : (takeS n s).1.length + (takeS n s).2.l.length ≤ s.l.length := by
 unfold takeS
 split
 ·simp
 ·split
  ·simp
  ·simp; omega
theorem text_enc : Enc textS tx 4 := by
 refine ⟨fun s => ?_, fun s h h2 => ?_⟩
 ·rw [tx_len]
  unfold textS
  have h1 := takeS_len 4 s
  split
  ·simp; omega
  ·split
   ·simp
   ·have := takeS_both (intV s).toNat (takeS 4 s).2; omega
 ·rw [tx_len]
  unfold textS at h2 ⊢
  by_cases h4 : (takeS 4 s).2.e ≠ 0
  ·rw [if_pos h4] at h2; exact absurd h2 h4
  ·rw [if_neg h4] at h2 ⊢
   have h1 := (take_enc 4 s).2 h (by simpa using h4)
   split
   ·rename_i h5; rw [if_pos h5] at h2; exact absurd h2 (by decide)
   ·have := takeS_both (intV s).toNat (takeS 4 s).2; omega
theorem bool_enc : Enc boolS b1 1 := by
 refine ⟨fun s => ?_, fun s h h2 => ?_⟩
 ·rw [b1_len]; have := bool_goes.le s; omega
 ·rw [b1_len]
  unfold boolS at h2 ⊢
  split
  ·rename_i h5; rw [if_pos h5] at h2; exact absurd h2 (by decide)
  ·rename_i h5
   rw [if_neg h5] at h2
   exact (take_enc 1 s).2 h h2
theorem fl_enc : Enc flS encF 9 :=
 (text_enc.two (bool_enc.two text_enc text_goes (k := fun s => (((boolS s).1, (textS (boolS s).2).1), (textS (boolS s).2).2)) (ek := fun p => b1 p.1 ++ tx p.2) (fun _ => rfl) (fun s => by rw [List.length_append]))
  (bool_goes.seq text_goes (fun _ => rfl)) (k := flS) (ek := encF) (fun _ => rfl) (fun s => by unfold encF flS; simp only [List.length_append]; omega))
theorem st_enc : Enc stS stBC 17 :=
 int_enc.two (fl_enc.some fl_eats.toGoes) (some_goes fl_eats.toGoes) (k := stS) (ek := stBC) (fun _ => rfl) (fun s => by unfold stBC flsB stS intF; rw [List.length_append])
theorem cl_enc : Enc clS clB 12 :=
 (text_enc.two (int_enc.two text_enc text_goes (k := fun s => (((intF s).1, (textS (intF s).2).1), (textS (intF s).2).2)) (ek := fun p => i4 p.1 ++ tx p.2) (fun _ => rfl) (fun s => by rw [List.length_append]))
  (int_eats.toGoes.seq text_goes (fun _ => rfl)) (k := clS) (ek := clB) (fun _ => rfl) (fun s => by unfold clB clS intF; simp only [List.length_append]; omega))
theorem waitS_len (s : RS) : (waitGC (waitS s).1).length ≤ s.l.length + 100 := by
 rw [waitGC_len]
 have h1 := (st_enc.some st_eats.toGoes).le (wS0 s)
 have h2 := (cl_enc.some cl_eats.toGoes).le (wS1 s).2
 have h3 : (wS0 s).l.length ≤ s.l.length := by
  unfold wS0
  have a := takeS_len 4 (takeS 4 (takeS 4 (boolS s).2).2).2
  have b := takeS_len 4 (takeS 4 (boolS s).2).2
  have c := takeS_len 4 (boolS s).2
  have d := bool_goes.le s
  omega
 rw [List.length_append, i4_length] at h1 h2
 have e1 : (waitS s).1.ss = (wS1 s).1 := rfl
 have e2 : (waitS s).1.cs = (wS2 s).1 := rfl
 have e3 : wS1 s = someS stS (wS0 s) := rfl
 have e4 : wS2 s = someS clS (wS1 s).2 := rfl
 rw [e1, e2, e4]
 rw [← e3] at h1
 omega
def ReadNo (w : World) (e : Ending) (w' : World) : Prop := e = .returned (.tuple #[.nilFunc, .int .i64 5]) ∧ Upd (fun _ => False) w w'
def okRoot (l : List UInt8) : Bool := rootBC (rootS (s1L l)).1 && (rootGC (rootS (s1L l)).1 == l)
def okWait (l : List UInt8) : Bool := waitBC (waitS (s1L l)).1 && (waitGC (waitS (s1L l)).1 == l)
def DoRoot (w : World) (lb : Nat) (v : RC) (e : Ending) (w' : World) : Prop :=
 ∃ L2 BX r, e = .returned (.tuple #[.func (.func 96) #[] #[.pointer (some ⟨L2, 0, none⟩), .pointer (some ⟨BX, 0, none⟩)], .int .i64 0]) ∧ w'.heap[L2]? = some (.cells #[.pointer (some ⟨lb, 0, none⟩)] 42) ∧ w'.heap[BX]? = some (.cells (rtA r) 26) ∧
  rtC r = v ∧ RtIn w' r ∧ RtBl (fun g => w.heap.size ≤ g ∧ g < w'.heap.size) r ∧ Upd (fun _ => False) w w'
def DoWait (w : World) (lb : Nat) (v : WC) (e : Ending) (w' : World) : Prop :=
 ∃ L2 BX p, e = .returned (.tuple #[.func (.func 103) #[] #[.pointer (some ⟨BX, 0, none⟩), .pointer (some ⟨L2, 0, none⟩)], .int .i64 0]) ∧ w'.heap[L2]? = some (.cells #[.pointer (some ⟨lb, 0, none⟩)] 42) ∧ w'.heap[BX]? = some (.cells (wtA p) 30) ∧
  (p.on = true ∧ wtC p = v) ∧ WtIn w' p ∧ WtBl (fun g => w.heap.size ≤ g ∧ g < w'.heap.size) p ∧ Upd (fun _ => False) w w'
def ReadRt (w : World) (lb : Nat) (l : List UInt8) (e : Ending) (w' : World) : Prop := if okRoot l = true then DoRoot w lb (rootS (s1L l)).1 e w' else ReadNo w e w'
def ReadWt (w : World) (lb : Nat) (l : List UInt8) (e : Ending) (w' : World) : Prop := if okWait l = true then DoWait w lb (waitS (s1L l)).1 e w' else ReadNo w e w'
theorem rtC_no {r : Rt} (h : false = rootBC (rtC r)) : rootBC (rtC r) = false := h.symm
theorem rtC_yes {r : Rt} (h : true = rootBC (rtC r)) : rootBC (rtC r) = true := h.symm
theorem wtC_no {p : Wt} (h : false = waitBC (wtC p)) : waitBC (wtC p) = false := h.symm
theorem wtC_yes {p : Wt} (h : true = waitBC (wtC p)) : waitBC (wtC p) = true := h.symm
set_option maxHeartbeats 16000000 in
theorem read_rootX (lb : Nat) (a : Option Addr) (c : Nat) (l : List UInt8) (w : World) (hv : Vw w a l.length c 1 (bvs l)) (hl : l.length ≤ 70000000) (hk : kindL l = 1) :
  Calls Tryz.prog 57 #[.pointer (some ⟨lb, 0, none⟩), .slice a l.length c] w (ReadRt w lb l) := by
 have HOK : Hid (okRoot l = (rootBC (rootS (s1L l)).1 && (rootGC (rootS (s1L l)).1 == l))) := Lib.hid rfl
 have HG1 : Hid (okRoot l = true → ∀ e w', DoRoot w lb (rootS (s1L l)).1 e w' → ReadRt w lb l e w') := Lib.hid (fun h e w' hd => by unfold ReadRt; rw [if_pos h]; exact hd)
 have HG0 : Hid (okRoot l = false → ∀ e w', ReadNo w e w' → ReadRt w lb l e w') := Lib.hid (fun h e w' hd => by unfold ReadRt; rw [h, if_neg (by decide)]; exact hd)
 generalize ReadRt w lb l = GG at *
 generalize okRoot l = OO at *
 have hU0 := Upd.alloc (fun _ => False) w (.cells #[.pointer (some ⟨lb, 0, none⟩)] 42)
 have hb0 := heap_alloc_new w (.cells #[.pointer (some ⟨lb, 0, none⟩)] 42)
 have HI0 := Lib.hid hv
 have HI := Lib.hid (And.intro (hv.upd hU0 (fun _ _ h => h)) (And.intro hb0 hU0))
 have hkk : takeS (heldN 1) ⟨l, 0⟩ = ((takeS 1 ⟨l, 0⟩).1, s1L l) := rfl
 have hkl : leN (takeS 1 ⟨l, 0⟩).1 = 1 := hk
 have hs1 : (s1L l).l.length ≤ l.length := takeS_len 1 ⟨l, 0⟩
 have HK := Lib.hid (And.intro hkk (And.intro hkl hs1))
 clear hv hU0 hb0 hkk hkl hs1 hk
 go_enter Tryz.func57, Tryz.ntmps57
 go_upto_region 1 with (fail)
 generalize w.alloc (.cells #[.pointer (some ⟨lb, 0, none⟩)] 42) = y0 at *
 obtain ⟨L2, hL2⟩ : ∃ B, w.heap.size = B := ⟨_, rfl⟩
 rw [hL2] at HI ⊢
 have HB := Lib.hid hL2
 clear hL2
 go_wp2_with fail
 refine (read_any3 a c l y0 HI.out.1 (by omega)).mono ?_
 rintro e w1 ⟨br, F, rfl, hR, hU, hbr, hF⟩
 obtain ⟨BR, hBR⟩ : ∃ B, w1.heap.size = B := ⟨_, rfl⟩
 have hbrl : br < BR := by
  obtain ⟨a9, c9, hh, _⟩ := hR.ex
  rw [← hBR]
  exact lt_of_heap hh
 have hz0 := hU.size
 have hUn := Upd.alloc (fun _ => False) w1 (.cells #[.pointer (some ⟨br, 0, none⟩)] 139)
 have hrow := heap_alloc_new w1 (.cells #[.pointer (some ⟨br, 0, none⟩)] 139)
 have hL2 := ((hU.trans hUn).block L2 (lt_of_heap HI.out.2.1) (fun h => h)).trans HI.out.2.1
 have hltL := lt_of_heap HI.out.2.1
 have hUw := HI.out.2.2.trans (hU.trans hUn)
 rw [hBR] at hrow
 have HJ := Lib.hid (And.intro (hR.upd hUn (fun h => h) (fun _ _ h => h)) (And.intro hrow (And.intro hL2 hUw)))
 have hnum := rnum_any br F ⟨l, 0⟩ 1 _ HJ.out.1 (by show l.length ≤ _; omega)
 rw [HK.out.1] at hnum
 unfold ReadN at hnum
 dsimp only at hnum
 rw [HK.out.2.1] at hnum
 have hF2 : ∀ g, F = some g → g < BR := fun g hg => by have := (hF g hg).2; omega
 have hbrL : L2 < br := by omega
 have HN := Lib.hid (And.intro hbrl (And.intro hF2 (And.intro hbrL (fun g (hg : F = some g) => show L2 < g from by have := (hF g hg).1; omega))))
 have HS1 : Hid ((s1L l).l.length ≤ 100000000) := Lib.hid (by have := HK.out.2.2; omega)
 clear hR hU hbr hF hbrl hz0 hUn hrow hL2 hltL hUw hF2 hbrL HI HK
 generalize s1L l = s1 at *
 go_upto_region 5 with (fail)
 generalize w1.alloc (.cells #[.pointer (some ⟨br, 0, none⟩)] 139) = w2 at *
 clear hBR
 have q : w2.cell? ⟨BR, 0, none⟩ = some (.pointer (some ⟨br, 0, none⟩)) := by rw [cell_of_row _ _ _ _ _ _ HJ.out.2.1]; rfl
 go_wp2_with fail
 refine hnum.mono ?_
 rintro e w3 ⟨rfl, hR, hU⟩
 have hn1 := HN.out.1
 have hn2 := HN.out.2.2.1
 have hrow := (hU.block BR (lt_of_heap HJ.out.2.1) (by omega)).trans HJ.out.2.1
 have hL2 := (hU.block L2 (lt_of_heap HJ.out.2.2.1) (by omega)).trans HJ.out.2.2.1
 have hBz := lt_of_heap hrow
 have HB' := HB.out
 have hUw : Upd (fun _ => False) w w3 := HJ.out.2.2.2.next hU (fun i hi e => by omega)
 have HR := Lib.hid (And.intro hR (And.intro hrow (And.intro hL2 (And.intro hUw hBz))))
 clear q hnum
 have q : w3.cell? ⟨BR, 0, none⟩ = some (.pointer (some ⟨br, 0, none⟩)) := by rw [cell_of_row _ _ _ _ _ _ hrow]; rfl
 clear hR hU hrow hL2 hUw hBz HB' hn1 hn2 HJ
 have hmr := mrroot_gen br F s1 w3 HR.out.1 (fun g hg => by have := HN.out.2.1 g hg; have := HR.out.2.2.2.2; omega) HS1.out
 go_wp2_with fail
 refine hmr.mono ?_
 unfold GotRt
 rintro e w4 ⟨r, rfl, hcc, hin, hbl, _, hU4⟩
 rw [← hcc] at HOK HG1
 have HCC := Lib.hid hcc
 clear hmr q hcc
 have hn := HN.out
 have hL4 := (hU4.block L2 (lt_of_heap HR.out.2.2.1) (by omega)).trans HR.out.2.2.1
 have hUw4 : Upd (fun _ => False) w w4 := HR.out.2.2.2.1.next hU4 (fun i hi e => by have := HB.out; omega)
 have hz3 := HR.out.2.2.2.1.size
 have hbl2 : RtBl (fun g => w.heap.size ≤ g ∧ g < w4.heap.size) r := hbl.mono (fun g hg => ⟨by omega, hg.2⟩)
 have HH := Lib.hid (And.intro hL4 (And.intro hUw4 (And.intro hin hbl2)))
 clear hL4 hUw4 hz3 hbl hbl2 hin hU4 hn HR HN
 obtain ⟨BX, hBX⟩ : ∃ B, w4.heap.size = B := ⟨_, rfl⟩
 have hUx := Upd.alloc (fun _ => False) w4 (.cells (rtA r) 26)
 have hrx := heap_alloc_new w4 (.cells (rtA r) 26)
 rw [hBX] at hrx
 have hin5 := HH.out.2.2.1.upd hUx
 have hz5 := hUx.size
 have HX : Hid (World.heap (w4.alloc (.cells (rtA r) 26)) = World.heap (w4.alloc (.cells (rtA r) 26)) ∧ (w4.alloc (.cells (rtA r) 26)).heap[L2]? = some (.cells #[.pointer (some ⟨lb, 0, none⟩)] 42) ∧ (w4.alloc (.cells (rtA r) 26)).heap[BX]? = some (.cells (rtA r) 26) ∧ RtIn (w4.alloc (.cells (rtA r) 26)) r ∧ RtBl (fun g => w.heap.size ≤ g ∧ g < (w4.alloc (.cells (rtA r) 26)).heap.size) r ∧ Upd (fun _ => False) w (w4.alloc (.cells (rtA r) 26))) :=
  Lib.hid ⟨rfl, (hUx.block L2 (lt_of_heap HH.out.1) (fun h => h)).trans HH.out.1, hrx, hin5, HH.out.2.2.2.mono (fun g hg => ⟨hg.1, Nat.lt_of_lt_of_le hg.2 hz5⟩), HH.out.2.1.trans hUx⟩
 have hBc : rootB r = rootBC (rtC r) := rootB_c r
 have hGc : rootG r = rootGC (rtC r) := rootG_c r
 have HBC := Lib.hid (And.intro hBc hGc)
 clear hUx hrx hin5 hz5 HH hBc hGc
 have hpk := mPackRoot_gen r _ HX.out.2.2.2.1
 have hRR : rootGR r = if rootB r then rootG r else [] := rfl
 have hEE : rootGE r = if rootB r then 0 else 5 := rfl
 generalize rootGR r = RL at *
 generalize rootGE r = EE at *
 have HRE := Lib.hid (And.intro hRR hEE)
 clear hRR hEE
 obtain ⟨r0, hr0⟩ : ∃ r0, r0 = r := ⟨_, rfl⟩
 rw [← hr0] at HX HRE HBC HOK HG1 HCC
 have HR0 := Lib.hid hr0
 clear hr0
 obtain ⟨p, ca, cc, ks, ma, mc, ms, na, nc, ns, k⟩ := r
 have hAl : rtA r0 = #[.int .i64 p, .slice ca ks.length cc, .slice ma ms.length mc, .slice na ns.length nc, .int .i64 k] := by rw [HR0.out]; rfl
 rw [hAl] at HX
 unfold rtA at hpk ⊢
 dsimp only at hpk ⊢
 have HAL := Lib.hid hAl
 clear hAl
 go_upto_region 8 with (fail)
 generalize w4.alloc (.cells #[.int .i64 p, .slice ca ks.length cc, .slice ma ms.length mc, .slice na ns.length nc, .int .i64 k] 26) = w5 at *
 clear hBX
 have hrx := HX.out.2.2.1
 go_wp2_with (refine wpList_load_row rfl 26 (.tmp 10) rfl BX #[.int .i64 p, .slice ca ks.length cc, .slice ma ms.length mc, .slice na ns.length nc, .int .i64 k] 26 (0, 0) _ rfl hrx Tryz.underlying26 rfl (by rw [infoRoot]; rfl) ?_)
 refine hpk.mono ?_
 unfold Packed
 rintro e w6 ⟨a3, c3, rfl, hv3, hf3, hU6⟩
 have HY : Hid (w6.heap[L2]? = some (.cells #[.pointer (some ⟨lb, 0, none⟩)] 42) ∧ w6.heap[BX]? = some (.cells #[.int .i64 p, .slice ca ks.length cc, .slice ma ms.length mc, .slice na ns.length nc, .int .i64 k] 26) ∧ RtIn w6 r0 ∧ RtBl (fun g => w.heap.size ≤ g ∧ g < w6.heap.size) r0 ∧ Upd (fun _ => False) w w6) :=
  Lib.hid ⟨(hU6.block L2 (lt_of_heap HX.out.2.1) (fun h => h)).trans HX.out.2.1, (hU6.block BX (lt_of_heap HX.out.2.2.1) (fun h => h)).trans HX.out.2.2.1, HX.out.2.2.2.1.upd hU6, HX.out.2.2.2.2.1.mono (fun g hg => ⟨hg.1, Nat.lt_of_lt_of_le hg.2 hU6.size⟩), HX.out.2.2.2.2.2.trans hU6⟩
 have HV3 := Lib.hid hv3
 clear hpk hv3 hf3 hU6 hrx HX
 cases hB : rootB r0 with
 | false =>
  have hE := HRE.out.2
  rw [hB] at hE
  simp only [Bool.false_eq_true, if_false] at hE
  subst hE
  have HF : Hid (OO = false) := Lib.hid (by have h1 := HBC.out.1; rw [hB] at h1; rw [HOK.out, rtC_no h1]; rfl)
  clear hB
  go_wp2_with fail
  try go_ret2
  exact HG0.out HF.out _ _ ⟨rfl, HY.out.2.2.2.2⟩
 | true =>
  have hE := HRE.out.2
  have hL := HRE.out.1
  rw [hB] at hE hL
  simp only [if_true] at hE hL
  subst hE
  have h1 := HBC.out.1
  rw [hB] at h1
  have hOK : OO = (RL == l) := by rw [HOK.out, rtC_yes h1, hL, HBC.out.2]; rfl
  have HOK2 := Lib.hid hOK
  have hse := slEqB_any a3 a c3 c RL l w6 HV3.out (HI0.out.upd HY.out.2.2.2.2 (fun _ _ h => h))
  rw [← hOK] at hse
  clear hB h1 hOK hL HV3
  go_wp2_with fail
  refine hse.mono ?_
  rintro e w7 ⟨rfl, hU7⟩
  have HZ : Hid (w7.heap[L2]? = some (.cells #[.pointer (some ⟨lb, 0, none⟩)] 42) ∧ w7.heap[BX]? = some (.cells #[.int .i64 p, .slice ca ks.length cc, .slice ma ms.length mc, .slice na ns.length nc, .int .i64 k] 26) ∧ RtIn w7 r0 ∧ RtBl (fun g => w.heap.size ≤ g ∧ g < w7.heap.size) r0 ∧ Upd (fun _ => False) w w7) :=
   Lib.hid ⟨(hU7.block L2 (lt_of_heap HY.out.1) (fun h => h)).trans HY.out.1, (hU7.block BX (lt_of_heap HY.out.2.1) (fun h => h)).trans HY.out.2.1, HY.out.2.2.1.upd hU7, HY.out.2.2.2.1.mono (fun g hg => ⟨hg.1, Nat.lt_of_lt_of_le hg.2 hU7.size⟩), HY.out.2.2.2.2.trans hU7⟩
  clear hse hU7 HY
  cases OO with
  | false =>
   go_wp2_with fail
   try go_ret2
   exact HG0.out (by first | rfl | trivial) _ _ ⟨rfl, HZ.out.2.2.2.2⟩
  | true =>
   go_wp2_with fail
   try go_ret2
   exact HG1.out (by first | rfl | trivial) _ _ ⟨L2, BX, r0, rfl, HZ.out.1, by rw [HAL.out]; exact HZ.out.2.1, rfl, HZ.out.2.2.1, HZ.out.2.2.2.1, HZ.out.2.2.2.2⟩
end Go.Proofs.YtccejkikphpnfaaGreatDoor
