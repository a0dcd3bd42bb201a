
/- The reference's TakeCommit. -/
import Derived.Test.YteefceainlfdfaaDoorTake6
namespace Go.Proofs.YteefceainlfdfaaDoor
set_option linter.unusedSimpArgs false
set_option linter.unusedVariables false
set_option maxRecDepth 100000
open Go.ChangeShapes Go.WideShapes Go.ChangeAt Go.RowKit

theorem lt_br {w : World} {br : Nat} {F : Option Nat} {s : RS} (h : Rf w br F s) : br < w.heap.size := by
  obtain ⟨⟨a9, c9, l9, p9, e9, hh, _⟩, _⟩ := h
  exact lt_of_heap hh
set_option maxHeartbeats 8000000 in
theorem r15TakeCommit_any (a : Option Addr) (c : Nat) (l : List UInt8) (w : World) (hv : Vw w a l.length c 1 (bvs l)) (hl : l.length ≤ 100000) (hb : ∀ b, blk a = some b → b < w.heap.size) :
    Calls Tryd.prog 38 #[.slice a l.length c] w (TookC w (tcomC l) (tcomE l)) := by
  have hUz := Upd.alloc (fun _ => False) w (.cells Tryd.zeroCells41 41)
  have hrz : (w.alloc (.cells Tryd.zeroCells41 41)).heap[w.heap.size]? = some (.cells Tryd.zeroCells41 41) := heap_alloc_new w _
  have hvz := hv.upd hUz (fun _ _ h => h)
  have hk := r15Kind_any a c l _ hvz
  have hkne := kind_ne l
  have hzz : (w.alloc (.cells Tryd.zeroCells41 41)).heap.size = w.heap.size + 1 := by simp
  have hbz : ∀ b, blk a = some b → b < (w.alloc (.cells Tryd.zeroCells41 41)).heap.size := fun b h => by rw [hzz]; have := hb b h; omega
  have HZ := Lib.hid (And.intro hUz (And.intro hrz (And.intro hvz (And.intro hbz hzz))))
  have HV0 := Lib.hid hv
  clear hv hUz hrz hvz hbz hzz hb
  by_cases h2 : kindL l = 3
  case neg =>
    have hE : tcomE l = 5 := by unfold tcomE; rw [if_pos h2]
    have HD : Hid (tcomE l = 5 ∧ tcomC l = comZ) := Lib.hid ⟨hE, by unfold tcomC; rw [hE]; rfl⟩
    have hkb : (kindL l != 3) = true := by simpa using h2
    clear hE h2 hkne
    generalize kindL l = k at *
    have HK := Lib.hid hk
    clear hk
    go_enter Tryd.func38, Tryd.ntmps38
    go_upto_region 1 with (fail)
    have hk := HK.out
    generalize w.alloc (.cells Tryd.zeroCells41 41) = y0 at *
    obtain ⟨B2, hB2⟩ : ∃ B, B = w.heap.size := ⟨_, rfl⟩
    rw [← hB2] at HZ ⊢
    have HB2 := Lib.hid hB2
    clear hB2
    go_wp2_with fail
    refine hk.mono ?_
    rintro e w' ⟨rfl, rfl⟩
    clear hk HK
    go_wp2_with (refine wpList_storeC rfl (.tmp 2) (.tmp 11) rfl B2 Tryd.zeroCells41 rfl comZ rfl HZ.out.2.1 rfl ?_)
    refine ret_com rfl B2 comZ 5 rfl (setRow_heap _ _ _ _ _ _ HZ.out.2.1) rfl rfl ?_
    rw [HD.out.1, HD.out.2]
    exact ⟨rfl, HZ.out.1.next (Upd.setRow (S := fun k => k = B2) _ rfl _) (fun i hi h => by have := HB2.out; omega)⟩
  have hE : tcomE l = endI (comS ⟨l.tail, 0⟩).2.e (comE (comS ⟨l.tail, 0⟩).1) (comB (comS ⟨l.tail, 0⟩).1) l := by unfold tcomE; rw [if_neg (by simpa using h2)]
  have hL : tcomC l = if tcomE l ≠ 0 then comZ else (comS ⟨l.tail, 0⟩).1 := rfl
  have hl1 := hkne (by omega)
  rw [h2] at hk
  have HE := Lib.hid (And.intro hE hL)
  have HK := Lib.hid hk
  clear hkne hE hL h2 hk
  go_enter Tryd.func38, Tryd.ntmps38
  go_upto_region 1 with (fail)
  have hk := HK.out
  generalize w.alloc (.cells Tryd.zeroCells41 41) = y0 at *
  obtain ⟨B2, hB2⟩ : ∃ B, B = w.heap.size := ⟨_, rfl⟩
  rw [← hB2] at HZ ⊢
  have HB2 := Lib.hid hB2
  clear hB2
  go_wp2_with fail
  refine hk.mono ?_
  rintro e w' ⟨rfl, rfl⟩
  clear hk HK
  have hRn := rf_new y0 a c l HZ.out.2.2.1 hl hl1 HZ.out.2.2.2.1
  obtain ⟨br, hbr⟩ : ∃ B, B = y0.heap.size := ⟨_, rfl⟩
  obtain ⟨F, hF⟩ : ∃ F, F = blk a := ⟨_, rfl⟩
  have hFb : ∀ g, F = some g → g < br := fun g h => by rw [hbr]; exact HZ.out.2.2.2.1 g (hF ▸ h)
  rw [← hbr, ← hF] at hRn
  have hUr := Upd.alloc (fun _ => False) y0 (.cells #[.slice a l.length c, .int .i64 1, .int .i64 0] 101)
  have hr2 := (hUr.block B2 (lt_of_heap HZ.out.2.1) (fun h => h)).trans HZ.out.2.1
  have HP := Lib.hid (And.intro hFb (And.intro (show B2 < br by have := HZ.out.2.2.2.2; omega) hbr))
  have HI := Lib.hid (And.intro hRn (And.intro hr2 (HZ.out.1.trans hUr)))
  have HV := Lib.hid (HZ.out.2.2.1.upd hUr (fun _ _ h => h))
  clear hRn hF hFb hUr hr2
  go_upto_region 4 with (fail)
  rw [← hbr]
  generalize y0.alloc (.cells #[.slice a l.length c, .int .i64 1, .int .i64 0] 101) = y1 at *
  clear hbr
  have hnb : ¬ B2 = br := by have := HP.out.2.1; omega
  have HU := Lib.hid (Upd.refl (fun k => k = br) y1)
  go_wp2_with fail
  refine (rfbool_any br F ⟨l.tail, 0⟩ y1 HI.out.1).mono ?_
  unfold RfRead
  rintro e w1 ⟨rfl, hR, hU⟩
  have HI1 := Lib.hid hR
  have HU1 := Lib.hid (HU.out.trans hU)
  clear hR hU
  go_wp2_with fail
  refine (r15key_any br F (boolS ⟨l.tail, 0⟩).2 w1 HI1.out (fun g hg => by have := HP.out.1 g hg; have := lt_br HI1.out; omega)).mono ?_
  rintro e w2 ⟨rfl, hR, hU⟩
  have HI2 := Lib.hid hR
  have HU2 := Lib.hid (HU1.out.trans hU)
  clear hR hU
  go_wp2_with fail
  refine (r15key_any br F (keyS (boolS ⟨l.tail, 0⟩).2).2 w2 HI2.out (fun g hg => by have := HP.out.1 g hg; have := lt_br HI2.out; omega)).mono ?_
  rintro e w3 ⟨rfl, hR, hU⟩
  have HI3 := Lib.hid hR
  have HU3 := Lib.hid (HU2.out.trans hU)
  clear hR hU
  go_wp2_with fail
  refine (rftext_any br F (keyS (keyS (boolS ⟨l.tail, 0⟩).2).2).2 w3 HI3.out).mono ?_
  rintro e w4 ⟨rfl, hR, hU⟩
  have HI4 := Lib.hid hR
  have HU4 := Lib.hid (HU3.out.trans hU)
  clear hR hU
  go_wp2_with fail
  refine (rfnum_any br F (textS (keyS (keyS (boolS ⟨l.tail, 0⟩).2).2).2).2 8 w4 HI4.out).mono ?_
  rintro e w5 ⟨rfl, hR, hU⟩
  have HI5 := Lib.hid hR
  have HU5 := Lib.hid (HU4.out.trans hU)
  clear hR hU
  rw [show heldN 8 = 8 from rfl] at HI5 ⊢
  obtain ⟨x, s2, hx0, hx1, hx2, hx3, hx4, hx5, hx6⟩ := comS_at ⟨l.tail, 0⟩
  rw [hx6] at HI5
  rw [hx1, hx2, hx3, hx4, hx5]
  rw [hx0] at HE
  dsimp only at HE
  clear hx0 hx1 hx2 hx3 hx4 hx5 hx6 HI1 HI2 HI3 HI4 HU1 HU2 HU3 HU4 HU
  obtain ⟨kp, hkp⟩ : ∃ kx, (bvs x.parent).toArray = kx := ⟨_, rfl⟩
  obtain ⟨kt, hkt⟩ : ∃ kx, (bvs x.tree).toArray = kx := ⟨_, rfl⟩
  rw [hkp, hkt]
  have HKX := Lib.hid (And.intro hkp hkt)
  clear hkp hkt
  have hrow2 := (HU5.out.block B2 (lt_of_heap HI.out.2.1) hnb).trans HI.out.2.1
  have hU05 := HI.out.2.2.next HU5.out (fun i hi h => by have := HP.out.2.1; have := HB2.out; omega)
  have hUc := Upd.alloc (fun _ => False) w5 (.cells (comA x) 41)
  have hrow5 := heap_alloc_new w5 (.cells (comA x) 41)
  have HJ := Lib.hid (And.intro (HI5.out.upd hUc (fun h => h) (fun _ _ h => h)) (And.intro ((hUc.block B2 (lt_of_heap hrow2) (fun h => h)).trans hrow2) (And.intro hrow5 (hU05.trans hUc))))
  have hr5z : (w5.alloc (.cells Tryd.zeroCells41 41)).heap[w5.heap.size]? = some (.cells Tryd.zeroCells41 41) := heap_alloc_new w5 _
  have hB5 : B2 < w5.heap.size := lt_of_heap hrow2
  have HB5 := Lib.hid hB5
  have hset : (w5.alloc (.cells Tryd.zeroCells41 41)).setRow w5.heap.size (comA x) = w5.alloc (.cells (comA x) 41) := alloc_setRow w5 Tryd.zeroCells41 (comA x) 41
  have HST := Lib.hid (And.intro hr5z hset)
  clear hrow2 hU05 hUc hrow5 hr5z hset hB5
  go_upto_region 5 with first
    | refine wpList_build_com rfl (.tmp 16) (.tmp 18) (.tmp 20) (.tmp 22) (.tmp 24) rfl x rfl (by rw [HKX.out.1]; rfl) (by rw [HKX.out.2]; rfl) rfl rfl ?_
    | (refine wpList_storeC rfl (.tmp 5) (.tmp 25) rfl w5.heap.size Tryd.zeroCells41 rfl x rfl HST.out.1 rfl ?_; rw [show w5.alloc (Obj.cells Tryd.zeroCells41 41) = w5.alloc (.cells Tryd.zeroCells41 41) from rfl, HST.out.2])
  try simp only [Act.put]
  obtain ⟨b5, hb5⟩ : ∃ b, b = w5.heap.size := ⟨_, rfl⟩
  rw [← hb5] at HJ HB5 ⊢
  generalize w5.alloc (.cells (comA x) 41) = w6 at *
  clear HST HI5 HU5 hb5 HI
  have hq := HJ.out.1.err
  by_cases he : s2.e = 0
  · rw [he] at hq
    have hcom := fun w => r15Commit_any x w
    have hEE : endI s2.e (comE x) (comB x) l = if comE x ≠ 0 then 5 else if comB x ≠ l then 5 else 0 := by unfold endI; rw [if_neg (by simpa using he)]
    have HEE := Lib.hid hEE
    have HC := Lib.hid hcom
    clear hEE hcom he
    go_wp2_with (refine wpList_loadC rfl (.tmp 5) rfl b5 rfl x HJ.out.2.2.1 ?_)
    refine (HC.out _).mono ?_
    unfold Packed
    rintro e w9 ⟨a9, c9, rfl, hv9, hf9, hU9⟩
    have hva : Vw w9 a l.length c 1 (bvs l) := HV0.out.upd (HJ.out.2.2.2.trans hU9) (fun _ _ h => h)
    have hsb := sBytes_any a9 a c9 c (comB x) l w9 hv9 hva
    have hkl : (comB x == l) = decide (comB x = l) := by rw [Bool.eq_iff_iff]; simp
    rw [hkl] at hsb
    have HN := Lib.hid (And.intro ((hU9.block B2 (lt_of_heap HJ.out.2.1) (fun h => h)).trans HJ.out.2.1) (And.intro ((hU9.block b5 (lt_of_heap HJ.out.2.2.1) (fun h => h)).trans HJ.out.2.2.1) (HJ.out.2.2.2.trans hU9)))
    have HSB := Lib.hid hsb
    clear hv9 hf9 hU9 hsb hkl hq hva
    by_cases h5 : comE x = 0
    · have hx1 := HEE.out
      rw [if_neg (by simpa using h5)] at hx1
      rw [h5]
      by_cases h6 : comB x = l
      · rw [if_neg (by simpa using h6)] at hx1
        have hsb := HSB.out
        rw [decide_eq_true h6] at hsb
        have h1 : tcomE l = 0 := HE.out.1.trans hx1
        have HRR : Hid (tcomE l = 0 ∧ tcomC l = x) := Lib.hid ⟨h1, by rw [HE.out.2, h1]; rfl⟩
        clear hx1 h5 h6 h1
        go_wp2_with fail
        refine hsb.mono ?_
        rintro e w10 ⟨rfl, rfl⟩
        go_wp2_with first
          | refine wpList_loadC rfl (.tmp 5) rfl b5 rfl x HN.out.2.1 ?_
          | refine wpList_storeC rfl (.tmp 2) (.tmp 50) rfl B2 Tryd.zeroCells41 rfl x rfl HN.out.1 rfl ?_
        refine ret_com rfl B2 x 0 rfl (setRow_heap _ _ _ _ _ _ HN.out.1) rfl rfl ?_
        rw [HRR.out.1, HRR.out.2]
        exact ⟨rfl, HN.out.2.2.next (Upd.setRow (S := fun k => k = B2) _ rfl _) (fun i hi h => by have := HB2.out; omega)⟩
      · rw [if_pos (by simpa using h6)] at hx1
        have hsb := HSB.out
        rw [decide_eq_false h6] at hsb
        have h1 : tcomE l = 5 := HE.out.1.trans hx1
        have HRR : Hid (tcomE l = 5 ∧ tcomC l = comZ) := Lib.hid ⟨h1, by rw [HE.out.2, h1]; rfl⟩
        clear hx1 h5 h6 h1
        go_wp2_with fail
        refine hsb.mono ?_
        rintro e w10 ⟨rfl, rfl⟩
        go_wp2_with (refine wpList_storeC rfl (.tmp 2) (.tmp 49) rfl B2 Tryd.zeroCells41 rfl comZ rfl HN.out.1 rfl ?_)
        refine ret_com rfl B2 comZ 5 rfl (setRow_heap _ _ _ _ _ _ HN.out.1) rfl rfl ?_
        rw [HRR.out.1, HRR.out.2]
        exact ⟨rfl, HN.out.2.2.next (Upd.setRow (S := fun k => k = B2) _ rfl _) (fun i hi h => by have := HB2.out; omega)⟩
    · have hx1 := HEE.out
      rw [if_pos (by simpa using h5)] at hx1
      have h1 : tcomE l = 5 := HE.out.1.trans hx1
      have HRR : Hid (tcomE l = 5 ∧ tcomC l = comZ) := Lib.hid ⟨h1, by rw [HE.out.2, h1]; rfl⟩
      have hb5 : (comE x != 0) = true := by simpa using h5
      clear hx1 h5 h1
      go_wp2_with (refine wpList_storeC rfl (.tmp 2) (.tmp 49) rfl B2 Tryd.zeroCells41 rfl comZ rfl HN.out.1 rfl ?_)
      refine ret_com rfl B2 comZ 5 rfl (setRow_heap _ _ _ _ _ _ HN.out.1) rfl rfl ?_
      rw [HRR.out.1, HRR.out.2]
      exact ⟨rfl, HN.out.2.2.next (Upd.setRow (S := fun k => k = B2) _ rfl _) (fun i hi h => by have := HB2.out; omega)⟩
  · have hbn : (s2.e != 0) = true := by simpa using he
    have h1 : tcomE l = s2.e := by rw [HE.out.1]; unfold endI; rw [if_pos he]
    have HRR : Hid (tcomE l = s2.e ∧ tcomC l = comZ) := Lib.hid ⟨h1, by rw [HE.out.2, h1, if_pos he]⟩
    have HRW := Lib.hid HJ.out.2.1
    have HQ := Lib.hid hq
    clear h1 he
    generalize s2.e = se at *
    go_wp2_with fail
    refine wp_region_plan_last [([0, 1, 2, 3, 4], 5)] [6] (fun w' => w'.cell? ⟨br, 2, none⟩ = some (.int .i64 se)) (by kernel_rfl) (by kernel_rfl) hq ?_
    iterate 5
      refine plan_take (v := ?_) rfl rfl (fun w' hS => ?_) ?_
      rotate_left
      · skip
        go_simp; try with_reducible rfl
      simp only [Act.put, List.getElem_toArray, List.getElem_cons_zero, List.getElem_cons_succ, List.setIfInBounds_toArray, List.set_cons_zero, List.set_cons_succ]
    refine plan_act rfl (fun KK hKK => ?_)
    refine wpList_storeC rfl (.tmp 2) (.tmp 31) rfl B2 Tryd.zeroCells41 rfl comZ rfl HRW.out rfl ?_
    have hUs := Upd.setRow (S := fun k => k = B2) w6.drew rfl (comA comZ)
    have hrs := setRow_heap w6.drew B2 Tryd.zeroCells41 (comA comZ) 41 (0, 0) HRW.out
    have hqs : (w6.drew.setRow B2 (comA comZ)).cell? ⟨br, 2, none⟩ = some (.int .i64 se) := by
      rw [cell_setRow_other _ _ _ _ (fun h => hnb h.symm)]; exact HQ.out
    have HFIN := Lib.hid (And.intro hrs ((HJ.out.2.2.2.trans (Upd.drew (fun _ => False) w6)).next hUs (fun i hi h => by have := HB2.out; omega)))
    generalize w6.drew.setRow B2 (comA comZ) = w7 at *
    go_wp2_with fail
    refine hKK.out _ _ (.inr hqs) ?_
    iterate 1
      refine plan_last (v := ?_) rfl rfl (fun w' hS => ?_) ?_
      rotate_left
      · skip
        go_simp; try with_reducible rfl
      simp only [Act.put, List.getElem_toArray, List.getElem_cons_zero, List.getElem_cons_succ, List.setIfInBounds_toArray, List.set_cons_zero, List.set_cons_succ]
    refine plan_end ?_
    go_wp2_with fail
    refine ret_com rfl B2 comZ se rfl HFIN.out.1 rfl rfl ?_
    rw [HRR.out.1, HRR.out.2]
    exact ⟨rfl, HFIN.out.2⟩
end Go.Proofs.YteefceainlfdfaaDoor
