
/- object.TakeCommit. -/
import Derived.Test.YteefceainlfdfaaDoorTake7
import Derived.Test.YteefceainlfdfaaDoorTree
namespace Go.Proofs.YteefceainlfdfaaDoor
set_option linter.unusedSimpArgs false
set_option linter.unusedVariables false
set_option maxRecDepth 100000
open Go.ChangeShapes Go.WideShapes Go.ChangeAt Go.RowKit

/-- In the middle of TakeCommit: the reader, the block that holds it, the answer's block, the commit's block if it has been made. -/
structure CMid (w : World) (br BR B2 : Nat) (F : Option Nat) (s : RS) (b5 : Option Nat) (wk : World) : Prop where
  rd : Rd wk br F s.l s.e
  row : wk.heap[BR]? = some (.cells #[.pointer (some ⟨br, 0, none⟩)] 105)
  res : wk.heap[B2]? = some (.cells Tryd.zeroCells41 41)
  upd : Upd (fun _ => False) w wk
  new : ∀ b, b5 = some b → BR < b ∧ wk.heap[b]? = some (.cells Tryd.zeroCells41 41)
  n1 : br < BR
  n2 : B2 < br
  n3 : w.heap.size ≤ B2
  n4 : ∀ g, F = some g → B2 < g ∧ g < br
section
variable {w : World} {br BR B2 : Nat} {F : Option Nat} {s s' : RS} {b5 : Option Nat} {wk w' : World}
theorem CMid.q (h : CMid w br BR B2 F s b5 wk) : wk.cell? ⟨BR, 0, none⟩ = some (.pointer (some ⟨br, 0, none⟩)) := by rw [cell_of_row _ _ _ _ _ _ h.row]; rfl
theorem CMid.step (h : CMid w br BR B2 F s b5 wk) (hR : Rd w' br F s'.l s'.e) (hU : Upd (fun k => k = br) wk w') : CMid w br BR B2 F s' b5 w' := by
  have h1 := h.n1; have h2 := h.n2; have h3 := h.n3
  exact ⟨hR, (hU.block BR (lt_of_heap h.row) (by omega)).trans h.row, (hU.block B2 (lt_of_heap h.res) (by omega)).trans h.res, h.upd.next hU (fun i hi e => by omega),
    fun b hb => ⟨(h.new b hb).1, (hU.block b (lt_of_heap (h.new b hb).2) (by have := (h.new b hb).1; omega)).trans (h.new b hb).2⟩, h1, h2, h3, h.n4⟩
theorem CMid.drew (h : CMid w br BR B2 F s b5 wk) : CMid w br BR B2 F s b5 wk.drew :=
  ⟨h.rd.upd (Upd.drew (fun _ => False) wk) (fun h => h) (fun _ _ h => h), h.row, h.res, h.upd.trans (Upd.drew _ _), h.new, h.n1, h.n2, h.n3, h.n4⟩
theorem CMid.alloc (h : CMid w br BR B2 F s none wk) : CMid w br BR B2 F s (some wk.heap.size) (wk.alloc (.cells Tryd.zeroCells41 41)) := by
  have hU := Upd.alloc (fun _ => False) wk (.cells Tryd.zeroCells41 41)
  exact ⟨h.rd.upd hU (fun h => h) (fun _ _ h => h), (hU.block BR (lt_of_heap h.row) (fun h => h)).trans h.row, (hU.block B2 (lt_of_heap h.res) (fun h => h)).trans h.res, h.upd.trans hU,
    fun b hb => by cases hb; exact ⟨lt_of_heap h.row, heap_alloc_new _ _⟩, h.n1, h.n2, h.n3, h.n4⟩
theorem CMid.fb (h : CMid w br BR B2 F s b5 wk) : ∀ g, F = some g → g < wk.heap.size := fun g hg => by have := (h.n4 g hg).2; have := h.n1; have := lt_of_heap h.row; omega
/-- What it is once the commit is stored. -/
structure CEnd (w : World) (br BR B2 : Nat) (F : Option Nat) (s : RS) (b5 : Nat) (x : Com) (wk : World) : Prop where
  rd : Rd wk br F s.l s.e
  row : wk.heap[BR]? = some (.cells #[.pointer (some ⟨br, 0, none⟩)] 105)
  res : wk.heap[B2]? = some (.cells Tryd.zeroCells41 41)
  upd : Upd (fun _ => False) w wk
  com : wk.heap[b5]? = some (.cells (comA x) 41)
theorem CMid.store {b : Nat} (h : CMid w br BR B2 F s (some b) wk) (x : Com) : CEnd w br BR B2 F s b x (wk.setRow b (comA x)) := by
  have hb := (h.new b rfl).1
  have h1 := h.n1; have h2 := h.n2; have h3 := h.n3
  have hU := Upd.setRow (S := fun k => k = b) wk rfl (comA x)
  exact ⟨h.rd.upd hU (by omega) (fun g hg e => by have := (h.n4 g hg).2; omega), (hU.block BR (lt_of_heap h.row) (by omega)).trans h.row, (hU.block B2 (lt_of_heap h.res) (by omega)).trans h.res,
    h.upd.next hU (fun i hi e => by omega), setRow_heap _ _ _ _ _ _ (h.new b rfl).2⟩
theorem CEnd.q {b : Nat} {x : Com} (h : CEnd w br BR B2 F s b x wk) : wk.cell? ⟨BR, 0, none⟩ = some (.pointer (some ⟨br, 0, none⟩)) := by rw [cell_of_row _ _ _ _ _ _ h.row]; rfl
theorem CEnd.next {b : Nat} {x : Com} (h : CEnd w br BR B2 F s b x wk) (hU : Upd (fun _ => False) wk w') : CEnd w br BR B2 F s b x w' :=
  ⟨h.rd.upd hU (fun h => h) (fun _ _ h => h), (hU.block BR (lt_of_heap h.row) (fun h => h)).trans h.row, (hU.block B2 (lt_of_heap h.res) (fun h => h)).trans h.res, h.upd.trans hU, (hU.block b (lt_of_heap h.com) (fun h => h)).trans h.com⟩
end

set_option maxHeartbeats 16000000 in
theorem oTakeCommit_any (a : Option Addr) (c : Nat) (l : List UInt8) (w : World) (hv : Vw w a l.length c 1 (bvs l)) (hl : l.length ≤ 100000) :
    Calls Tryd.prog 37 #[.slice a l.length c] w (TookC w (tcomC l) (tcomE l)) := by
  have hUz := Upd.alloc (fun _ => False) w (.cells Tryd.zeroCells41 41)
  have hrz : (w.alloc (.cells Tryd.zeroCells41 41)).heap[w.heap.size]? = some (.cells Tryd.zeroCells41 41) := heap_alloc_new w _
  have hvz := hv.upd hUz (fun _ _ h => h)
  have hk := oKind_any a c l _ hvz
  have hkne := kind_ne l
  have hzz : (w.alloc (.cells Tryd.zeroCells41 41)).heap.size = w.heap.size + 1 := by simp
  have HZ := Lib.hid (And.intro hUz (And.intro hrz (And.intro hvz hzz)))
  have HV0 := Lib.hid hv
  clear hv hUz hrz hvz hzz
  by_cases h2 : kindL l = 3
  case neg =>
    have hE : tcomE l = 5 := by unfold tcomE; rw [if_pos h2]
    have HD : Hid (tcomE l = 5 ∧ tcomC l = comZ) := Lib.hid ⟨hE, by unfold tcomC; rw [hE]; rfl⟩
    have hkb : (kindL l != 3) = true := by simpa using h2
    clear hE h2 hkne
    generalize kindL l = k at *
    have HK := Lib.hid hk
    clear hk
    go_enter Tryd.func37, Tryd.ntmps37
    go_upto_region 1 with (fail)
    have hk := HK.out
    generalize w.alloc (.cells Tryd.zeroCells41 41) = y0 at *
    obtain ⟨B2, hB2⟩ : ∃ B, B = w.heap.size := ⟨_, rfl⟩
    rw [← hB2] at HZ ⊢
    have HB2 := Lib.hid hB2
    clear hB2
    go_wp2_with fail
    refine hk.mono ?_
    rintro e w' ⟨rfl, rfl⟩
    clear hk HK
    go_wp2_with (refine wpList_storeC rfl (.tmp 2) (.tmp 12) rfl B2 Tryd.zeroCells41 rfl comZ rfl HZ.out.2.1 rfl ?_)
    refine ret_com rfl B2 comZ 5 rfl (setRow_heap _ _ _ _ _ _ HZ.out.2.1) rfl rfl ?_
    rw [HD.out.1, HD.out.2]
    exact ⟨rfl, HZ.out.1.next (Upd.setRow (S := fun k => k = B2) _ rfl _) (fun i hi h => by have := HB2.out; omega)⟩
  have hE : tcomE l = endI (comS ⟨l.tail, 0⟩).2.e (comE (comS ⟨l.tail, 0⟩).1) (comB (comS ⟨l.tail, 0⟩).1) l := by unfold tcomE; rw [if_neg (by simpa using h2)]
  have hL : tcomC l = if tcomE l ≠ 0 then comZ else (comS ⟨l.tail, 0⟩).1 := rfl
  have hl1 := hkne (by omega)
  have htk : takeS 1 ⟨l, 0⟩ = (l.take 1, ⟨l.tail, 0⟩) := by
    unfold takeS
    rw [if_neg (by simp), if_neg (by show ¬ l.length < 1; omega), List.drop_one]
  rw [h2] at hk
  have HE := Lib.hid (And.intro hE hL)
  have HTK := Lib.hid htk
  have HK := Lib.hid hk
  clear hkne hE hL h2 hk htk
  go_enter Tryd.func37, Tryd.ntmps37
  go_upto_region 1 with (fail)
  have hk := HK.out
  generalize w.alloc (.cells Tryd.zeroCells41 41) = y0 at *
  obtain ⟨B2, hB2⟩ : ∃ B, B = w.heap.size := ⟨_, rfl⟩
  rw [← hB2] at HZ ⊢
  have HB2 := Lib.hid hB2
  clear hB2
  go_wp2_with fail
  refine hk.mono ?_
  rintro e w' ⟨rfl, rfl⟩
  clear hk HK
  have hrd := read_any3 a c l y0 HZ.out.2.2.1 (by omega)
  go_wp2_with fail
  refine hrd.mono ?_
  clear hrd
  rintro e w1 ⟨br, F, rfl, hR, hU, hbr, hF⟩
  obtain ⟨BR, hBR⟩ : ∃ B, B = w1.heap.size := ⟨_, rfl⟩
  have hbrl : br < w1.heap.size := by
    obtain ⟨a9, c9, hh, _⟩ := hR.ex
    exact lt_of_heap hh
  have hUn := Upd.alloc (fun _ => False) w1 (.cells #[.pointer (some ⟨br, 0, none⟩)] 105)
  have hrow := heap_alloc_new w1 (.cells #[.pointer (some ⟨br, 0, none⟩)] 105)
  rw [← hBR] at hrow
  have HM0 : Hid (CMid w br BR B2 F ⟨l, 0⟩ none (w1.alloc (.cells #[.pointer (some ⟨br, 0, none⟩)] 105))) := Lib.hid
    ⟨hR.upd hUn (fun h => h) (fun _ _ h => h), hrow, ((hU.trans hUn).block B2 (lt_of_heap HZ.out.2.1) (fun h => h)).trans HZ.out.2.1, HZ.out.1.trans (hU.trans hUn), (fun b hb => by cases hb), by omega,
      by have := HZ.out.2.2.2; have := HB2.out; omega, by have := HB2.out; omega, fun g hg => by have := hF g hg; have := HZ.out.2.2.2; have := HB2.out; omega⟩
  clear hR hU hbr hF hbrl hUn hrow
  go_upto_region 4 with (fail)
  rw [← hBR]
  generalize w1.alloc (.cells #[.pointer (some ⟨br, 0, none⟩)] 105) = y1 at *
  clear hBR
  have hq := HM0.out.q
  go_wp2_with fail
  refine (rnum_any br F ⟨l, 0⟩ 1 y1 HM0.out.rd (by show l.length ≤ _; omega)).mono ?_
  unfold ReadN
  rintro e w2 ⟨rfl, hR, hU⟩
  rw [show heldN 1 = 1 from rfl, HTK.out] at hR
  have HM := Lib.hid (HM0.out.step (s' := ⟨l.tail, 0⟩) hR hU)
  clear hR hU hq HM0 HTK
  have hs0 : l.tail.length ≤ 100000 := by rw [List.length_tail]; omega
  have ht1 := boolS_len ⟨l.tail, 0⟩
  have ht2 := keyS_le (boolS ⟨l.tail, 0⟩).2
  have ht3 := keyS_le (keyS (boolS ⟨l.tail, 0⟩).2).2
  have ht4 := textS_len (keyS (keyS (boolS ⟨l.tail, 0⟩).2).2).2
  have hs0' : (⟨l.tail, 0⟩ : RS).l.length ≤ 100000 := hs0
  have HL1 : Hid (∀ wk, Rd wk br F (⟨l.tail, 0⟩ : RS).l (⟨l.tail, 0⟩ : RS).e → _) := Lib.hid (fun wk h => rbool_any br F ⟨l.tail, 0⟩ wk h (by omega))
  have HL2 : Hid (∀ wk, Rd wk br F (boolS ⟨l.tail, 0⟩).2.l (boolS ⟨l.tail, 0⟩).2.e → (∀ g, F = some g → g < wk.heap.size) → _) := Lib.hid (fun wk h hF => orkey_any br F (boolS ⟨l.tail, 0⟩).2 wk h hF (by omega))
  have HL3 : Hid (∀ wk, Rd wk br F (keyS (boolS ⟨l.tail, 0⟩).2).2.l (keyS (boolS ⟨l.tail, 0⟩).2).2.e → (∀ g, F = some g → g < wk.heap.size) → _) := Lib.hid (fun wk h hF => orkey_any br F (keyS (boolS ⟨l.tail, 0⟩).2).2 wk h hF (by omega))
  have HL4 : Hid (∀ wk, Rd wk br F (keyS (keyS (boolS ⟨l.tail, 0⟩).2).2).2.l (keyS (keyS (boolS ⟨l.tail, 0⟩).2).2).2.e → _) := Lib.hid (fun wk h => rtext_any br F (keyS (keyS (boolS ⟨l.tail, 0⟩).2).2).2 wk h (by omega))
  have HL5 : Hid (∀ wk, Rd wk br F (textS (keyS (keyS (boolS ⟨l.tail, 0⟩).2).2).2).2.l (textS (keyS (keyS (boolS ⟨l.tail, 0⟩).2).2).2).2.e → _) := Lib.hid (fun wk h => rnum_any br F (textS (keyS (keyS (boolS ⟨l.tail, 0⟩).2).2).2).2 8 wk h (by omega))
  rw [show heldN 8 = 8 from rfl] at HL5
  obtain ⟨x, s5, hx0, hx1, hx2, hx3, hx4, hx5, hx6⟩ := comS_at ⟨l.tail, 0⟩
  rw [hx6, hx5] at HL5
  rw [hx4] at HL4
  rw [hx3] at HL3
  rw [hx2] at HL2
  rw [hx1] at HL1
  rw [hx0] at HE
  dsimp only at HE
  clear hx0 hx1 hx2 hx3 hx4 hx5 hx6 ht1 ht2 ht3 ht4 hs0'
  obtain ⟨kp, hkp⟩ : ∃ kx, (bvs x.parent).toArray = kx := ⟨_, rfl⟩
  obtain ⟨kt, hkt⟩ : ∃ kx, (bvs x.tree).toArray = kx := ⟨_, rfl⟩
  rw [hkp] at HL2
  rw [hkt] at HL3
  have HKX := Lib.hid (And.intro hkp hkt)
  clear hkp hkt
  generalize (textS (keyS (keyS (boolS ⟨l.tail, 0⟩).2).2).2).2 = s4 at *
  generalize (keyS (keyS (boolS ⟨l.tail, 0⟩).2).2).2 = s3 at *
  generalize (keyS (boolS ⟨l.tail, 0⟩).2).2 = s2 at *
  generalize (boolS ⟨l.tail, 0⟩).2 = s1 at *
  generalize (⟨l.tail, 0⟩ : RS) = s0 at *
  have hqd := HM.out.drew.q
  go_upto_region 5 with (fail)
  refine wp_region_tree (.two [0, 1, 3, 5, 7, 8, 10, 11] 2 (.two [] 4 (.two [] 6 (.two [] 9 (.two [] 12 (.one [13] 14 (.one [] 15 (.last []))) 14 (.one [] 12 (.one [13] 15 (.last [])))) 14 (.one [] 9 (.one [] 12 (.one [13] 15 (.last []))))) 14 (.one [] 6 (.one [] 9 (.one [] 12 (.one [13] 15 (.last [])))))) 14 (.one [] 4 (.one [] 6 (.one [] 9 (.one [] 12 (.one [13] 15 (.last []))))))) 14 (.one [] 2 (.one [] 4 (.one [] 6 (.one [] 9 (.one [] 12 (.one [13] 15 (.last [])))))))) (fun w' => w'.cell? ⟨BR, 0, none⟩ = some (.pointer (some ⟨br, 0, none⟩))) (by kernel_rfl) (by kernel_rfl) hqd ?_
  iterate 8
    refine tree_take2 (v := ?_) rfl rfl (fun w' hS => ?_) ?_
    rotate_left
    · skip
      go_simp; try with_reducible rfl
    simp only [Act.put, List.getElem_toArray, List.getElem_cons_zero, List.getElem_cons_succ, List.setIfInBounds_toArray, List.set_cons_zero, List.set_cons_succ]
  have HMd := Lib.hid HM.out.drew
  clear hqd HM
  refine tree_both ?_ ?_
  · refine tree_act rfl (fun KM0 hKM0 => ?_)
    go_wp2_with fail
    refine (HL1.out _ HMd.out.rd).mono ?_
    unfold ReadN
    rintro e wM0 ⟨rfl, hR, hU⟩
    have M0 := Lib.hid (HMd.out.step (s' := s1) hR hU)
    clear hR hU
    go_wp2_with fail
    refine hKM0.out _ _ M0.out.q ?_
    refine tree_both ?_ ?_
    · refine tree_act rfl (fun KM2 hKM2 => ?_)
      go_wp2_with fail
      refine (HL2.out _ M0.out.rd M0.out.fb).mono ?_
      rintro e wM2 ⟨rfl, hR, hU⟩
      have M2 := Lib.hid (M0.out.step (s' := s2) hR hU)
      clear hR hU
      go_wp2_with fail
      refine hKM2.out _ _ M2.out.q ?_
      refine tree_both ?_ ?_
      · refine tree_act rfl (fun KM4 hKM4 => ?_)
        go_wp2_with fail
        refine (HL3.out _ M2.out.rd M2.out.fb).mono ?_
        rintro e wM4 ⟨rfl, hR, hU⟩
        have M4 := Lib.hid (M2.out.step (s' := s3) hR hU)
        clear hR hU
        go_wp2_with fail
        refine hKM4.out _ _ M4.out.q ?_
        refine tree_both ?_ ?_
        · refine tree_act rfl (fun KM6 hKM6 => ?_)
          go_wp2_with fail
          refine (HL4.out _ M4.out.rd).mono ?_
          unfold ReadN
          rintro e wM6 ⟨rfl, hR, hU⟩
          have M6 := Lib.hid (M4.out.step (s' := s4) hR hU)
          clear hR hU
          go_wp2_with fail
          refine hKM6.out _ _ M6.out.q ?_
          refine tree_both ?_ ?_
          · refine tree_act rfl (fun KM8 hKM8 => ?_)
            go_wp2_with fail
            refine (HL5.out _ M6.out.rd).mono ?_
            unfold ReadN
            rintro e wM8 ⟨rfl, hR, hU⟩
            have M8 := Lib.hid (M6.out.step (s' := s5) hR hU)
            clear hR hU
            go_wp2_with fail
            refine hKM8.out _ _ M8.out.q ?_
            try simp only [Act.put, List.getElem_toArray, List.getElem_cons_zero, List.getElem_cons_succ, List.setIfInBounds_toArray, List.set_cons_zero, List.set_cons_succ]
            refine tree_take (v := .agg (comA x)) rfl rfl (fun w' hS => exec_build_com (.tmp 21) (.tmp 23) (.tmp 25) (.tmp 28) (.tmp 31) rfl x rfl (by rw [HKX.out.1]; rfl) (by rw [HKX.out.2]; rfl) rfl rfl) ?_
            simp only [Act.put, List.getElem_toArray, List.getElem_cons_zero, List.getElem_cons_succ, List.setIfInBounds_toArray, List.set_cons_zero, List.set_cons_succ]
            refine tree_act rfl (fun KM10 hKM10 => ?_)
            have M10 := Lib.hid M8.out.alloc
            go_wp2_with fail
            refine hKM10.out _ _ M10.out.q ?_
            refine tree_act rfl (fun KE hKE => ?_)
            try simp only [Act.put, List.getElem_toArray, List.getElem_cons_zero, List.getElem_cons_succ, List.setIfInBounds_toArray, List.set_cons_zero, List.set_cons_succ]
            refine wpList_storeC rfl (.tmp 5) (.tmp 32) rfl _ Tryd.zeroCells41 rfl x rfl (M10.out.new _ rfl).2 rfl ?_
            have HX := Lib.hid (M10.out.store x)
            try simp only [Act.put]
            skip
            go_wp2_with fail
            refine hKE.out _ _ HX.out.q ?_
            refine tree_end ?_
            go_wp2_with (refine wpList_loadC rfl (.tmp 5) rfl _ rfl x HX.out.com ?_)
            refine (oCommit_any x _).mono ?_
            unfold Packed
            rintro e w9 ⟨a9, c9, rfl, hv9, hf9, hU9⟩
            have HY := Lib.hid (HX.out.next hU9)
            have hend := orend_any br F s5 a a9 c c9 l (comB x) (comE x) w9 HY.out.rd (HV0.out.upd HY.out.upd (fun _ _ h => h)) hv9
            rw [← HE.out.1] at hend
            have hq9 := HY.out.q
            have HEN := Lib.hid hend
            have hE2 := Lib.hid HE.out.2
            clear hv9 hf9 hU9 hend HX
            generalize tcomE l = R at *
            go_wp2_with fail
            refine HEN.out.mono ?_
            rintro e w10 ⟨rfl, hU⟩
            have HW := Lib.hid (HY.out.next hU)
            clear hU hq9
            by_cases hr0 : R = 0
            · have hE3 := hE2.out
              rw [if_neg (by simpa using hr0)] at hE3
              have HE3 := Lib.hid hE3
              clear hE3
              subst hr0
              go_wp2_with first
                | refine wpList_loadC rfl (.tmp 5) rfl _ rfl x HW.out.com ?_
                | refine wpList_storeC rfl (.tmp 2) (.tmp 47) rfl B2 Tryd.zeroCells41 rfl x rfl HW.out.res rfl ?_
              refine ret_com rfl B2 x 0 rfl (setRow_heap _ _ _ _ _ _ HW.out.res) rfl rfl ?_
              rw [HE3.out]
              exact ⟨rfl, HW.out.upd.next (Upd.setRow (S := fun k => k = B2) _ rfl _) (fun i hi h => by have := HB2.out; omega)⟩
            · have hE3 := hE2.out
              rw [if_pos (by simpa using hr0)] at hE3
              have HE3 := Lib.hid hE3
              have hrb : (R != 0) = true := by simpa using hr0
              clear hE3 hr0
              go_wp2_with (refine wpList_storeC rfl (.tmp 2) (.tmp 45) rfl B2 Tryd.zeroCells41 rfl comZ rfl HW.out.res rfl ?_)
              refine ret_com rfl B2 comZ R rfl (setRow_heap _ _ _ _ _ _ HW.out.res) rfl rfl ?_
              rw [HE3.out]
              exact ⟨rfl, HW.out.upd.next (Upd.setRow (S := fun k => k = B2) _ rfl _) (fun i hi h => by have := HB2.out; omega)⟩
          · refine tree_act rfl (fun KM9 hKM9 => ?_)
            have M9 := Lib.hid M6.out.alloc
            go_wp2_with fail
            refine hKM9.out _ _ M9.out.q ?_
            refine tree_act rfl (fun KM11 hKM11 => ?_)
            go_wp2_with fail
            refine (HL5.out _ M9.out.rd).mono ?_
            unfold ReadN
            rintro e wM11 ⟨rfl, hR, hU⟩
            have M11 := Lib.hid (M9.out.step (s' := s5) hR hU)
            clear hR hU
            go_wp2_with fail
            refine hKM11.out _ _ M11.out.q ?_
            try simp only [Act.put, List.getElem_toArray, List.getElem_cons_zero, List.getElem_cons_succ, List.setIfInBounds_toArray, List.set_cons_zero, List.set_cons_succ]
            refine tree_take (v := .agg (comA x)) rfl rfl (fun w' hS => exec_build_com (.tmp 21) (.tmp 23) (.tmp 25) (.tmp 28) (.tmp 31) rfl x rfl (by rw [HKX.out.1]; rfl) (by rw [HKX.out.2]; rfl) rfl rfl) ?_
            simp only [Act.put, List.getElem_toArray, List.getElem_cons_zero, List.getElem_cons_succ, List.setIfInBounds_toArray, List.set_cons_zero, List.set_cons_succ]
            refine tree_act rfl (fun KE hKE => ?_)
            try simp only [Act.put, List.getElem_toArray, List.getElem_cons_zero, List.getElem_cons_succ, List.setIfInBounds_toArray, List.set_cons_zero, List.set_cons_succ]
            refine wpList_storeC rfl (.tmp 5) (.tmp 32) rfl _ Tryd.zeroCells41 rfl x rfl (M11.out.new _ rfl).2 rfl ?_
            have HX := Lib.hid (M11.out.store x)
            try simp only [Act.put]
            skip
            go_wp2_with fail
            refine hKE.out _ _ HX.out.q ?_
            refine tree_end ?_
            go_wp2_with (refine wpList_loadC rfl (.tmp 5) rfl _ rfl x HX.out.com ?_)
            refine (oCommit_any x _).mono ?_
            unfold Packed
            rintro e w9 ⟨a9, c9, rfl, hv9, hf9, hU9⟩
            have HY := Lib.hid (HX.out.next hU9)
            have hend := orend_any br F s5 a a9 c c9 l (comB x) (comE x) w9 HY.out.rd (HV0.out.upd HY.out.upd (fun _ _ h => h)) hv9
            rw [← HE.out.1] at hend
            have hq9 := HY.out.q
            have HEN := Lib.hid hend
            have hE2 := Lib.hid HE.out.2
            clear hv9 hf9 hU9 hend HX
            generalize tcomE l = R at *
            go_wp2_with fail
            refine HEN.out.mono ?_
            rintro e w10 ⟨rfl, hU⟩
            have HW := Lib.hid (HY.out.next hU)
            clear hU hq9
            by_cases hr0 : R = 0
            · have hE3 := hE2.out
              rw [if_neg (by simpa using hr0)] at hE3
              have HE3 := Lib.hid hE3
              clear hE3
              subst hr0
              go_wp2_with first
                | refine wpList_loadC rfl (.tmp 5) rfl _ rfl x HW.out.com ?_
                | refine wpList_storeC rfl (.tmp 2) (.tmp 47) rfl B2 Tryd.zeroCells41 rfl x rfl HW.out.res rfl ?_
              refine ret_com rfl B2 x 0 rfl (setRow_heap _ _ _ _ _ _ HW.out.res) rfl rfl ?_
              rw [HE3.out]
              exact ⟨rfl, HW.out.upd.next (Upd.setRow (S := fun k => k = B2) _ rfl _) (fun i hi h => by have := HB2.out; omega)⟩
            · have hE3 := hE2.out
              rw [if_pos (by simpa using hr0)] at hE3
              have HE3 := Lib.hid hE3
              have hrb : (R != 0) = true := by simpa using hr0
              clear hE3 hr0
              go_wp2_with (refine wpList_storeC rfl (.tmp 2) (.tmp 45) rfl B2 Tryd.zeroCells41 rfl comZ rfl HW.out.res rfl ?_)
              refine ret_com rfl B2 comZ R rfl (setRow_heap _ _ _ _ _ _ HW.out.res) rfl rfl ?_
              rw [HE3.out]
              exact ⟨rfl, HW.out.upd.next (Upd.setRow (S := fun k => k = B2) _ rfl _) (fun i hi h => by have := HB2.out; omega)⟩
        · refine tree_act rfl (fun KM7 hKM7 => ?_)
          have M7 := Lib.hid M4.out.alloc
          go_wp2_with fail
          refine hKM7.out _ _ M7.out.q ?_
          refine tree_act rfl (fun KM12 hKM12 => ?_)
          go_wp2_with fail
          refine (HL4.out _ M7.out.rd).mono ?_
          unfold ReadN
          rintro e wM12 ⟨rfl, hR, hU⟩
          have M12 := Lib.hid (M7.out.step (s' := s4) hR hU)
          clear hR hU
          go_wp2_with fail
          refine hKM12.out _ _ M12.out.q ?_
          refine tree_act rfl (fun KM13 hKM13 => ?_)
          go_wp2_with fail
          refine (HL5.out _ M12.out.rd).mono ?_
          unfold ReadN
          rintro e wM13 ⟨rfl, hR, hU⟩
          have M13 := Lib.hid (M12.out.step (s' := s5) hR hU)
          clear hR hU
          go_wp2_with fail
          refine hKM13.out _ _ M13.out.q ?_
          try simp only [Act.put, List.getElem_toArray, List.getElem_cons_zero, List.getElem_cons_succ, List.setIfInBounds_toArray, List.set_cons_zero, List.set_cons_succ]
          refine tree_take (v := .agg (comA x)) rfl rfl (fun w' hS => exec_build_com (.tmp 21) (.tmp 23) (.tmp 25) (.tmp 28) (.tmp 31) rfl x rfl (by rw [HKX.out.1]; rfl) (by rw [HKX.out.2]; rfl) rfl rfl) ?_
          simp only [Act.put, List.getElem_toArray, List.getElem_cons_zero, List.getElem_cons_succ, List.setIfInBounds_toArray, List.set_cons_zero, List.set_cons_succ]
          refine tree_act rfl (fun KE hKE => ?_)
          try simp only [Act.put, List.getElem_toArray, List.getElem_cons_zero, List.getElem_cons_succ, List.setIfInBounds_toArray, List.set_cons_zero, List.set_cons_succ]
          refine wpList_storeC rfl (.tmp 5) (.tmp 32) rfl _ Tryd.zeroCells41 rfl x rfl (M13.out.new _ rfl).2 rfl ?_
          have HX := Lib.hid (M13.out.store x)
          try simp only [Act.put]
          skip
          go_wp2_with fail
          refine hKE.out _ _ HX.out.q ?_
          refine tree_end ?_
          go_wp2_with (refine wpList_loadC rfl (.tmp 5) rfl _ rfl x HX.out.com ?_)
          refine (oCommit_any x _).mono ?_
          unfold Packed
          rintro e w9 ⟨a9, c9, rfl, hv9, hf9, hU9⟩
          have HY := Lib.hid (HX.out.next hU9)
          have hend := orend_any br F s5 a a9 c c9 l (comB x) (comE x) w9 HY.out.rd (HV0.out.upd HY.out.upd (fun _ _ h => h)) hv9
          rw [← HE.out.1] at hend
          have hq9 := HY.out.q
          have HEN := Lib.hid hend
          have hE2 := Lib.hid HE.out.2
          clear hv9 hf9 hU9 hend HX
          generalize tcomE l = R at *
          go_wp2_with fail
          refine HEN.out.mono ?_
          rintro e w10 ⟨rfl, hU⟩
          have HW := Lib.hid (HY.out.next hU)
          clear hU hq9
          by_cases hr0 : R = 0
          · have hE3 := hE2.out
            rw [if_neg (by simpa using hr0)] at hE3
            have HE3 := Lib.hid hE3
            clear hE3
            subst hr0
            go_wp2_with first
              | refine wpList_loadC rfl (.tmp 5) rfl _ rfl x HW.out.com ?_
              | refine wpList_storeC rfl (.tmp 2) (.tmp 47) rfl B2 Tryd.zeroCells41 rfl x rfl HW.out.res rfl ?_
            refine ret_com rfl B2 x 0 rfl (setRow_heap _ _ _ _ _ _ HW.out.res) rfl rfl ?_
            rw [HE3.out]
            exact ⟨rfl, HW.out.upd.next (Upd.setRow (S := fun k => k = B2) _ rfl _) (fun i hi h => by have := HB2.out; omega)⟩
          · have hE3 := hE2.out
            rw [if_pos (by simpa using hr0)] at hE3
            have HE3 := Lib.hid hE3
            have hrb : (R != 0) = true := by simpa using hr0
            clear hE3 hr0
            go_wp2_with (refine wpList_storeC rfl (.tmp 2) (.tmp 45) rfl B2 Tryd.zeroCells41 rfl comZ rfl HW.out.res rfl ?_)
            refine ret_com rfl B2 comZ R rfl (setRow_heap _ _ _ _ _ _ HW.out.res) rfl rfl ?_
            rw [HE3.out]
            exact ⟨rfl, HW.out.upd.next (Upd.setRow (S := fun k => k = B2) _ rfl _) (fun i hi h => by have := HB2.out; omega)⟩
      · refine tree_act rfl (fun KM5 hKM5 => ?_)
        have M5 := Lib.hid M2.out.alloc
        go_wp2_with fail
        refine hKM5.out _ _ M5.out.q ?_
        refine tree_act rfl (fun KM14 hKM14 => ?_)
        go_wp2_with fail
        refine (HL3.out _ M5.out.rd M5.out.fb).mono ?_
        rintro e wM14 ⟨rfl, hR, hU⟩
        have M14 := Lib.hid (M5.out.step (s' := s3) hR hU)
        clear hR hU
        go_wp2_with fail
        refine hKM14.out _ _ M14.out.q ?_
        refine tree_act rfl (fun KM15 hKM15 => ?_)
        go_wp2_with fail
        refine (HL4.out _ M14.out.rd).mono ?_
        unfold ReadN
        rintro e wM15 ⟨rfl, hR, hU⟩
        have M15 := Lib.hid (M14.out.step (s' := s4) hR hU)
        clear hR hU
        go_wp2_with fail
        refine hKM15.out _ _ M15.out.q ?_
        refine tree_act rfl (fun KM16 hKM16 => ?_)
        go_wp2_with fail
        refine (HL5.out _ M15.out.rd).mono ?_
        unfold ReadN
        rintro e wM16 ⟨rfl, hR, hU⟩
        have M16 := Lib.hid (M15.out.step (s' := s5) hR hU)
        clear hR hU
        go_wp2_with fail
        refine hKM16.out _ _ M16.out.q ?_
        try simp only [Act.put, List.getElem_toArray, List.getElem_cons_zero, List.getElem_cons_succ, List.setIfInBounds_toArray, List.set_cons_zero, List.set_cons_succ]
        refine tree_take (v := .agg (comA x)) rfl rfl (fun w' hS => exec_build_com (.tmp 21) (.tmp 23) (.tmp 25) (.tmp 28) (.tmp 31) rfl x rfl (by rw [HKX.out.1]; rfl) (by rw [HKX.out.2]; rfl) rfl rfl) ?_
        simp only [Act.put, List.getElem_toArray, List.getElem_cons_zero, List.getElem_cons_succ, List.setIfInBounds_toArray, List.set_cons_zero, List.set_cons_succ]
        refine tree_act rfl (fun KE hKE => ?_)
        try simp only [Act.put, List.getElem_toArray, List.getElem_cons_zero, List.getElem_cons_succ, List.setIfInBounds_toArray, List.set_cons_zero, List.set_cons_succ]
        refine wpList_storeC rfl (.tmp 5) (.tmp 32) rfl _ Tryd.zeroCells41 rfl x rfl (M16.out.new _ rfl).2 rfl ?_
        have HX := Lib.hid (M16.out.store x)
        try simp only [Act.put]
        skip
        go_wp2_with fail
        refine hKE.out _ _ HX.out.q ?_
        refine tree_end ?_
        go_wp2_with (refine wpList_loadC rfl (.tmp 5) rfl _ rfl x HX.out.com ?_)
        refine (oCommit_any x _).mono ?_
        unfold Packed
        rintro e w9 ⟨a9, c9, rfl, hv9, hf9, hU9⟩
        have HY := Lib.hid (HX.out.next hU9)
        have hend := orend_any br F s5 a a9 c c9 l (comB x) (comE x) w9 HY.out.rd (HV0.out.upd HY.out.upd (fun _ _ h => h)) hv9
        rw [← HE.out.1] at hend
        have hq9 := HY.out.q
        have HEN := Lib.hid hend
        have hE2 := Lib.hid HE.out.2
        clear hv9 hf9 hU9 hend HX
        generalize tcomE l = R at *
        go_wp2_with fail
        refine HEN.out.mono ?_
        rintro e w10 ⟨rfl, hU⟩
        have HW := Lib.hid (HY.out.next hU)
        clear hU hq9
        by_cases hr0 : R = 0
        · have hE3 := hE2.out
          rw [if_neg (by simpa using hr0)] at hE3
          have HE3 := Lib.hid hE3
          clear hE3
          subst hr0
          go_wp2_with first
            | refine wpList_loadC rfl (.tmp 5) rfl _ rfl x HW.out.com ?_
            | refine wpList_storeC rfl (.tmp 2) (.tmp 47) rfl B2 Tryd.zeroCells41 rfl x rfl HW.out.res rfl ?_
          refine ret_com rfl B2 x 0 rfl (setRow_heap _ _ _ _ _ _ HW.out.res) rfl rfl ?_
          rw [HE3.out]
          exact ⟨rfl, HW.out.upd.next (Upd.setRow (S := fun k => k = B2) _ rfl _) (fun i hi h => by have := HB2.out; omega)⟩
        · have hE3 := hE2.out
          rw [if_pos (by simpa using hr0)] at hE3
          have HE3 := Lib.hid hE3
          have hrb : (R != 0) = true := by simpa using hr0
          clear hE3 hr0
          go_wp2_with (refine wpList_storeC rfl (.tmp 2) (.tmp 45) rfl B2 Tryd.zeroCells41 rfl comZ rfl HW.out.res rfl ?_)
          refine ret_com rfl B2 comZ R rfl (setRow_heap _ _ _ _ _ _ HW.out.res) rfl rfl ?_
          rw [HE3.out]
          exact ⟨rfl, HW.out.upd.next (Upd.setRow (S := fun k => k = B2) _ rfl _) (fun i hi h => by have := HB2.out; omega)⟩
    · refine tree_act rfl (fun KM3 hKM3 => ?_)
      have M3 := Lib.hid M0.out.alloc
      go_wp2_with fail
      refine hKM3.out _ _ M3.out.q ?_
      refine tree_act rfl (fun KM17 hKM17 => ?_)
      go_wp2_with fail
      refine (HL2.out _ M3.out.rd M3.out.fb).mono ?_
      rintro e wM17 ⟨rfl, hR, hU⟩
      have M17 := Lib.hid (M3.out.step (s' := s2) hR hU)
      clear hR hU
      go_wp2_with fail
      refine hKM17.out _ _ M17.out.q ?_
      refine tree_act rfl (fun KM18 hKM18 => ?_)
      go_wp2_with fail
      refine (HL3.out _ M17.out.rd M17.out.fb).mono ?_
      rintro e wM18 ⟨rfl, hR, hU⟩
      have M18 := Lib.hid (M17.out.step (s' := s3) hR hU)
      clear hR hU
      go_wp2_with fail
      refine hKM18.out _ _ M18.out.q ?_
      refine tree_act rfl (fun KM19 hKM19 => ?_)
      go_wp2_with fail
      refine (HL4.out _ M18.out.rd).mono ?_
      unfold ReadN
      rintro e wM19 ⟨rfl, hR, hU⟩
      have M19 := Lib.hid (M18.out.step (s' := s4) hR hU)
      clear hR hU
      go_wp2_with fail
      refine hKM19.out _ _ M19.out.q ?_
      refine tree_act rfl (fun KM20 hKM20 => ?_)
      go_wp2_with fail
      refine (HL5.out _ M19.out.rd).mono ?_
      unfold ReadN
      rintro e wM20 ⟨rfl, hR, hU⟩
      have M20 := Lib.hid (M19.out.step (s' := s5) hR hU)
      clear hR hU
      go_wp2_with fail
      refine hKM20.out _ _ M20.out.q ?_
      try simp only [Act.put, List.getElem_toArray, List.getElem_cons_zero, List.getElem_cons_succ, List.setIfInBounds_toArray, List.set_cons_zero, List.set_cons_succ]
      refine tree_take (v := .agg (comA x)) rfl rfl (fun w' hS => exec_build_com (.tmp 21) (.tmp 23) (.tmp 25) (.tmp 28) (.tmp 31) rfl x rfl (by rw [HKX.out.1]; rfl) (by rw [HKX.out.2]; rfl) rfl rfl) ?_
      simp only [Act.put, List.getElem_toArray, List.getElem_cons_zero, List.getElem_cons_succ, List.setIfInBounds_toArray, List.set_cons_zero, List.set_cons_succ]
      refine tree_act rfl (fun KE hKE => ?_)
      try simp only [Act.put, List.getElem_toArray, List.getElem_cons_zero, List.getElem_cons_succ, List.setIfInBounds_toArray, List.set_cons_zero, List.set_cons_succ]
      refine wpList_storeC rfl (.tmp 5) (.tmp 32) rfl _ Tryd.zeroCells41 rfl x rfl (M20.out.new _ rfl).2 rfl ?_
      have HX := Lib.hid (M20.out.store x)
      try simp only [Act.put]
      skip
      go_wp2_with fail
      refine hKE.out _ _ HX.out.q ?_
      refine tree_end ?_
      go_wp2_with (refine wpList_loadC rfl (.tmp 5) rfl _ rfl x HX.out.com ?_)
      refine (oCommit_any x _).mono ?_
      unfold Packed
      rintro e w9 ⟨a9, c9, rfl, hv9, hf9, hU9⟩
      have HY := Lib.hid (HX.out.next hU9)
      have hend := orend_any br F s5 a a9 c c9 l (comB x) (comE x) w9 HY.out.rd (HV0.out.upd HY.out.upd (fun _ _ h => h)) hv9
      rw [← HE.out.1] at hend
      have hq9 := HY.out.q
      have HEN := Lib.hid hend
      have hE2 := Lib.hid HE.out.2
      clear hv9 hf9 hU9 hend HX
      generalize tcomE l = R at *
      go_wp2_with fail
      refine HEN.out.mono ?_
      rintro e w10 ⟨rfl, hU⟩
      have HW := Lib.hid (HY.out.next hU)
      clear hU hq9
      by_cases hr0 : R = 0
      · have hE3 := hE2.out
        rw [if_neg (by simpa using hr0)] at hE3
        have HE3 := Lib.hid hE3
        clear hE3
        subst hr0
        go_wp2_with first
          | refine wpList_loadC rfl (.tmp 5) rfl _ rfl x HW.out.com ?_
          | refine wpList_storeC rfl (.tmp 2) (.tmp 47) rfl B2 Tryd.zeroCells41 rfl x rfl HW.out.res rfl ?_
        refine ret_com rfl B2 x 0 rfl (setRow_heap _ _ _ _ _ _ HW.out.res) rfl rfl ?_
        rw [HE3.out]
        exact ⟨rfl, HW.out.upd.next (Upd.setRow (S := fun k => k = B2) _ rfl _) (fun i hi h => by have := HB2.out; omega)⟩
      · have hE3 := hE2.out
        rw [if_pos (by simpa using hr0)] at hE3
        have HE3 := Lib.hid hE3
        have hrb : (R != 0) = true := by simpa using hr0
        clear hE3 hr0
        go_wp2_with (refine wpList_storeC rfl (.tmp 2) (.tmp 45) rfl B2 Tryd.zeroCells41 rfl comZ rfl HW.out.res rfl ?_)
        refine ret_com rfl B2 comZ R rfl (setRow_heap _ _ _ _ _ _ HW.out.res) rfl rfl ?_
        rw [HE3.out]
        exact ⟨rfl, HW.out.upd.next (Upd.setRow (S := fun k => k = B2) _ rfl _) (fun i hi h => by have := HB2.out; omega)⟩
  · refine tree_act rfl (fun KM1 hKM1 => ?_)
    have M1 := Lib.hid HMd.out.alloc
    go_wp2_with fail
    refine hKM1.out _ _ M1.out.q ?_
    refine tree_act rfl (fun KM21 hKM21 => ?_)
    go_wp2_with fail
    refine (HL1.out _ M1.out.rd).mono ?_
    unfold ReadN
    rintro e wM21 ⟨rfl, hR, hU⟩
    have M21 := Lib.hid (M1.out.step (s' := s1) hR hU)
    clear hR hU
    go_wp2_with fail
    refine hKM21.out _ _ M21.out.q ?_
    refine tree_act rfl (fun KM22 hKM22 => ?_)
    go_wp2_with fail
    refine (HL2.out _ M21.out.rd M21.out.fb).mono ?_
    rintro e wM22 ⟨rfl, hR, hU⟩
    have M22 := Lib.hid (M21.out.step (s' := s2) hR hU)
    clear hR hU
    go_wp2_with fail
    refine hKM22.out _ _ M22.out.q ?_
    refine tree_act rfl (fun KM23 hKM23 => ?_)
    go_wp2_with fail
    refine (HL3.out _ M22.out.rd M22.out.fb).mono ?_
    rintro e wM23 ⟨rfl, hR, hU⟩
    have M23 := Lib.hid (M22.out.step (s' := s3) hR hU)
    clear hR hU
    go_wp2_with fail
    refine hKM23.out _ _ M23.out.q ?_
    refine tree_act rfl (fun KM24 hKM24 => ?_)
    go_wp2_with fail
    refine (HL4.out _ M23.out.rd).mono ?_
    unfold ReadN
    rintro e wM24 ⟨rfl, hR, hU⟩
    have M24 := Lib.hid (M23.out.step (s' := s4) hR hU)
    clear hR hU
    go_wp2_with fail
    refine hKM24.out _ _ M24.out.q ?_
    refine tree_act rfl (fun KM25 hKM25 => ?_)
    go_wp2_with fail
    refine (HL5.out _ M24.out.rd).mono ?_
    unfold ReadN
    rintro e wM25 ⟨rfl, hR, hU⟩
    have M25 := Lib.hid (M24.out.step (s' := s5) hR hU)
    clear hR hU
    go_wp2_with fail
    refine hKM25.out _ _ M25.out.q ?_
    try simp only [Act.put, List.getElem_toArray, List.getElem_cons_zero, List.getElem_cons_succ, List.setIfInBounds_toArray, List.set_cons_zero, List.set_cons_succ]
    refine tree_take (v := .agg (comA x)) rfl rfl (fun w' hS => exec_build_com (.tmp 21) (.tmp 23) (.tmp 25) (.tmp 28) (.tmp 31) rfl x rfl (by rw [HKX.out.1]; rfl) (by rw [HKX.out.2]; rfl) rfl rfl) ?_
    simp only [Act.put, List.getElem_toArray, List.getElem_cons_zero, List.getElem_cons_succ, List.setIfInBounds_toArray, List.set_cons_zero, List.set_cons_succ]
    refine tree_act rfl (fun KE hKE => ?_)
    try simp only [Act.put, List.getElem_toArray, List.getElem_cons_zero, List.getElem_cons_succ, List.setIfInBounds_toArray, List.set_cons_zero, List.set_cons_succ]
    refine wpList_storeC rfl (.tmp 5) (.tmp 32) rfl _ Tryd.zeroCells41 rfl x rfl (M25.out.new _ rfl).2 rfl ?_
    have HX := Lib.hid (M25.out.store x)
    try simp only [Act.put]
    skip
    go_wp2_with fail
    refine hKE.out _ _ HX.out.q ?_
    refine tree_end ?_
    go_wp2_with (refine wpList_loadC rfl (.tmp 5) rfl _ rfl x HX.out.com ?_)
    refine (oCommit_any x _).mono ?_
    unfold Packed
    rintro e w9 ⟨a9, c9, rfl, hv9, hf9, hU9⟩
    have HY := Lib.hid (HX.out.next hU9)
    have hend := orend_any br F s5 a a9 c c9 l (comB x) (comE x) w9 HY.out.rd (HV0.out.upd HY.out.upd (fun _ _ h => h)) hv9
    rw [← HE.out.1] at hend
    have hq9 := HY.out.q
    have HEN := Lib.hid hend
    have hE2 := Lib.hid HE.out.2
    clear hv9 hf9 hU9 hend HX
    generalize tcomE l = R at *
    go_wp2_with fail
    refine HEN.out.mono ?_
    rintro e w10 ⟨rfl, hU⟩
    have HW := Lib.hid (HY.out.next hU)
    clear hU hq9
    by_cases hr0 : R = 0
    · have hE3 := hE2.out
      rw [if_neg (by simpa using hr0)] at hE3
      have HE3 := Lib.hid hE3
      clear hE3
      subst hr0
      go_wp2_with first
        | refine wpList_loadC rfl (.tmp 5) rfl _ rfl x HW.out.com ?_
        | refine wpList_storeC rfl (.tmp 2) (.tmp 47) rfl B2 Tryd.zeroCells41 rfl x rfl HW.out.res rfl ?_
      refine ret_com rfl B2 x 0 rfl (setRow_heap _ _ _ _ _ _ HW.out.res) rfl rfl ?_
      rw [HE3.out]
      exact ⟨rfl, HW.out.upd.next (Upd.setRow (S := fun k => k = B2) _ rfl _) (fun i hi h => by have := HB2.out; omega)⟩
    · have hE3 := hE2.out
      rw [if_pos (by simpa using hr0)] at hE3
      have HE3 := Lib.hid hE3
      have hrb : (R != 0) = true := by simpa using hr0
      clear hE3 hr0
      go_wp2_with (refine wpList_storeC rfl (.tmp 2) (.tmp 45) rfl B2 Tryd.zeroCells41 rfl comZ rfl HW.out.res rfl ?_)
      refine ret_com rfl B2 comZ R rfl (setRow_heap _ _ _ _ _ _ HW.out.res) rfl rfl ?_
      rw [HE3.out]
      exact ⟨rfl, HW.out.upd.next (Upd.setRow (S := fun k => k = B2) _ rfl _) (fun i hi h => by have := HB2.out; omega)⟩
end Go.Proofs.YteefceainlfdfaaDoor
