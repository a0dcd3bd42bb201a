
/- The reference's Commit. -/
import Derived.Test.YteefceainlfdfaaDoorObj8
import Derived.Test.YteefceainlfdfaaDoorObj9
namespace Go.Proofs.YteefceainlfdfaaDoor
set_option linter.unusedSimpArgs false
set_option linter.unusedVariables false
set_option maxRecDepth 100000
open Go.ChangeShapes Go.WideShapes Go.ChangeAt Go.RowKit

set_option maxHeartbeats 4000000 in
theorem r15Commit_any (c : Com) (w : World) : Calls Tryd.prog 21 #[.agg (comA c)] w (Packed w (comB c) (comE c)) := by
  have hU1 := Upd.alloc (fun _ => False) w (.cells (comA c) 41)
  have hrow := heap_alloc_new w (.cells (comA c) 41)
  have hn0 := fun w => key_neq0 c.parent c.hp w
  have hsz := str_size c.msg
  have HN0 := Lib.hid hn0
  clear hn0
  have hlt0 : w.heap.size < (w.alloc (.cells (comA c) 41)).heap.size := by simp
  by_cases hm : 1000 < c.msg.length
  · have hI : (1000 : Int) < (c.msg.length : Int) := by omega
    have hE0 : comE c = 6 := by unfold comE; rw [if_pos hm]
    have h1 : Hid (comB c = [] ∧ comE c = 6) := Lib.hid ⟨by unfold comB; rw [hE0]; rfl, hE0⟩
    have HU := Lib.hid hU1
    have hcl := com_cells hrow
    have HCL := Lib.hid hcl
    clear hm hE0 hU1 hrow hlt0 hcl
    generalize comA c = X at *
    go_enter Tryd.func21, Tryd.ntmps21
    go_upto_region 1 with (fail)
    generalize w.alloc (.cells X 41) = w1 at *
    have q3 := HCL.out.2.2.2.1
    go_wp2_with fail
    go_ret2
    rw [h1.out.1, h1.out.2]
    exact ⟨none, 0, rfl, Vw.nl _ _, (fun g h => by cases h), HU.out⟩
  have hI : decide ((1000 : Int) < (c.msg.length : Int)) = false := by rw [decide_eq_false_iff_not]; omega
  have hcE : comE c = if (c.rooted && !(c.parent == key0)) = true then 5 else 0 := by unfold comE; rw [if_neg hm]
  have HCE := Lib.hid hcE
  have HU01 := Lib.hid hU1
  obtain ⟨i0, hi, hz0, hz1, hz2⟩ := info_parts infoU8
  have HIU := Lib.hid (And.intro hi (And.intro hz0 (And.intro hz1 hz2)))
  clear hi hz0 hz1 hz2
  go_enter Tryd.func21, Tryd.ntmps21
  go_upto_region 1 with (fail)
  clear hcE hU1
  generalize w.alloc (.cells (comA c) 41) = w1 at *
  obtain ⟨B, hB⟩ : ∃ B, B = w.heap.size := ⟨_, rfl⟩
  rw [← hB] at hlt0 hrow ⊢
  have HB := Lib.hid hB
  clear hB
  have HR : Hid (∀ w', Upd (fun _ => False) w1 w' → w'.heap[B]? = some (.cells (comA c) 41)) := Lib.hid (fun w' h => (h.block _ hlt0 (fun h => h)).trans hrow)
  obtain ⟨q0, q1, q2, q3, q4⟩ := com_cells hrow
  have HQ1 := Lib.hid q1
  clear q1 q2 q4 hrow
  cases hro : c.rooted with
  | true =>
    rw [hro] at q0
    cases hpz : (c.parent == key0) with
    | false =>
      rw [hpz] at HN0
      have hE0 : comE c = 5 := by rw [HCE.out, hro, hpz]; rfl
      have h1 : Hid (comB c = [] ∧ comE c = 5) := Lib.hid ⟨by unfold comB; rw [hE0]; rfl, hE0⟩
      have HPZ := Lib.hid hpz
      clear hE0 hpz hro
      have hn0 := HN0.out
      have q1 := HQ1.out
      generalize hP0 : (bvs c.parent).toArray = p0 at *
      have HP0 := Lib.hid hP0
      clear hP0
      go_wp2_with (refine wpList_load_keyG rfl (.tmp 12) rfl B 1 rfl c.parent c.hp q1 ?_; rw [HP0.out])
      go_ret2
      rw [h1.out.1, h1.out.2]
      exact ⟨none, 0, rfl, Vw.nl _ _, (fun g h => by cases h), HU01.out⟩
    | true =>
      rw [hpz] at HN0
      have hR0 : Hid (comE c = 0) := Lib.hid (by rw [HCE.out, hro, hpz]; rfl)
      have HE2 : Hid (comB c = encCom c) := Lib.hid (by unfold comB; rw [if_pos hR0.out])
      have HPZ := Lib.hid hpz
      clear hpz
      have hn0 := HN0.out
      have q1 := HQ1.out
      generalize hP0 : (bvs c.parent).toArray = p0 at hn0
      have HP0 := Lib.hid hP0
      clear hP0
      go_upto_region 5 with (refine wpList_load_keyG rfl (.tmp 12) rfl B 1 rfl c.parent c.hp q1 ?_; rw [HP0.out])
      unfold encCom at HE2
      rw [hro] at HE2
      have HRO := Lib.hid hro
      clear q3 hI q1 hro
      have hcp := c.hp
      have hct := c.ht
      have hown : (w1.alloc (.cells #[.int .u8 3] 5)).ownsRow 0 5 1 (.slice (some ⟨w1.heap.size, 0, none⟩) 1 1) 1 (bvs [3]) := lit_own w1 3
      have HUa := Lib.hid (Upd.alloc (fun _ => False) w1 (.cells #[.int .u8 3] 5))
      have hnum := refBool_any (some ⟨w1.heap.size, 0, none⟩) 1 [3] true _ (Vw.of_own hown) (by decide)
      clear hown
      go_wp2_with fail
      refine hnum.mono ?_
      clear hnum
      rintro e w2 ⟨a2, c2, rfl, hown2, hU2, hf2, hnil2⟩
      have hU12 := HUa.out.trans hU2
      have hf : ∀ g, blk a2 = some g → w1.heap.size ≤ g := fun g hg => by have := hf2 g hg; have := HUa.out.size; omega
      have hl1 : ([3] ++ b1 true : List UInt8).length ≤ 2 := by simp [b1]
      generalize hL1 : ([3] ++ b1 true : List UInt8) = L1 at *
      have HL1 := Lib.hid hL1
      have HI2 := Lib.hid (And.intro hown2 (And.intro hU12 hf))
      clear hL1 hU2 hf2 hnil2 hown2 hU12 hf HUa q0
      go_upto_region 6 with (fail)
      refine wp_region_plan_last [([0, 1, 2, 4, 5], 3), ([], 6)] [7] (fun w' => True) (by kernel_rfl) (by kernel_rfl) trivial ?_
      iterate 5
        first
        | (refine plan_skip rfl rfl ?_)
        | (refine plan_take (v := ?_) rfl rfl (fun w' hS => ?_) ?_
           rotate_left
           · skip
             go_simp; try with_reducible rfl)
        simp only [Act.put, List.getElem_toArray, List.getElem_cons_zero, List.getElem_cons_succ, List.setIfInBounds_toArray, List.set_cons_zero, List.set_cons_succ]
      refine plan_act rfl (fun KK hKK => ?_)
      obtain ⟨hi, hz0, hz1, hz2⟩ := HIU.out
      have hUd := HI2.out.2.1.trans (Upd.drew (fun _ => False) w2)
      have hownd : w2.drew.ownsRow 0 5 1 (.slice a2 L1.length c2) L1.length (bvs L1) := HI2.out.1
      have hsrc := key_src c.hp (com_cells (HR.out _ hUd)).2.1
      refine wpList_app _ rfl (.tmp 21) (.tmp 23) 28 28 rfl 5 i0 (.int .u8 0) 1 1 Tryd.underlying28 hi hz0 hz1 hz2 rfl a2 L1.length c2 (bvs L1) rfl hownd (.slice (some ⟨B, 1, none⟩) 32 32) 32 (bvs c.parent) rfl hsrc ?_ ?_ ?_
      · unfold maxLen; omega
      · omega
      intro a3 c3 w3 hown3 hg3 hat3 hnil3
      obtain ⟨hr1, hr2, hr3⟩ := app_next (w := w1) (k := c.parent) hUd rfl HI2.out.2.2 c.hp hown3 hg3 hat3
      have HI3 := Lib.hid (And.intro hr1 (And.intro hr2 hr3))
      have hlen3 : Hid (L1.length + 32 = (L1 ++ c.parent).length) := Lib.hid (by rw [List.length_append, c.hp])
      have hl2 : (L1 ++ c.parent).length ≤ 34 := by rw [List.length_append, c.hp]; omega
      rw [hlen3.out]
      generalize hL2 : L1 ++ c.parent = L2 at *
      have HL2 := Lib.hid hL2
      clear hL2 hown3 hg3 hat3 hnil3 hr1 hr2 hr3 hsrc hownd hUd hlen3
      refine hKK.out _ _ (.inr trivial) ?_
      refine plan_act rfl (fun K4 hK4 => ?_)
      have hown3 := HI3.out.1
      have hsrc := key_src c.ht (com_cells (HR.out _ HI3.out.2.1)).2.2.1
      simp only [Act.put, List.getElem_toArray, List.getElem_cons_zero, List.getElem_cons_succ, List.setIfInBounds_toArray, List.set_cons_zero, List.set_cons_succ]
      refine wpList_app _ rfl (.tmp 24) (.tmp 26) 28 28 rfl 5 i0 (.int .u8 0) 1 1 Tryd.underlying28 hi hz0 hz1 hz2 rfl a3 L2.length c3 (bvs L2) rfl hown3 (.slice (some ⟨B, 33, none⟩) 32 32) 32 (bvs c.tree) rfl hsrc ?_ ?_ ?_
      · unfold maxLen; omega
      · omega
      clear hi hz0 hz1 hz2
      intro a4 c4 w4 hown4 hg4 hat4 hnil4
      obtain ⟨hr1, hr2, hr3⟩ := app_next (w := w1) (k := c.tree) HI3.out.2.1 rfl HI3.out.2.2 c.ht hown4 hg4 hat4
      have HI4 := Lib.hid (And.intro hr1 (And.intro hr2 hr3))
      have hlen4 : Hid (L2.length + 32 = (L2 ++ c.tree).length) := Lib.hid (by rw [List.length_append, c.ht])
      have hl3 : (L2 ++ c.tree).length ≤ 66 := by rw [List.length_append, c.ht]; omega
      rw [hlen4.out]
      generalize hL3 : L2 ++ c.tree = L3 at *
      have HL3 := Lib.hid hL3
      clear hL3 hown4 hg4 hat4 hnil4 hr1 hr2 hr3 hsrc hown3 hlen4
      refine hK4.out _ _ (.inr trivial) ?_
      iterate 1
        first
        | (refine plan_lskip rfl rfl ?_)
        | (refine plan_last (v := ?_) rfl rfl (fun w' hS => ?_) ?_
           rotate_left
           · skip
             go_simp; try with_reducible rfl)
        simp only [Act.put, List.getElem_toArray, List.getElem_cons_zero, List.getElem_cons_succ, List.setIfInBounds_toArray, List.set_cons_zero, List.set_cons_succ]
      refine plan_end ?_
      go_upto_region 7 with (fail)
      obtain ⟨q0, q1, q2, q3, q4⟩ := com_cells (HR.out _ HI4.out.2.1)
      have HQ := Lib.hid (And.intro q3 q4)
      clear q0 q1 q2 q3 q4
      refine wp_region_plan_last [([0, 1, 2, 4, 5], 3), ([], 6)] [7, 8] (fun w' => w'.cell? ⟨B, 65, none⟩ = some (.string (str c.msg)) ∧ w'.cell? ⟨B, 66, none⟩ = some (.int .u64 c.serial)) (by kernel_rfl) (by kernel_rfl) HQ.out ?_
      iterate 5
        first
        | (refine plan_skip rfl rfl ?_)
        | (refine plan_take (v := ?_) rfl rfl (fun w' hS => ?_) ?_
           rotate_left
           · skip
             go_simp; try with_reducible rfl)
        simp only [Act.put, List.getElem_toArray, List.getElem_cons_zero, List.getElem_cons_succ, List.setIfInBounds_toArray, List.set_cons_zero, List.set_cons_succ]
      refine plan_act rfl (fun K5 hK5 => ?_)
      go_wp2_with fail
      have hvL := (Vw.of_own HI4.out.1).upd (Upd.drew (fun _ => False) w4) (fun _ _ h => h)
      refine (refText_any a4 c4 L3 (str c.msg) _ hvL (by omega) (by rw [str_size]; omega)).mono ?_
      rintro e w5 ⟨a5, c5, rfl, hown5, hU5, hf5, hnil5⟩
      have hU15 := (HI4.out.2.1.trans (Upd.drew (fun _ => False) w4)).trans hU5
      rw [t4_str] at hown5 ⊢
      have hl4 : (L3 ++ tx c.msg).length ≤ 1070 := by rw [List.length_append, tx_len]; omega
      have hb5 : ∀ g, blk a5 = some g → w1.heap.size ≤ g := fun g hg => by have := hf5 g hg; have := HI4.out.2.1.size; simp at *; omega
      have HI5 := Lib.hid (And.intro hown5 (And.intro hU15 hb5))
      obtain ⟨q0, q1, q2, q3, q4⟩ := com_cells (HR.out _ hU15)
      have HQ5 := Lib.hid (And.intro q3 q4)
      generalize hL4 : L3 ++ tx c.msg = L4 at *
      have HL4 := Lib.hid hL4
      clear hL4 q0 q1 q2 q3 q4 hvL hown5 hU5 hf5 hnil5 hU15 hb5
      go_wp2_with fail
      refine hK5.out _ _ (.inr HQ5.out) ?_
      refine plan_act rfl (fun K6 hK6 => ?_)
      go_wp2_with fail
      have hvL := Vw.of_own HI5.out.1
      have hnum := refNum_any a5 c5 L4 c.serial.toNat 8 _ hvL (by have := c.hs0; have := c.hs1; omega) (by omega)
      rw [show ((c.serial.toNat : Nat) : Int) = c.serial from by have := c.hs0; omega, show heldN 8 = 8 from rfl] at hnum
      refine hnum.mono ?_
      rintro e w6 ⟨a6, c6, rfl, hown6, hU6, hf6, hnil6⟩
      have hU16 := HI5.out.2.1.trans hU6
      have hb6 : ∀ g, blk a6 = some g → w1.heap.size ≤ g := fun g hg => by have := hf6 g hg; have := HI5.out.2.1.size; omega
      obtain ⟨q0, q1, q2, q3, q4⟩ := com_cells (HR.out _ hU16)
      have HQ6 := Lib.hid (And.intro q3 q4)
      generalize hL5 : L4 ++ le c.serial.toNat 8 = L5 at *
      have HL5 := Lib.hid hL5
      have HI6 := Lib.hid (And.intro hown6 (And.intro hU16 hb6))
      clear hL5 q0 q1 q2 q3 q4 hvL hnum hown6 hU6 hf6 hnil6 hU16 hb6
      go_wp2_with fail
      refine hK6.out _ _ (.inr HQ6.out) ?_
      iterate 2
        first
        | (refine plan_lskip rfl rfl ?_)
        | (refine plan_last (v := ?_) rfl rfl (fun w' hS => ?_) ?_
           rotate_left
           · skip
             go_simp; try with_reducible rfl)
        simp only [Act.put, List.getElem_toArray, List.getElem_cons_zero, List.getElem_cons_succ, List.setIfInBounds_toArray, List.set_cons_zero, List.set_cons_succ]
      refine plan_end ?_
      go_wp2_with fail
      go_ret2
      obtain ⟨hown, hU, hf⟩ := HI6.out
      have hE := HE2.out
      rw [hE, hR0.out]
      exact ⟨a6, c6, rfl, Vw.of_own hown, (fun g hg => ⟨by have := hf g hg; have := HB.out; omega, (hown.lt g ((own_blk _ _ _).trans hg)).2⟩), HU01.out.trans hU⟩
  | false =>
    rw [hro] at q0
    have hR0 : Hid (comE c = 0) := Lib.hid (by rw [HCE.out, hro]; rfl)
    have HE2 : Hid (comB c = encCom c) := Lib.hid (by unfold comB; rw [if_pos hR0.out])
    go_upto_region 5 with (fail)
    unfold encCom at HE2
    rw [hro] at HE2
    have HRO := Lib.hid hro
    clear q3 hI  hro
    have hcp := c.hp
    have hct := c.ht
    have hown : (w1.alloc (.cells #[.int .u8 3] 5)).ownsRow 0 5 1 (.slice (some ⟨w1.heap.size, 0, none⟩) 1 1) 1 (bvs [3]) := lit_own w1 3
    have HUa := Lib.hid (Upd.alloc (fun _ => False) w1 (.cells #[.int .u8 3] 5))
    have hnum := refBool_any (some ⟨w1.heap.size, 0, none⟩) 1 [3] false _ (Vw.of_own hown) (by decide)
    clear hown
    go_wp2_with fail
    refine hnum.mono ?_
    clear hnum
    rintro e w2 ⟨a2, c2, rfl, hown2, hU2, hf2, hnil2⟩
    have hU12 := HUa.out.trans hU2
    have hf : ∀ g, blk a2 = some g → w1.heap.size ≤ g := fun g hg => by have := hf2 g hg; have := HUa.out.size; omega
    have hl1 : ([3] ++ b1 false : List UInt8).length ≤ 2 := by simp [b1]
    generalize hL1 : ([3] ++ b1 false : List UInt8) = L1 at *
    have HL1 := Lib.hid hL1
    have HI2 := Lib.hid (And.intro hown2 (And.intro hU12 hf))
    clear hL1 hU2 hf2 hnil2 hown2 hU12 hf HUa q0
    go_upto_region 6 with (fail)
    refine wp_region_plan_last [([0, 1, 2, 4, 5], 3), ([], 6)] [7] (fun w' => True) (by kernel_rfl) (by kernel_rfl) trivial ?_
    iterate 5
      first
      | (refine plan_skip rfl rfl ?_)
      | (refine plan_take (v := ?_) rfl rfl (fun w' hS => ?_) ?_
         rotate_left
         · skip
           go_simp; try with_reducible rfl)
      simp only [Act.put, List.getElem_toArray, List.getElem_cons_zero, List.getElem_cons_succ, List.setIfInBounds_toArray, List.set_cons_zero, List.set_cons_succ]
    refine plan_act rfl (fun KK hKK => ?_)
    obtain ⟨hi, hz0, hz1, hz2⟩ := HIU.out
    have hUd := HI2.out.2.1.trans (Upd.drew (fun _ => False) w2)
    have hownd : w2.drew.ownsRow 0 5 1 (.slice a2 L1.length c2) L1.length (bvs L1) := HI2.out.1
    have hsrc := key_src c.hp (com_cells (HR.out _ hUd)).2.1
    refine wpList_app _ rfl (.tmp 21) (.tmp 23) 28 28 rfl 5 i0 (.int .u8 0) 1 1 Tryd.underlying28 hi hz0 hz1 hz2 rfl a2 L1.length c2 (bvs L1) rfl hownd (.slice (some ⟨B, 1, none⟩) 32 32) 32 (bvs c.parent) rfl hsrc ?_ ?_ ?_
    · unfold maxLen; omega
    · omega
    intro a3 c3 w3 hown3 hg3 hat3 hnil3
    obtain ⟨hr1, hr2, hr3⟩ := app_next (w := w1) (k := c.parent) hUd rfl HI2.out.2.2 c.hp hown3 hg3 hat3
    have HI3 := Lib.hid (And.intro hr1 (And.intro hr2 hr3))
    have hlen3 : Hid (L1.length + 32 = (L1 ++ c.parent).length) := Lib.hid (by rw [List.length_append, c.hp])
    have hl2 : (L1 ++ c.parent).length ≤ 34 := by rw [List.length_append, c.hp]; omega
    rw [hlen3.out]
    generalize hL2 : L1 ++ c.parent = L2 at *
    have HL2 := Lib.hid hL2
    clear hL2 hown3 hg3 hat3 hnil3 hr1 hr2 hr3 hsrc hownd hUd hlen3
    refine hKK.out _ _ (.inr trivial) ?_
    refine plan_act rfl (fun K4 hK4 => ?_)
    have hown3 := HI3.out.1
    have hsrc := key_src c.ht (com_cells (HR.out _ HI3.out.2.1)).2.2.1
    simp only [Act.put, List.getElem_toArray, List.getElem_cons_zero, List.getElem_cons_succ, List.setIfInBounds_toArray, List.set_cons_zero, List.set_cons_succ]
    refine wpList_app _ rfl (.tmp 24) (.tmp 26) 28 28 rfl 5 i0 (.int .u8 0) 1 1 Tryd.underlying28 hi hz0 hz1 hz2 rfl a3 L2.length c3 (bvs L2) rfl hown3 (.slice (some ⟨B, 33, none⟩) 32 32) 32 (bvs c.tree) rfl hsrc ?_ ?_ ?_
    · unfold maxLen; omega
    · omega
    clear hi hz0 hz1 hz2
    intro a4 c4 w4 hown4 hg4 hat4 hnil4
    obtain ⟨hr1, hr2, hr3⟩ := app_next (w := w1) (k := c.tree) HI3.out.2.1 rfl HI3.out.2.2 c.ht hown4 hg4 hat4
    have HI4 := Lib.hid (And.intro hr1 (And.intro hr2 hr3))
    have hlen4 : Hid (L2.length + 32 = (L2 ++ c.tree).length) := Lib.hid (by rw [List.length_append, c.ht])
    have hl3 : (L2 ++ c.tree).length ≤ 66 := by rw [List.length_append, c.ht]; omega
    rw [hlen4.out]
    generalize hL3 : L2 ++ c.tree = L3 at *
    have HL3 := Lib.hid hL3
    clear hL3 hown4 hg4 hat4 hnil4 hr1 hr2 hr3 hsrc hown3 hlen4
    refine hK4.out _ _ (.inr trivial) ?_
    iterate 1
      first
      | (refine plan_lskip rfl rfl ?_)
      | (refine plan_last (v := ?_) rfl rfl (fun w' hS => ?_) ?_
         rotate_left
         · skip
           go_simp; try with_reducible rfl)
      simp only [Act.put, List.getElem_toArray, List.getElem_cons_zero, List.getElem_cons_succ, List.setIfInBounds_toArray, List.set_cons_zero, List.set_cons_succ]
    refine plan_end ?_
    go_upto_region 7 with (fail)
    obtain ⟨q0, q1, q2, q3, q4⟩ := com_cells (HR.out _ HI4.out.2.1)
    have HQ := Lib.hid (And.intro q3 q4)
    clear q0 q1 q2 q3 q4
    refine wp_region_plan_last [([0, 1, 2, 4, 5], 3), ([], 6)] [7, 8] (fun w' => w'.cell? ⟨B, 65, none⟩ = some (.string (str c.msg)) ∧ w'.cell? ⟨B, 66, none⟩ = some (.int .u64 c.serial)) (by kernel_rfl) (by kernel_rfl) HQ.out ?_
    iterate 5
      first
      | (refine plan_skip rfl rfl ?_)
      | (refine plan_take (v := ?_) rfl rfl (fun w' hS => ?_) ?_
         rotate_left
         · skip
           go_simp; try with_reducible rfl)
      simp only [Act.put, List.getElem_toArray, List.getElem_cons_zero, List.getElem_cons_succ, List.setIfInBounds_toArray, List.set_cons_zero, List.set_cons_succ]
    refine plan_act rfl (fun K5 hK5 => ?_)
    go_wp2_with fail
    have hvL := (Vw.of_own HI4.out.1).upd (Upd.drew (fun _ => False) w4) (fun _ _ h => h)
    refine (refText_any a4 c4 L3 (str c.msg) _ hvL (by omega) (by rw [str_size]; omega)).mono ?_
    rintro e w5 ⟨a5, c5, rfl, hown5, hU5, hf5, hnil5⟩
    have hU15 := (HI4.out.2.1.trans (Upd.drew (fun _ => False) w4)).trans hU5
    rw [t4_str] at hown5 ⊢
    have hl4 : (L3 ++ tx c.msg).length ≤ 1070 := by rw [List.length_append, tx_len]; omega
    have hb5 : ∀ g, blk a5 = some g → w1.heap.size ≤ g := fun g hg => by have := hf5 g hg; have := HI4.out.2.1.size; simp at *; omega
    have HI5 := Lib.hid (And.intro hown5 (And.intro hU15 hb5))
    obtain ⟨q0, q1, q2, q3, q4⟩ := com_cells (HR.out _ hU15)
    have HQ5 := Lib.hid (And.intro q3 q4)
    generalize hL4 : L3 ++ tx c.msg = L4 at *
    have HL4 := Lib.hid hL4
    clear hL4 q0 q1 q2 q3 q4 hvL hown5 hU5 hf5 hnil5 hU15 hb5
    go_wp2_with fail
    refine hK5.out _ _ (.inr HQ5.out) ?_
    refine plan_act rfl (fun K6 hK6 => ?_)
    go_wp2_with fail
    have hvL := Vw.of_own HI5.out.1
    have hnum := refNum_any a5 c5 L4 c.serial.toNat 8 _ hvL (by have := c.hs0; have := c.hs1; omega) (by omega)
    rw [show ((c.serial.toNat : Nat) : Int) = c.serial from by have := c.hs0; omega, show heldN 8 = 8 from rfl] at hnum
    refine hnum.mono ?_
    rintro e w6 ⟨a6, c6, rfl, hown6, hU6, hf6, hnil6⟩
    have hU16 := HI5.out.2.1.trans hU6
    have hb6 : ∀ g, blk a6 = some g → w1.heap.size ≤ g := fun g hg => by have := hf6 g hg; have := HI5.out.2.1.size; omega
    obtain ⟨q0, q1, q2, q3, q4⟩ := com_cells (HR.out _ hU16)
    have HQ6 := Lib.hid (And.intro q3 q4)
    generalize hL5 : L4 ++ le c.serial.toNat 8 = L5 at *
    have HL5 := Lib.hid hL5
    have HI6 := Lib.hid (And.intro hown6 (And.intro hU16 hb6))
    clear hL5 q0 q1 q2 q3 q4 hvL hnum hown6 hU6 hf6 hnil6 hU16 hb6
    go_wp2_with fail
    refine hK6.out _ _ (.inr HQ6.out) ?_
    iterate 2
      first
      | (refine plan_lskip rfl rfl ?_)
      | (refine plan_last (v := ?_) rfl rfl (fun w' hS => ?_) ?_
         rotate_left
         · skip
           go_simp; try with_reducible rfl)
      simp only [Act.put, List.getElem_toArray, List.getElem_cons_zero, List.getElem_cons_succ, List.setIfInBounds_toArray, List.set_cons_zero, List.set_cons_succ]
    refine plan_end ?_
    go_wp2_with fail
    go_ret2
    obtain ⟨hown, hU, hf⟩ := HI6.out
    have hE := HE2.out
    rw [hE, hR0.out]
    exact ⟨a6, c6, rfl, Vw.of_own hown, (fun g hg => ⟨by have := hf g hg; have := HB.out; omega, (hown.lt g ((own_blk _ _ _).trans hg)).2⟩), HU01.out.trans hU⟩
end Go.Proofs.YteefceainlfdfaaDoor
