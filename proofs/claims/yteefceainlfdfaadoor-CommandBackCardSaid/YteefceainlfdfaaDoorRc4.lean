
/- The reference's Pack of commands. -/
import Derived.Test.YteefceainlfdfaaDoorRc3
namespace Go.Proofs.YteefceainlfdfaaDoor
set_option linter.unusedSimpArgs false
set_option linter.unusedVariables false
set_option maxRecDepth 100000
open Go.ChangeShapes Go.WideShapes Go.ChangeAt Go.RowKit

set_option maxHeartbeats 8000000 in
theorem r25Pack_any (c : Cmd) (a1 : Option Addr) (c1 : Nat) (a2 : Option Addr) (c2 : Nat) (w : World) (h : CmdIn w c a1 c1 a2 c2) (hnm : c.name.length ≤ 1000000) :
    Calls Tryd.prog 27 #[cmdV c a1 c1 a2 c2] w (Packed w (packL c) (rightL c)) := by
  have hU1 := Upd.alloc (fun _ => False) w (.cells (cmdV c a1 c1 a2 c2).cells 25)
  have hrow := heap_alloc_new w (.cells (cmdV c a1 c1 a2 c2).cells 25)
  have h1 := h.upd hU1
  clear h
  have hcr := r25Right_any c a1 c1 a2 c2 _ h1 (by omega)
  unfold cmdV at hU1 hcr hrow h1 ⊢
  unfold sv at hU1 hcr hrow h1 ⊢
  dsimp only [Value.cells] at hU1 hcr hrow h1
  have HS := Lib.hid (right_small c)
  have HE : Hid (packL c = if rightL c = 0 then encCmd c else []) := rfl
  generalize hRR : rightL c = RR at *
  have HP := Lib.hid (And.intro hU1 (And.intro hrow (And.intro h1 hcr)))
  clear hU1 hrow h1 hRR hcr
  go_enter Tryd.func27, Tryd.ntmps27
  go_upto_region 1 with (fail)
  obtain ⟨hU1, hrow, h1, hcr⟩ := HP.out
  generalize w.alloc (.cells #[.int .i64 c.kind, .string (str c.msg), .slice a1 c.ch.length c1, .slice a2 c.ps.length c2, .int .i64 c.count, .int .i64 c.commit, .int .i64 c.dest, .string (str c.name)] 25) = y0 at *
  obtain ⟨B, hB⟩ : ∃ B, B = w.heap.size := ⟨_, rfl⟩
  rw [← hB] at hrow ⊢
  obtain ⟨z0, z1, z2, z3, z4, z5, z6, z7⟩ := cmd_cells hrow (Upd.refl _ y0)
  have hltB := lt_of_heap hrow
  have HBz : Hid (B < y0.heap.size) := Lib.hid hltB
  have HB := Lib.hid hB
  have HU := Lib.hid hU1
  have HI := Lib.hid h1
  have HR0 := Lib.hid hrow
  clear hU1 hrow h1 HP hB hltB
  go_wp2_with fail
  refine hcr.mono ?_
  rintro e w1 ⟨rfl, hU2⟩
  clear hcr z0 z1 z2 z3 z4 z5 z6 z7
  have HU2 := Lib.hid hU2
  clear hU2
  by_cases h0 : RR = 0
  case neg =>
    have hne : (RR != 0) = true := by simpa using h0
    have hE := HE.out
    rw [if_neg h0] at hE
    have HE2 := Lib.hid hE
    clear hE h0
    go_wp2_with fail
    go_ret2
    unfold Packed
    rw [HE2.out]
    exact ⟨none, 0, rfl, Vw.nl _ _, (fun g h => by cases h), HU.out.trans HU2.out⟩
  case pos =>
  subst h0
  have hS := HS.out rfl
  have HSM := Lib.hid hS
  obtain ⟨k1, k15, hm, hch, hps, hea, hpa⟩ := hS
  have hE := HE.out
  rw [if_pos rfl] at hE
  unfold encCmd at hE
  have HE2 := Lib.hid hE
  have hcv : IntKind.u64.wrap c.kind = c.kind := by show _ % 18446744073709551616 = _; omega
  have hcap := HI.out.ch.cap
  have hlc := HI.out.ch.le
  have hcap2 := HI.out.ps.cap
  have hlc2 := HI.out.ps.le
  unfold maxLen at hcap hcap2
  clear hE HE HS hea hpa
  obtain ⟨z0, z1, z2, z3, z4, z5, z6, z7⟩ := cmd_cells HR0.out HU2.out
  have HQ := Lib.hid (And.intro z0 (And.intro z1 z2))
  clear z0 z1 z2 z3 z4 z5 z6 z7
  go_upto_region 4 with (fail)
  refine wp_region_plan_last [([0, 1, 2, 4, 5, 7, 8, 9], 3), ([], 6), ([], 10)] [11] (fun w' => w'.cell? ⟨B, 0, none⟩ = some (.int .i64 c.kind) ∧ w'.cell? ⟨B, 1, none⟩ = some (.string (str c.msg)) ∧ w'.cell? ⟨B, 2, none⟩ = some (.slice a1 c.ch.length c1)) (by kernel_rfl) (by kernel_rfl) HQ.out ?_
  clear HQ
  iterate 8
    first
    | (refine plan_skip rfl rfl ?_)
    | (refine plan_take (v := ?_) rfl rfl (fun w' hS => ?_) ?_
       rotate_left
       · skip
         go_simp; try with_reducible rfl)
    simp only [Act.put, List.getElem_toArray, List.getElem_cons_zero, List.getElem_cons_succ, List.setIfInBounds_toArray, List.set_cons_zero, List.set_cons_succ]
  refine plan_act rfl (fun K3 hK3 => ?_)
  obtain ⟨L0, hL0⟩ : ∃ L, L = ([] : List UInt8) := ⟨_, rfl⟩
  have HL0 := Lib.hid hL0
  have hnum0 := refNum_any none 0 [] c.kind.toNat 1 w1.drew (Vw.nl _ _) (by omega) (by decide)
  rw [show ((c.kind.toNat : Nat) : Int) = c.kind from by omega, show heldN 1 = 1 from rfl, List.length_nil, ← hL0] at hnum0
  clear hcv
  go_wp2_with fail
  refine hnum0.mono ?_
  rintro e v1 ⟨e1, d1, rfl, hown, hU, hf, hnil⟩
  clear hnum0
  have hUp := HU2.out.trans (Upd.drew (fun _ => False) w1)
  have hU2 := hUp.trans hU
  have hl1 : (L0 ++ le c.kind.toNat 1).length ≤ 1 := by rw [hL0]; simp [le_length]
  have hb : ∀ g, blk e1 = some g → B ≤ g := fun g hg => by have := hf g hg; have := hUp.size; have := HBz.out; omega
  obtain ⟨z0, z1, z2, z3, z4, z5, z6, z7⟩ := cmd_cells HR0.out hU2
  have HQ := Lib.hid (And.intro z0 (And.intro z1 z2))
  clear hL0
  generalize hL : L0 ++ le c.kind.toNat 1 = L1 at *
  have HL1 := Lib.hid hL
  have HI1 := Lib.hid (And.intro hown (And.intro hU2 hb))
  clear hL hown hU hf hnil hU2 hb hUp z0 z1 z2 z3 z4 z5 z6 z7
  go_wp2_with fail
  refine hK3.out _ _ (.inr HQ.out) ?_
  clear HQ
  refine plan_act rfl (fun K6 hK6 => ?_)
  go_wp2_with fail
  have hUp := HI1.out.2.1
  have hvL := (Vw.of_own HI1.out.1)
  refine (refText_any e1 d1 L1 (str c.msg) _ hvL (by omega) (by rw [str_size]; omega)).mono ?_
  rintro e v2 ⟨e2, d2, rfl, hown, hU, hf, hnil⟩
  have hU2 := hUp.trans hU
  rw [t4_str] at hown ⊢
  have hl2 : (L1 ++ tx c.msg).length ≤ 1005 := by rw [List.length_append]; simp only [le_length, tx_len, i4_length, b1, List.length_cons, List.length_nil]; omega
  have hb : ∀ g, blk e2 = some g → B ≤ g := fun g hg => by have := hf g hg; have := hUp.size; have := HBz.out; omega
  obtain ⟨z0, z1, z2, z3, z4, z5, z6, z7⟩ := cmd_cells HR0.out hU2
  have HQ := Lib.hid (And.intro z0 (And.intro z1 z2))
  generalize hL : L1 ++ tx c.msg = L2 at *
  have HL2 := Lib.hid hL
  have HI2 := Lib.hid (And.intro hown (And.intro hU2 hb))
  clear hL hown hU hf hnil hU2 hb hUp hvL z0 z1 z2 z3 z4 z5 z6 z7
  go_wp2_with fail
  refine hK6.out _ _ (.inr HQ.out) ?_
  clear HQ
  refine plan_act rfl (fun K10 hK10 => ?_)
  go_wp2_with fail
  have hUp := HI2.out.2.1
  have hvL := (Vw.of_own HI2.out.1)
  refine (refInt_any e2 d2 L2 (c.ch.length : Int) _ hvL (by omega)).mono ?_
  rintro e v3 ⟨e3, d3, rfl, hown, hU, hf, hnil⟩
  have hU2 := hUp.trans hU
  have hl3 : (L2 ++ i4 (c.ch.length : Int)).length ≤ 1009 := by rw [List.length_append]; simp only [le_length, tx_len, i4_length, b1, List.length_cons, List.length_nil]; omega
  have hb : ∀ g, blk e3 = some g → B ≤ g := fun g hg => by have := hf g hg; have := hUp.size; have := HBz.out; omega
  obtain ⟨z0, z1, z2, z3, z4, z5, z6, z7⟩ := cmd_cells HR0.out hU2
  have HQ := Lib.hid (And.intro z0 (And.intro z1 z2))
  generalize hL : L2 ++ i4 (c.ch.length : Int) = L3 at *
  have HL3 := Lib.hid hL
  have HI3 := Lib.hid (And.intro hown (And.intro hU2 hb))
  clear hL hown hU hf hnil hU2 hb hUp hvL z0 z1 z2 z3 z4 z5 z6 z7
  go_wp2_with fail
  refine hK10.out _ _ (.inr HQ.out) ?_
  clear HQ
  iterate 1
    first
    | (refine plan_lskip rfl rfl ?_)
    | (refine plan_last (v := ?_) rfl rfl (fun w' hS => ?_) ?_
       rotate_left
       · skip
         go_simp; try with_reducible rfl)
    simp only [Act.put, List.getElem_toArray, List.getElem_cons_zero, List.getElem_cons_succ, List.setIfInBounds_toArray, List.set_cons_zero, List.set_cons_succ]
  refine plan_end ?_
  go_wp2_with fail
  go_loopw [5, 6] (fun v i wr => ∃ (j : Nat) (ar : Option Addr) (cr : Nat) (L : List UInt8), j ≤ c.ch.length ∧ i = .int .i64 (j : Int) ∧ v = .slice ar L.length cr ∧ Hid (L = L3 ++ (c.ch.take j).flatMap encCh) ∧ Hid (wr.ownsRow 0 5 1 (.slice ar L.length cr) L.length (bvs L) ∧ Upd (fun _ => False) y0 wr ∧ (∀ g, blk ar = some g → B ≤ g))) (fun _ i _ => c.ch.length - (intOf i).toNat)
  case atStart => exact ⟨0, e3, d3, L3, Nat.zero_le _, rfl, rfl, Lib.hid (by simp), HI3⟩
  case round =>
    clear HI1 HI2 HI3
    obtain ⟨j, e10, d10, L10, hj, rfl, rfl, HL, HIr⟩ := hrel
    obtain ⟨z0, z1, z2, z3, z4, z5, z6, z7⟩ := cmd_cells HR0.out HIr.out.2.1
    clear z0 z1 z3 z4 z5 z6 z7
    by_cases hlt : j < c.ch.length
    · have hI : (j : Int) < (c.ch.length : Int) := by omega
      have hv := HI.out.ch.upd HIr.out.2.1 (fun _ _ h => h)
      obtain ⟨b, o, hb, hcell⟩ := hv.at (by omega) (by decide)
      clear hv
      rw [hb] at z2 ⊢
      have q0 : wr.cell? ⟨b, o + j * 4, none⟩ = some (sv c.ch[j].path) := hcell (j * 4 + 0) _ (chV_get c.ch j 0 hlt (by decide))
      have q1 : wr.cell? ⟨b, o + j * 4 + 1, none⟩ = some (.bool c.ch[j].del) := hcell (j * 4 + 1) _ (chV_get c.ch j 1 hlt (by decide))
      have q2 : wr.cell? ⟨b, o + j * 4 + 2, none⟩ = some (.bool c.ch[j].exec) := hcell (j * 4 + 2) _ (chV_get c.ch j 2 hlt (by decide))
      have q3 : wr.cell? ⟨b, o + j * 4 + 3, none⟩ = some (sv c.ch[j].text) := hcell (j * 4 + 3) _ (chV_get c.ch j 3 hlt (by decide))
      have hsucc := flatMap_succ encCh c.ch j hlt
      obtain ⟨hx1, hx2⟩ := HSM.out.each _ (List.getElem_mem hlt)
      have hl0 : L10.length ≤ 3000000 := by
        have := flatMap_len encCh 20110 (c.ch.take j) (fun x hx => encCh_len x (HSM.out.each x (List.mem_of_mem_take hx)))
        rw [List.length_take] at this
        rw [HL.out, List.length_append]
        have h3 : min j c.ch.length * 20110 ≤ 100 * 20110 := Nat.mul_le_mul_right _ (by omega)
        omega
      generalize c.ch[j] = x at *
      obtain ⟨xp, xd, xe, xt⟩ := x
      dsimp only at *
      have hal := Upd.alloc (fun _ => False) wr (.cells #[sv xp, .bool xd, .bool xe, sv xt] 30)
      have hnew := heap_alloc_new wr (.cells #[sv xp, .bool xd, .bool xe, sv xt] 30)
      unfold sv at q0 q3 hal hnew
      have HSU := Lib.hid hsucc
      have HNW := Lib.hid (And.intro hal hnew)
      clear hcell hsucc hal hnew hb
      go_upto_region 9 with (fail)
      obtain ⟨hal, hnew⟩ := HNW.out
      generalize wr.alloc (.cells #[Value.string (str xp), .bool xd, .bool xe, Value.string (str xt)] 30) = v10 at *
      obtain ⟨xb, hxb⟩ : ∃ xb, xb = wr.heap.size := ⟨_, rfl⟩
      rw [← hxb] at hnew ⊢
      have HN := Lib.hid hnew
      have HAL := Lib.hid hal
      have hown0 := ownsRow_upd HIr.out.1 hal (fun _ _ h => h)
      have HI10 : Hid (v10.ownsRow 0 5 1 (.slice e10 L10.length d10) L10.length (bvs L10) ∧ Upd (fun _ => False) v10 v10 ∧ (∀ g, blk e10 = some g → B ≤ g)) := Lib.hid ⟨hown0, Upd.refl _ _, HIr.out.2.2⟩
      have HBy := HBz
      have hBz2 : B < v10.heap.size := by have := HBz.out; have := HIr.out.2.1.size; have := hal.size; omega
      clear HBz
      have HBz := Lib.hid hBz2
      obtain ⟨y0', y1', y2', y3'⟩ := ch_cells hnew
      have HQ := Lib.hid (And.intro y0' (And.intro y1' (And.intro y2' y3')))
      have H00 := HIr.out.2.1
      have HUr := Lib.hid H00
      clear HNW hal hnew hxb hown0 hBz2 y0' y1' y2' y3' q0 q1 q2 q3 HIr H00 z2
      refine wp_region_plan_last [([0, 1, 2, 4, 5, 7, 8, 10, 11], 3), ([], 6), ([], 9), ([], 12)] [13] (fun w' => w'.cell? ⟨xb, 0, none⟩ = some (.string (str xp)) ∧ w'.cell? ⟨xb, 1, none⟩ = some (.bool xd) ∧ w'.cell? ⟨xb, 2, none⟩ = some (.bool xe) ∧ w'.cell? ⟨xb, 3, none⟩ = some (.string (str xt))) (by kernel_rfl) (by kernel_rfl) HQ.out ?_
      clear HQ
      iterate 9
        first
        | (refine plan_skip rfl rfl ?_)
        | (refine plan_take (v := ?_) rfl rfl (fun w' hS => ?_) ?_
           rotate_left
           · skip
             go_simp; try with_reducible rfl)
        simp only [Act.put, List.getElem_toArray, List.getElem_cons_zero, List.getElem_cons_succ, List.setIfInBounds_toArray, List.set_cons_zero, List.set_cons_succ]
      refine plan_act rfl (fun K3 hK3 => ?_)
      go_wp2_with fail
      have hUp := HI10.out.2.1.trans (Upd.drew (fun _ => False) v10)
      have hvL := (Vw.of_own HI10.out.1).upd (Upd.drew (fun _ => False) v10) (fun _ _ h => h)
      refine (refText_any e10 d10 L10 (str xp) _ hvL (by omega) (by rw [str_size]; omega)).mono ?_
      rintro e v11 ⟨e11, d11, rfl, hown, hU, hf, hnil⟩
      have hU2 := hUp.trans hU
      rw [t4_str] at hown ⊢
      have hl11 : (L10 ++ tx xp).length ≤ 3020104 := by rw [List.length_append]; simp only [le_length, tx_len, i4_length, b1, List.length_cons, List.length_nil]; omega
      have hb : ∀ g, blk e11 = some g → B ≤ g := fun g hg => by have := hf g hg; have := hUp.size; have := HBz.out; omega
      obtain ⟨y0, y1, y2, y3⟩ := ch_cells ((hU2.block _ (lt_of_heap HN.out) (fun h => h)).trans HN.out)
      have HQ := Lib.hid (And.intro y0 (And.intro y1 (And.intro y2 y3)))
      generalize hL : L10 ++ tx xp = L11 at *
      have HL11 := Lib.hid hL
      have HI11 := Lib.hid (And.intro hown (And.intro hU2 hb))
      clear hL hown hU hf hnil hU2 hb hUp hvL y0 y1 y2 y3
      go_wp2_with fail
      refine hK3.out _ _ (.inr HQ.out) ?_
      clear HQ
      refine plan_act rfl (fun K6 hK6 => ?_)
      go_wp2_with fail
      have hUp := HI11.out.2.1
      have hvL := (Vw.of_own HI11.out.1)
      refine (refBool_any e11 d11 L11 xd _ hvL (by omega)).mono ?_
      rintro e v12 ⟨e12, d12, rfl, hown, hU, hf, hnil⟩
      have hU2 := hUp.trans hU
      have hl12 : (L11 ++ b1 xd).length ≤ 3020105 := by rw [List.length_append]; simp only [le_length, tx_len, i4_length, b1, List.length_cons, List.length_nil]; omega
      have hb : ∀ g, blk e12 = some g → B ≤ g := fun g hg => by have := hf g hg; have := hUp.size; have := HBz.out; omega
      obtain ⟨y0, y1, y2, y3⟩ := ch_cells ((hU2.block _ (lt_of_heap HN.out) (fun h => h)).trans HN.out)
      have HQ := Lib.hid (And.intro y0 (And.intro y1 (And.intro y2 y3)))
      generalize hL : L11 ++ b1 xd = L12 at *
      have HL12 := Lib.hid hL
      have HI12 := Lib.hid (And.intro hown (And.intro hU2 hb))
      clear hL hown hU hf hnil hU2 hb hUp hvL y0 y1 y2 y3
      go_wp2_with fail
      refine hK6.out _ _ (.inr HQ.out) ?_
      clear HQ
      refine plan_act rfl (fun K9 hK9 => ?_)
      go_wp2_with fail
      have hUp := HI12.out.2.1
      have hvL := (Vw.of_own HI12.out.1)
      refine (refBool_any e12 d12 L12 xe _ hvL (by omega)).mono ?_
      rintro e v13 ⟨e13, d13, rfl, hown, hU, hf, hnil⟩
      have hU2 := hUp.trans hU
      have hl13 : (L12 ++ b1 xe).length ≤ 3020106 := by rw [List.length_append]; simp only [le_length, tx_len, i4_length, b1, List.length_cons, List.length_nil]; omega
      have hb : ∀ g, blk e13 = some g → B ≤ g := fun g hg => by have := hf g hg; have := hUp.size; have := HBz.out; omega
      obtain ⟨y0, y1, y2, y3⟩ := ch_cells ((hU2.block _ (lt_of_heap HN.out) (fun h => h)).trans HN.out)
      have HQ := Lib.hid (And.intro y0 (And.intro y1 (And.intro y2 y3)))
      generalize hL : L12 ++ b1 xe = L13 at *
      have HL13 := Lib.hid hL
      have HI13 := Lib.hid (And.intro hown (And.intro hU2 hb))
      clear hL hown hU hf hnil hU2 hb hUp hvL y0 y1 y2 y3
      go_wp2_with fail
      refine hK9.out _ _ (.inr HQ.out) ?_
      clear HQ
      refine plan_act rfl (fun K12 hK12 => ?_)
      go_wp2_with fail
      have hUp := HI13.out.2.1
      have hvL := (Vw.of_own HI13.out.1)
      refine (refText_any e13 d13 L13 (str xt) _ hvL (by omega) (by rw [str_size]; omega)).mono ?_
      rintro e v14 ⟨e14, d14, rfl, hown, hU, hf, hnil⟩
      have hU2 := hUp.trans hU
      rw [t4_str] at hown ⊢
      have hl14 : (L13 ++ tx xt).length ≤ 3050106 := by rw [List.length_append]; simp only [le_length, tx_len, i4_length, b1, List.length_cons, List.length_nil]; omega
      have hb : ∀ g, blk e14 = some g → B ≤ g := fun g hg => by have := hf g hg; have := hUp.size; have := HBz.out; omega
      obtain ⟨y0, y1, y2, y3⟩ := ch_cells ((hU2.block _ (lt_of_heap HN.out) (fun h => h)).trans HN.out)
      have HQ := Lib.hid (And.intro y0 (And.intro y1 (And.intro y2 y3)))
      generalize hL : L13 ++ tx xt = L14 at *
      have HL14 := Lib.hid hL
      have HI14 := Lib.hid (And.intro hown (And.intro hU2 hb))
      clear hL hown hU hf hnil hU2 hb hUp hvL y0 y1 y2 y3
      go_wp2_with fail
      refine hK12.out _ _ (.inr HQ.out) ?_
      clear HQ
      iterate 1
        first
        | (refine plan_lskip rfl rfl ?_)
        | (refine plan_last (v := ?_) rfl rfl (fun w' hS => ?_) ?_
           rotate_left
           · skip
             go_simp; try with_reducible rfl)
        simp only [Act.put, List.getElem_toArray, List.getElem_cons_zero, List.getElem_cons_succ, List.setIfInBounds_toArray, List.set_cons_zero, List.set_cons_succ]
      refine plan_end ?_
      have heq : L14 = L3 ++ (c.ch.take (j + 1)).flatMap encCh := by
        rw [← HSU.out, ← HL14.out, ← HL13.out, ← HL12.out, ← HL11.out, HL.out]
        simp [encCh]
      have HEQ := Lib.hid heq
      clear heq
      go_wp2_with fail
      go_roundw
      case rel => exact ⟨j + 1, e14, d14, L14, by omega, by first | rfl | go_num, rfl, HEQ, Lib.hid ⟨HI14.out.1, HUr.out.trans (HAL.out.trans HI14.out.2.1), HI14.out.2.2⟩⟩
      case measure => simp [intOf]; omega
    · obtain rfl : j = c.ch.length := by omega
      have hL := HL.out
      rw [List.take_length] at hL
      have hl4 : L10.length ≤ 2012009 := by
        have := flatMap_len encCh 20110 c.ch (fun x hx => encCh_len x (HSM.out.each x hx))
        rw [hL, List.length_append]
        have h3 : c.ch.length * 20110 ≤ 100 * 20110 := Nat.mul_le_mul_right _ (by omega)
        omega
      have HL4 := Lib.hid hL
      clear hL HL hlt z2
      obtain ⟨e4, he4⟩ : ∃ x, x = e10 := ⟨_, rfl⟩
      obtain ⟨d4, hd4⟩ : ∃ x, x = d10 := ⟨_, rfl⟩
      obtain ⟨L4, hL4⟩ : ∃ x, x = L10 := ⟨_, rfl⟩
      obtain ⟨v4, hv4⟩ : ∃ x, x = wr := ⟨_, rfl⟩
      subst he4 hd4 hL4 hv4
      have HI4 := HIr
      clear HIr
      obtain ⟨z0, z1, z2, z3, z4, z5, z6, z7⟩ := cmd_cells HR0.out HI4.out.2.1
      clear z0 z1 z4 z5 z6 z7
      go_wp2_with fail
      have hvL := Vw.of_own HI4.out.1
      refine (refInt_any e4 d4 L4 (c.ps.length : Int) _ hvL (by omega)).mono ?_
      rintro e v5 ⟨e5, d5, rfl, hown, hU, hf, hnil⟩
      have hU2 := HI4.out.2.1.trans hU
      have hl5 : (L4 ++ i4 (c.ps.length : Int)).length ≤ 2012013 := by rw [List.length_append]; simp only [i4_length]; omega
      have hb : ∀ g, blk e5 = some g → B ≤ g := fun g hg => by have := hf g hg; have := HI4.out.2.1.size; have := HBz.out; omega
      generalize hL : L4 ++ i4 (c.ps.length : Int) = L5 at *
      have HL5 := Lib.hid hL
      have HI5 := Lib.hid (And.intro hown (And.intro hU2 hb))
      clear hL hown hU hf hnil hU2 hb hvL z2 z3
      go_wp2_with fail
      go_loopw [5, 8] (fun v i wr => ∃ (j : Nat) (ar : Option Addr) (cr : Nat) (L : List UInt8), j ≤ c.ps.length ∧ i = .int .i64 (j : Int) ∧ v = .slice ar L.length cr ∧ Hid (L = L5 ++ (c.ps.take j).flatMap tx) ∧ Hid (wr.ownsRow 0 5 1 (.slice ar L.length cr) L.length (bvs L) ∧ Upd (fun _ => False) y0 wr ∧ (∀ g, blk ar = some g → B ≤ g))) (fun _ i _ => c.ps.length - (intOf i).toNat)
      case atStart => exact ⟨0, e5, d5, L5, Nat.zero_le _, rfl, rfl, Lib.hid (by simp), HI5⟩
      case round =>
        clear HI4 HI5
        obtain ⟨j, ar, cr, L, hj, rfl, rfl, HL, HIr⟩ := hrel
        obtain ⟨z0, z1, z2, z3, z4, z5, z6, z7⟩ := cmd_cells HR0.out HIr.out.2.1
        by_cases hlt : j < c.ps.length
        · have hI : (j : Int) < (c.ps.length : Int) := by omega
          have hv := HI.out.ps.upd HIr.out.2.1 (fun _ _ h => h)
          obtain ⟨b, o, hb, hcell⟩ := hv.at (by omega) (by decide)
          clear hv
          rw [hb] at z3 ⊢
          have q := hcell j (sv c.ps[j]) (by simp [hlt])
          have hsucc := flatMap_succ tx c.ps j hlt
          have hx1 := HSM.out.path _ (List.getElem_mem hlt)
          have hpre : L.length ≤ 3000000 := by
            have := flatMap_len tx 104 (c.ps.take j) (fun x hx => by rw [tx_len]; have := HSM.out.path x (List.mem_of_mem_take hx); omega)
            rw [List.length_take] at this
            rw [HL.out, List.length_append]
            have h3 : min j c.ps.length * 104 ≤ 100 * 104 := Nat.mul_le_mul_right _ (by omega)
            omega
          generalize c.ps[j] = x at *
          unfold sv at q
          have HSU := Lib.hid hsucc
          clear hcell hsucc z0 z1 z2 z4 z5 z6 z7 hb
          go_wp2_with fail
          have hvL := Vw.of_own HIr.out.1
          refine (refText_any ar cr L (str x) _ hvL (by omega) (by rw [str_size]; omega)).mono ?_
          rintro e v6 ⟨e6, d6, rfl, hown, hU, hf, hnil⟩
          have hU2 := HIr.out.2.1.trans hU
          have hb : ∀ g, blk e6 = some g → B ≤ g := fun g hg => by have := hf g hg; have := HIr.out.2.1.size; have := HBz.out; omega
          rw [t4_str] at hown ⊢
          have heq : L ++ tx x = L5 ++ (c.ps.take (j + 1)).flatMap tx := by rw [← HSU.out, HL.out, List.append_assoc]
          have HEQ := Lib.hid heq
          have HI6 := Lib.hid (And.intro hown (And.intro hU2 hb))
          generalize L ++ tx x = L6 at *
          clear heq hown hU hf hnil hU2 hb hvL q z3
          go_wp2_with fail
          go_roundw
          case rel => exact ⟨j + 1, e6, d6, L6, by omega, by first | rfl | go_num, rfl, HEQ, HI6⟩
          case measure => simp [intOf]; omega
        · obtain rfl : j = c.ps.length := by omega
          have hL := HL.out
          rw [List.take_length] at hL
          have hl6 : L.length ≤ 2022413 := by
            have := flatMap_len tx 104 c.ps (fun x hx => by rw [tx_len]; have := HSM.out.path x hx; omega)
            rw [hL, List.length_append]
            have h3 : c.ps.length * 104 ≤ 100 * 104 := Nat.mul_le_mul_right _ (by omega)
            omega
          have HL6 := Lib.hid hL
          have HQ := Lib.hid (And.intro z4 (And.intro z5 (And.intro z6 z7)))
          clear hL HL hlt z0 z1 z2 z4 z5 z6 z7
          obtain ⟨e6, he6⟩ : ∃ x, x = ar := ⟨_, rfl⟩
          obtain ⟨d6, hd6⟩ : ∃ x, x = cr := ⟨_, rfl⟩
          obtain ⟨L6, hL6⟩ : ∃ x, x = L := ⟨_, rfl⟩
          obtain ⟨v6, hv6⟩ : ∃ x, x = wr := ⟨_, rfl⟩
          subst he6 hd6 hL6 hv6
          have HI6 := HIr
          clear HIr
          go_upto_region 15 with (fail)
          clear z3
          refine wp_region_plan_last [([0, 1, 2, 5, 6, 9, 10, 13, 14], 3), ([], 4), ([], 7), ([], 8), ([], 11), ([], 12), ([], 15)] [16, 17] (fun w' => w'.cell? ⟨B, 4, none⟩ = some (.int .i64 c.count) ∧ w'.cell? ⟨B, 5, none⟩ = some (.int .i64 c.commit) ∧ w'.cell? ⟨B, 6, none⟩ = some (.int .i64 c.dest) ∧ w'.cell? ⟨B, 7, none⟩ = some (.string (str c.name))) (by kernel_rfl) (by kernel_rfl) HQ.out ?_
          clear HQ
          iterate 9
            first
            | (refine plan_skip rfl rfl ?_)
            | (refine plan_take (v := ?_) rfl rfl (fun w' hS => ?_) ?_
               rotate_left
               · skip
                 go_simp; try with_reducible rfl)
            simp only [Act.put, List.getElem_toArray, List.getElem_cons_zero, List.getElem_cons_succ, List.setIfInBounds_toArray, List.set_cons_zero, List.set_cons_succ]
          refine plan_act rfl (fun K3 hK3 => ?_)
          go_wp2_with fail
          refine (r25held_any c.count _).mono ?_
          rintro e wh ⟨rfl, hwh⟩
          subst hwh
          obtain ⟨z0, z1, z2, z3, z4, z5, z6, z7⟩ := cmd_cells HR0.out (HI6.out.2.1.trans (Upd.drew (fun _ => False) v6))
          have HQ := Lib.hid (And.intro z4 (And.intro z5 (And.intro z6 z7)))
          clear z0 z1 z2 z3 z4 z5 z6 z7
          go_wp2_with fail
          refine hK3.out _ _ (.inr HQ.out) ?_
          clear HQ
          refine plan_act rfl (fun K4 hK4 => ?_)
          go_wp2_with fail
          have hUp := HI6.out.2.1.trans (Upd.drew (fun _ => False) v6)
          have hvL := (Vw.of_own HI6.out.1).upd (Upd.drew (fun _ => False) v6) (fun _ _ h => h)
          refine (refInt_any e6 d6 L6 (heldC c.count) _ hvL (by omega)).mono ?_
          rintro e v7 ⟨e7, d7, rfl, hown, hU, hf, hnil⟩
          have hU2 := hUp.trans hU
          have hl7 : (L6 ++ i4 (heldC c.count)).length ≤ 2022417 := by rw [List.length_append]; simp only [le_length, tx_len, i4_length, b1, List.length_cons, List.length_nil]; omega
          have hb : ∀ g, blk e7 = some g → B ≤ g := fun g hg => by have := hf g hg; have := hUp.size; have := HBz.out; omega
          obtain ⟨z0, z1, z2, z3, z4, z5, z6, z7⟩ := cmd_cells HR0.out hU2
          have HQ := Lib.hid (And.intro z4 (And.intro z5 (And.intro z6 z7)))
          generalize hL : L6 ++ i4 (heldC c.count) = L7 at *
          have HL7 := Lib.hid hL
          have HI7 := Lib.hid (And.intro hown (And.intro hU2 hb))
          clear hL hown hU hf hnil hU2 hb hUp hvL z0 z1 z2 z3 z4 z5 z6 z7
          go_wp2_with fail
          refine hK4.out _ _ (.inr HQ.out) ?_
          clear HQ
          refine plan_act rfl (fun K7 hK7 => ?_)
          go_wp2_with fail
          refine (r25held_any c.commit _).mono ?_
          rintro e wh ⟨rfl, hwh⟩
          subst hwh
          obtain ⟨z0, z1, z2, z3, z4, z5, z6, z7⟩ := cmd_cells HR0.out (HI7.out.2.1)
          have HQ := Lib.hid (And.intro z4 (And.intro z5 (And.intro z6 z7)))
          clear z0 z1 z2 z3 z4 z5 z6 z7
          go_wp2_with fail
          refine hK7.out _ _ (.inr HQ.out) ?_
          clear HQ
          refine plan_act rfl (fun K8 hK8 => ?_)
          go_wp2_with fail
          have hUp := HI7.out.2.1
          have hvL := (Vw.of_own HI7.out.1)
          refine (refInt_any e7 d7 L7 (heldC c.commit) _ hvL (by omega)).mono ?_
          rintro e v8 ⟨e8, d8, rfl, hown, hU, hf, hnil⟩
          have hU2 := hUp.trans hU
          have hl8 : (L7 ++ i4 (heldC c.commit)).length ≤ 2022421 := by rw [List.length_append]; simp only [le_length, tx_len, i4_length, b1, List.length_cons, List.length_nil]; omega
          have hb : ∀ g, blk e8 = some g → B ≤ g := fun g hg => by have := hf g hg; have := hUp.size; have := HBz.out; omega
          obtain ⟨z0, z1, z2, z3, z4, z5, z6, z7⟩ := cmd_cells HR0.out hU2
          have HQ := Lib.hid (And.intro z4 (And.intro z5 (And.intro z6 z7)))
          generalize hL : L7 ++ i4 (heldC c.commit) = L8 at *
          have HL8 := Lib.hid hL
          have HI8 := Lib.hid (And.intro hown (And.intro hU2 hb))
          clear hL hown hU hf hnil hU2 hb hUp hvL z0 z1 z2 z3 z4 z5 z6 z7
          go_wp2_with fail
          refine hK8.out _ _ (.inr HQ.out) ?_
          clear HQ
          refine plan_act rfl (fun K11 hK11 => ?_)
          go_wp2_with fail
          refine (r25held_any c.dest _).mono ?_
          rintro e wh ⟨rfl, hwh⟩
          subst hwh
          obtain ⟨z0, z1, z2, z3, z4, z5, z6, z7⟩ := cmd_cells HR0.out (HI8.out.2.1)
          have HQ := Lib.hid (And.intro z4 (And.intro z5 (And.intro z6 z7)))
          clear z0 z1 z2 z3 z4 z5 z6 z7
          go_wp2_with fail
          refine hK11.out _ _ (.inr HQ.out) ?_
          clear HQ
          refine plan_act rfl (fun K12 hK12 => ?_)
          go_wp2_with fail
          have hUp := HI8.out.2.1
          have hvL := (Vw.of_own HI8.out.1)
          refine (refInt_any e8 d8 L8 (heldC c.dest) _ hvL (by omega)).mono ?_
          rintro e v9 ⟨e9, d9, rfl, hown, hU, hf, hnil⟩
          have hU2 := hUp.trans hU
          have hl9 : (L8 ++ i4 (heldC c.dest)).length ≤ 2022425 := by rw [List.length_append]; simp only [le_length, tx_len, i4_length, b1, List.length_cons, List.length_nil]; omega
          have hb : ∀ g, blk e9 = some g → B ≤ g := fun g hg => by have := hf g hg; have := hUp.size; have := HBz.out; omega
          obtain ⟨z0, z1, z2, z3, z4, z5, z6, z7⟩ := cmd_cells HR0.out hU2
          have HQ := Lib.hid (And.intro z4 (And.intro z5 (And.intro z6 z7)))
          generalize hL : L8 ++ i4 (heldC c.dest) = L9 at *
          have HL9 := Lib.hid hL
          have HI9 := Lib.hid (And.intro hown (And.intro hU2 hb))
          clear hL hown hU hf hnil hU2 hb hUp hvL z0 z1 z2 z3 z4 z5 z6 z7
          go_wp2_with fail
          refine hK12.out _ _ (.inr HQ.out) ?_
          clear HQ
          refine plan_act rfl (fun K15 hK15 => ?_)
          go_wp2_with fail
          have hUp := HI9.out.2.1
          have hvL := (Vw.of_own HI9.out.1)
          refine (refText_any e9 d9 L9 (str c.name) _ hvL (by omega) (by rw [str_size]; omega)).mono ?_
          rintro e v10 ⟨e10, d10, rfl, hown, hU, hf, hnil⟩
          have hU2 := hUp.trans hU
          rw [t4_str] at hown ⊢
          have hl10 : (L9 ++ tx c.name).length ≤ 3122429 := by rw [List.length_append]; simp only [le_length, tx_len, i4_length, b1, List.length_cons, List.length_nil]; omega
          have hb : ∀ g, blk e10 = some g → B ≤ g := fun g hg => by have := hf g hg; have := hUp.size; have := HBz.out; omega
          obtain ⟨z0, z1, z2, z3, z4, z5, z6, z7⟩ := cmd_cells HR0.out hU2
          have HQ := Lib.hid (And.intro z4 (And.intro z5 (And.intro z6 z7)))
          generalize hL : L9 ++ tx c.name = L10 at *
          have HL10 := Lib.hid hL
          have HI10 := Lib.hid (And.intro hown (And.intro hU2 hb))
          clear hL hown hU hf hnil hU2 hb hUp hvL z0 z1 z2 z3 z4 z5 z6 z7
          go_wp2_with fail
          refine hK15.out _ _ (.inr HQ.out) ?_
          clear HQ
          iterate 2
            first
            | (refine plan_lskip rfl rfl ?_)
            | (refine plan_last (v := ?_) rfl rfl (fun w' hS => ?_) ?_
               rotate_left
               · skip
                 go_simp; try with_reducible rfl)
            simp only [Act.put, List.getElem_toArray, List.getElem_cons_zero, List.getElem_cons_succ, List.setIfInBounds_toArray, List.set_cons_zero, List.set_cons_succ]
          refine plan_end ?_
          have hE := HE2.out
          rw [← HL0.out, HL1.out, HL2.out, HL3.out, ← HL4.out, HL5.out, ← HL6.out, HL7.out, HL8.out, HL9.out, HL10.out] at hE
          have HE3 := Lib.hid hE
          clear hE
          go_wp2_with fail
          go_ret2
          obtain ⟨hown, hU, hf⟩ := HI10.out
          unfold Packed
          rw [HE3.out]
          exact ⟨e10, d10, rfl, Vw.of_own hown, (fun g hg => ⟨by have := hf g hg; have := HB.out; omega, (hown.lt g ((own_blk _ _ _).trans hg)).2⟩), HU.out.trans hU⟩
end Go.Proofs.YteefceainlfdfaaDoor
