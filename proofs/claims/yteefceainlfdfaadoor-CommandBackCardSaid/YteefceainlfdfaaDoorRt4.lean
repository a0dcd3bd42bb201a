
/- In the middle of command.Take; its two function literals. -/
import Derived.Test.YteefceainlfdfaaDoorRt3
namespace Go.Proofs.YteefceainlfdfaaDoor
set_option linter.unusedSimpArgs false
set_option linter.unusedVariables false
set_option maxRecDepth 100000
open Go.ChangeShapes Go.WideShapes Go.ChangeAt Go.RowKit

/-- In the middle of command.Take: the result's block, the reader, the block that holds it, the variable r, the command's block. -/
structure TMid (w : World) (br BR B4 BC B2 : Nat) (F : Option Nat) (s : RS) (odd : Bool) (c : Cmd) (a1 : Option Addr) (c1 : Nat) (a2 : Option Addr) (c2 : Nat) (wk : World) : Prop where
  rd : Rd wk br F s.l s.e
  row : wk.heap[BR]? = some (.cells #[.pointer (some ⟨br, 0, none⟩), .bool odd] 93)
  var : wk.heap[B4]? = some (.cells #[.pointer (some ⟨BR, 0, none⟩)] 89)
  cb : CB wk BC c a1 c1 a2 c2
  res : wk.heap[B2]? = some (.cells (cmdA cmdZ none 0 none 0) 25)
  upd : Upd (fun _ => False) w wk
  n1 : br < BR
  n2 : BR < B4
  n3 : B4 < BC
  n4 : B2 < br
  n5 : w.heap.size ≤ B2
  n6 : ∀ g, F = some g → B2 < g ∧ g < br
section
variable {w : World} {br BR B4 BC B2 : Nat} {F : Option Nat} {s s' : RS} {odd : Bool} {c c' : Cmd} {a1 a2 a3 a4 : Option Addr} {c1 c2 c3 c4 : Nat} {wk w' : World}
theorem TMid.read (h : TMid w br BR B4 BC B2 F s odd c a1 c1 a2 c2 wk) (hR : Rd w' br F s'.l s'.e) (hU : Upd (fun k => k = br) wk w') : TMid w br BR B4 BC B2 F s' odd c a1 c1 a2 c2 w' := by
  have h1 := h.n1; have h2 := h.n2; have h3 := h.n3; have h4 := h.n4; have h5 := h.n5
  exact ⟨hR, (hU.block BR (lt_of_heap h.row) (by omega)).trans h.row, (hU.block B4 (lt_of_heap h.var) (by omega)).trans h.var, h.cb.keep hU (fun k e => by omega), (hU.block B2 (lt_of_heap h.res) (by omega)).trans h.res,
    h.upd.next hU (fun i hi e => by omega), h1, h2, h3, h4, h5, h.n6⟩
theorem TMid.wr (h : TMid w br BR B4 BC B2 F s odd c a1 c1 a2 c2 wk) (hc : CB w' BC c' a3 c3 a4 c4) (hU : Upd (fun k => BC ≤ k) wk w') : TMid w br BR B4 BC B2 F s odd c' a3 c3 a4 c4 w' := by
  have h1 := h.n1; have h2 := h.n2; have h3 := h.n3; have h4 := h.n4; have h5 := h.n5
  exact ⟨h.rd.upd hU (by omega) (fun g hg e => by have := h.n6 g hg; omega), (hU.block BR (lt_of_heap h.row) (by omega)).trans h.row, (hU.block B4 (lt_of_heap h.var) (by omega)).trans h.var, hc, (hU.block B2 (lt_of_heap h.res) (by omega)).trans h.res,
    h.upd.next hU (fun i hi e => by omega), h1, h2, h3, h4, h5, h.n6⟩
theorem TMid.same (h : TMid w br BR B4 BC B2 F s odd c a1 c1 a2 c2 wk) (hU : Upd (fun _ => False) wk w') : TMid w br BR B4 BC B2 F s odd c a1 c1 a2 c2 w' :=
  ⟨h.rd.upd hU (fun h => h) (fun _ _ h => h), (hU.block BR (lt_of_heap h.row) (fun h => h)).trans h.row, (hU.block B4 (lt_of_heap h.var) (fun h => h)).trans h.var, h.cb.keep hU (fun k e => e.elim), (hU.block B2 (lt_of_heap h.res) (fun h => h)).trans h.res,
    h.upd.trans hU, h.n1, h.n2, h.n3, h.n4, h.n5, h.n6⟩
theorem TMid.drew (h : TMid w br BR B4 BC B2 F s odd c a1 c1 a2 c2 wk) : TMid w br BR B4 BC B2 F s odd c a1 c1 a2 c2 wk.drew := h.same (Upd.drew _ _)
theorem TMid.setOdd (h : TMid w br BR B4 BC B2 F s odd c a1 c1 a2 c2 wk) (b : Bool) : TMid w br BR B4 BC B2 F s b c a1 c1 a2 c2 (wk.setCell ⟨BR, 1, none⟩ (.bool b)) := by
  have h1 := h.n1; have h2 := h.n2; have h3 := h.n3; have h4 := h.n4; have h5 := h.n5
  have hU := Upd.setCell (S := fun k => k = BR) wk (p := ⟨BR, 1, none⟩) rfl (.bool b)
  exact ⟨h.rd.upd hU (by omega) (fun g hg e => by have := h.n6 g hg; omega), setCell_heap 1 (.bool b) h.row, (hU.block B4 (lt_of_heap h.var) (by omega)).trans h.var, h.cb.keep hU (fun k e => by omega), (hU.block B2 (lt_of_heap h.res) (by omega)).trans h.res,
    h.upd.next hU (fun i hi e => by omega), h1, h2, h3, h4, h5, h.n6⟩
theorem TMid.q4 (h : TMid w br BR B4 BC B2 F s odd c a1 c1 a2 c2 wk) : wk.cell? ⟨B4, 0, none⟩ = some (.pointer (some ⟨BR, 0, none⟩)) := by rw [cell_of_row _ _ _ _ _ _ h.var]; rfl
theorem TMid.q0 (h : TMid w br BR B4 BC B2 F s odd c a1 c1 a2 c2 wk) : wk.cell? ⟨BR, 0, none⟩ = some (.pointer (some ⟨br, 0, none⟩)) := by rw [cell_of_row _ _ _ _ _ _ h.row]; rfl
theorem TMid.q1 (h : TMid w br BR B4 BC B2 F s odd c a1 c1 a2 c2 wk) : wk.cell? ⟨BR, 1, none⟩ = some (.bool odd) := by rw [cell_of_row _ _ _ _ _ _ h.row]; rfl
theorem TMid.fin (h : TMid w br BR B4 BC B2 F s odd c a1 c1 a2 c2 wk) {l : List UInt8} {e0 : Int} (hE : takeE l = e0) (hC : takeC l = cmdZ) :
    TookCmd w (takeC l) (takeE l) (.returned (.tuple #[cmdV cmdZ none 0 none 0, .int .i64 e0])) (wk.setRow B2 (cmdA cmdZ none 0 none 0)) := by
  have h5 := h.n5
  rw [hE, hC]
  exact ⟨none, 0, none, 0, rfl, ⟨Vw.nl _ _, Vw.nl _ _⟩, h.upd.next (Upd.setRow (S := fun k => k = B2) _ rfl _) (fun i hi e => by omega), (fun g e => by cases e), (fun g e => by cases e)⟩
theorem TMid.good (h : TMid w br BR B4 BC B2 F s odd c a1 c1 a2 c2 wk) {l : List UInt8} (hE : takeE l = 0) (hC : takeC l = c) :
    TookCmd w (takeC l) (takeE l) (.returned (.tuple #[cmdV c a1 c1 a2 c2, .int .i64 0])) (wk.setRow B2 (cmdA c a1 c1 a2 c2)) := by
  have h1 := h.n1; have h2 := h.n2; have h3 := h.n3; have h4 := h.n4; have h5 := h.n5
  have hU := Upd.setRow (S := fun k => k = B2) wk rfl (cmdA c a1 c1 a2 c2)
  rw [hE, hC]
  exact ⟨a1, c1, a2, c2, rfl, (h.cb.keep hU (fun k e => by omega)).inn, h.upd.next hU (fun i hi e => by omega), (fun g e => by have := h.cb.f1 g e; omega), (fun g e => by have := h.cb.f2 g e; omega)⟩
end

set_option maxHeartbeats 8000000 in
theorem cTake1_any {w : World} {br BR B4 BC B2 : Nat} {F : Option Nat} {s : RS} {odd : Bool} {c : Cmd} {a1 a2 : Option Addr} {c1 c2 : Nat} {wk : World} (h : TMid w br BR B4 BC B2 F s odd c a1 c1 a2 c2 wk) (hs : s.l.length ≤ 100000000) (hn : c.ch.length ≤ 100000) :
    Calls Tryd.prog 64 #[.pointer (some ⟨BC, 0, none⟩), .pointer (some ⟨B4, 0, none⟩)] wk fun e w' => e = .returned (.tuple #[]) ∧ ∃ a3 c3, TMid w br BR B4 BC B2 F (chgS s).2 odd ⟨c.kind, c.msg, c.ch ++ [(chgS s).1], c.ps, c.count, c.commit, c.dest, c.name⟩ a3 c3 a2 c2 w' := by
  have HI := Lib.hid h
  have HQ := Lib.hid (And.intro h.cb.cells.2.2.1 (And.intro h.q4 h.q0))
  have ht1 := (textS_len2 s).1
  have ht2 := boolS_len2 (textS s).2
  have ht3 := boolS_len2 (boolS (textS s).2).2
  clear h
  go_enter Tryd.func64, Tryd.ntmps64
  go_upto_region 0 with (fail)
  refine wp_region_plan_last [([0, 1, 2, 3, 4, 5, 7, 8, 9, 10, 12, 13, 14, 15, 17, 18, 19, 20], 6), ([], 11), ([], 16), ([], 21), ([22], 23), ([], 24), ([25], 26)] [] (fun w' => w'.cell? ⟨BC, 2, none⟩ = some (.slice a1 c.ch.length c1) ∧ w'.cell? ⟨B4, 0, none⟩ = some (.pointer (some ⟨BR, 0, none⟩)) ∧ w'.cell? ⟨BR, 0, none⟩ = some (.pointer (some ⟨br, 0, none⟩))) (by kernel_rfl) (by kernel_rfl) HQ.out ?_
  iterate 18
    refine plan_take (v := ?_) rfl rfl (fun w' hS => ?_) ?_
    rotate_left
    · skip
      go_simp; try with_reducible rfl
    simp only [Act.put, List.getElem_toArray, List.getElem_cons_zero, List.getElem_cons_succ, List.setIfInBounds_toArray, List.set_cons_zero, List.set_cons_succ]
  clear HQ
  refine plan_act rfl (fun K6 hK6 => ?_)
  go_wp2_with fail
  refine (rtext_any br F s _ HI.out.drew.rd (by omega)).mono ?_
  unfold ReadN
  rintro e u4 ⟨rfl, hR, hU⟩
  have HN4 := Lib.hid (HI.out.drew.read hR hU)
  have HQ := Lib.hid (And.intro HN4.out.cb.cells.2.2.1 (And.intro HN4.out.q4 HN4.out.q0))
  clear hR hU
  go_wp2_with fail
  refine hK6.out _ _ (.inr HQ.out) ?_
  clear HQ
  refine plan_act rfl (fun K11 hK11 => ?_)
  go_wp2_with fail
  refine (rbool_any br F (textS s).2 _ HN4.out.rd (by omega)).mono ?_
  unfold ReadN
  rintro e u5 ⟨rfl, hR, hU⟩
  have HN5 := Lib.hid (HN4.out.read hR hU)
  have HQ := Lib.hid (And.intro HN5.out.cb.cells.2.2.1 (And.intro HN5.out.q4 HN5.out.q0))
  clear hR hU
  go_wp2_with fail
  refine hK11.out _ _ (.inr HQ.out) ?_
  clear HQ
  refine plan_act rfl (fun K16 hK16 => ?_)
  go_wp2_with fail
  refine (rbool_any br F (boolS (textS s).2).2 _ HN5.out.rd (by omega)).mono ?_
  unfold ReadN
  rintro e u6 ⟨rfl, hR, hU⟩
  have HN6 := Lib.hid (HN5.out.read hR hU)
  have HQ := Lib.hid (And.intro HN6.out.cb.cells.2.2.1 (And.intro HN6.out.q4 HN6.out.q0))
  clear hR hU
  go_wp2_with fail
  refine hK16.out _ _ (.inr HQ.out) ?_
  clear HQ
  refine plan_act rfl (fun K21 hK21 => ?_)
  go_wp2_with fail
  refine (rtext_any br F (boolS (boolS (textS s).2).2).2 _ HN6.out.rd (by omega)).mono ?_
  unfold ReadN
  rintro e u7 ⟨rfl, hR, hU⟩
  have HN7 := Lib.hid (HN6.out.read hR hU)
  have HQ := Lib.hid (And.intro HN7.out.cb.cells.2.2.1 (And.intro HN7.out.q4 HN7.out.q0))
  clear hR hU
  obtain ⟨x, s2, hx0, hx1, hx2, hx3, hx4, hx5⟩ := chgS_at s
  rw [hx5] at HN7
  rw [hx1, hx2, hx3, hx4]
  have HX0 := Lib.hid hx0
  clear hx0 hx1 hx2 hx3 hx4 hx5 HN4 HN5 HN6 ht1 ht2 ht3
  go_wp2_with fail
  refine hK21.out _ _ (.inr HQ.out) ?_
  clear HQ
  try simp only [Act.put, List.getElem_toArray, List.getElem_cons_zero, List.getElem_cons_succ, List.setIfInBounds_toArray, List.set_cons_zero, List.set_cons_succ]
  refine plan_take (v := .agg (chA x)) rfl rfl (fun w' hS => exec_build_ch (.tmp 8) (.tmp 13) (.tmp 18) (.tmp 23) rfl x rfl rfl rfl rfl) ?_
  try simp only [Act.put, List.getElem_toArray, List.getElem_cons_zero, List.getElem_cons_succ, List.setIfInBounds_toArray, List.set_cons_zero, List.set_cons_succ]
  refine plan_act rfl (fun K11 hK11 => ?_)
  refine wpList_slice_ch rfl (.tmp 24) rfl x rfl ?_
  have hUb := Upd.alloc (fun _ => False) u7 (.cells (chA x) 30)
  have hsrc : Src Tryd.prog 4 22 (.slice (some ⟨u7.heap.size, 0, none⟩) 1 1) 1 (chV x) (u7.alloc (.cells (chA x) 30)) := one_row Tryd.underlying22 (chA_size x) (chA_one x) (heap_alloc_new u7 (.cells (chA x) 30))
  have hownx := ownsRow_upd HN7.out.cb.ch hUb (fun _ _ h => h)
  have HS7 := HN7.out.same hUb
  have hq7 := And.intro HS7.cb.cells.2.2.1 (And.intro HS7.q4 HS7.q0)
  go_wp2_with fail
  refine hK11.out _ _ (.inr hq7) ?_
  refine plan_act rfl (fun K12 hK12 => ?_)
  obtain ⟨i0, hi, hz0, hz1, hz2⟩ := info_parts2 infoChZ
  try simp only [Act.put, List.getElem_toArray, List.getElem_cons_zero, List.getElem_cons_succ, List.setIfInBounds_toArray, List.set_cons_zero, List.set_cons_succ]
  refine wpList_app _ rfl (.tmp 3) (.tmp 25) 22 22 rfl 30 i0 (.agg (chA chZ)) 4 40 Tryd.underlying22 hi hz0 hz1 hz2 (chA_size chZ) a1 c.ch.length c1 (c.ch.flatMap chV) rfl hownx (.slice (some ⟨u7.heap.size, 0, none⟩) 1 1) 1 (chV x) rfl hsrc ?_ ?_ ?_
  · unfold maxLen; omega
  · omega
  clear hi hz0 hz1 hz2
  intro a8 c8 w8 hown8 hg8 hat8 hnil8
  obtain ⟨hcb, hUp, hq8, hf8⟩ := HN7.out.cb.addCh x hown8 hg8 hat8
  have HM8 := Lib.hid (HN7.out.wr hcb hUp)
  have hB1 := HN7.out.n2
  have hB2 := HN7.out.n3
  have hg81 : ∀ k, k < BC → k < u7.heap.size → w8.heap[k]? = u7.heap[k]? := fun k hk hk2 =>
    ((Upd.grown (S := fun k => blk a1 = some k) hg8 (fun k hk => hk)).block k (by have := hUb.size; omega) (fun e => by have := HN7.out.cb.f1 k e; omega)).trans (hUb.block k hk2 (fun e => e))
  have hv4 := (hg81 B4 hB2 (lt_of_heap HN7.out.var)).trans HN7.out.var
  have hvR := (hg81 BR (by omega) (lt_of_heap HN7.out.row)).trans HN7.out.row
  have hp4 : w8.cell? ⟨B4, 0, none⟩ = some (.pointer (some ⟨BR, 0, none⟩)) := by rw [cell_of_row _ _ _ _ _ _ hv4]; rfl
  have hpR : w8.cell? ⟨BR, 0, none⟩ = some (.pointer (some ⟨br, 0, none⟩)) := by rw [cell_of_row _ _ _ _ _ _ hvR]; rfl
  clear hown8 hg8 hat8 hnil8 hcb hUp hownx hsrc hUb hq7 HS7 hB1 hB2 hg81 hv4 hvR
  have HQ8 := Lib.hid (And.intro hq8 (And.intro hp4 hpR))
  clear hp4 hpR
  go_wp2_with fail
  refine hK12.out _ _ (.inr HQ8.out) ?_
  try simp only [Act.put, List.getElem_toArray, List.getElem_cons_zero, List.getElem_cons_succ, List.setIfInBounds_toArray, List.set_cons_zero, List.set_cons_succ]
  iterate 1
    refine plan_take (v := ?_) rfl rfl (fun w' hS => ?_) ?_
    rotate_left
    · skip
      go_simp; try with_reducible rfl
    simp only [Act.put, List.getElem_toArray, List.getElem_cons_zero, List.getElem_cons_succ, List.setIfInBounds_toArray, List.set_cons_zero, List.set_cons_succ]
  refine plan_act rfl (fun K14 hK14 => ?_)
  go_wp2_with fail
  refine hK14.out _ _ (.inl rfl) ?_
  refine plan_end ?_
  go_wp2_with fail
  go_end0
  exact ⟨rfl, a8, c8, by rw [HX0.out]; exact HM8.out⟩

set_option maxHeartbeats 8000000 in
theorem cTake2_any {w : World} {br BR B4 BC B2 : Nat} {F : Option Nat} {s : RS} {odd : Bool} {c : Cmd} {a1 a2 : Option Addr} {c1 c2 : Nat} {wk : World} (h : TMid w br BR B4 BC B2 F s odd c a1 c1 a2 c2 wk) (hs : s.l.length ≤ 100000000) (hn : c.ps.length ≤ 100000) :
    Calls Tryd.prog 66 #[.pointer (some ⟨BC, 0, none⟩), .pointer (some ⟨B4, 0, none⟩)] wk fun e w' => e = .returned (.tuple #[]) ∧ ∃ a3 c3, TMid w br BR B4 BC B2 F (textS s).2 odd ⟨c.kind, c.msg, c.ch, c.ps ++ [(textS s).1], c.count, c.commit, c.dest, c.name⟩ a1 c1 a3 c3 w' := by
  have HI := Lib.hid h
  have HQ := Lib.hid (And.intro h.cb.cells.2.2.2.1 (And.intro h.q4 h.q0))
  clear h
  go_enter Tryd.func66, Tryd.ntmps66
  go_upto_region 0 with (fail)
  refine wp_region_plan_last [([0, 1, 2, 3, 4, 5], 6), ([], 7), ([], 8), ([9], 10)] [] (fun w' => w'.cell? ⟨BC, 3, none⟩ = some (.slice a2 c.ps.length c2) ∧ w'.cell? ⟨B4, 0, none⟩ = some (.pointer (some ⟨BR, 0, none⟩)) ∧ w'.cell? ⟨BR, 0, none⟩ = some (.pointer (some ⟨br, 0, none⟩))) (by kernel_rfl) (by kernel_rfl) HQ.out ?_
  iterate 6
    refine plan_take (v := ?_) rfl rfl (fun w' hS => ?_) ?_
    rotate_left
    · skip
      go_simp; try with_reducible rfl
    simp only [Act.put, List.getElem_toArray, List.getElem_cons_zero, List.getElem_cons_succ, List.setIfInBounds_toArray, List.set_cons_zero, List.set_cons_succ]
  clear HQ
  refine plan_act rfl (fun K6 hK6 => ?_)
  go_wp2_with fail
  refine (rtext_any br F s _ HI.out.drew.rd (by omega)).mono ?_
  unfold ReadN
  rintro e u7 ⟨rfl, hR, hU⟩
  have HN7 := Lib.hid (HI.out.drew.read hR hU)
  have HQ := Lib.hid (And.intro HN7.out.cb.cells.2.2.2.1 (And.intro HN7.out.q4 HN7.out.q0))
  clear hR hU
  obtain ⟨x, hx⟩ : ∃ x, x = (textS s).1 := ⟨_, rfl⟩
  have HX := Lib.hid hx
  rw [← hx]
  clear hx
  go_wp2_with fail
  refine hK6.out _ _ (.inr HQ.out) ?_
  clear HQ
  try simp only [Act.put, List.getElem_toArray, List.getElem_cons_zero, List.getElem_cons_succ, List.setIfInBounds_toArray, List.set_cons_zero, List.set_cons_succ]
  refine plan_act rfl (fun K11 hK11 => ?_)
  refine wpList_slice_str rfl (.tmp 8) rfl x rfl ?_
  have hUb := Upd.alloc (fun _ => False) u7 (.cells #[.string (str x)] 9)
  have hsrc : Src Tryd.prog 1 23 (.slice (some ⟨u7.heap.size, 0, none⟩) 1 1) 1 [sv x] (u7.alloc (.cells #[.string (str x)] 9)) := one_row (X := #[.string (str x)]) Tryd.underlying23 rfl (by simp [Value.oneCell']) (heap_alloc_new u7 (.cells #[.string (str x)] 9))
  have hownx := ownsRow_upd HN7.out.cb.ps hUb (fun _ _ h => h)
  have HS7 := HN7.out.same hUb
  have hq7 := And.intro HS7.cb.cells.2.2.2.1 (And.intro HS7.q4 HS7.q0)
  go_wp2_with fail
  refine hK11.out _ _ (.inr hq7) ?_
  refine plan_act rfl (fun K12 hK12 => ?_)
  obtain ⟨i0, hi, hz0, hz1, hz2⟩ := info_parts2 infoStrZ
  try simp only [Act.put, List.getElem_toArray, List.getElem_cons_zero, List.getElem_cons_succ, List.setIfInBounds_toArray, List.set_cons_zero, List.set_cons_succ]
  refine wpList_app _ rfl (.tmp 3) (.tmp 9) 23 23 rfl 9 i0 (.string (str [])) 1 16 Tryd.underlying23 hi hz0 hz1 hz2 rfl a2 c.ps.length c2 (c.ps.map sv) rfl hownx (.slice (some ⟨u7.heap.size, 0, none⟩) 1 1) 1 [sv x] rfl hsrc ?_ ?_ ?_
  · unfold maxLen; omega
  · omega
  clear hi hz0 hz1 hz2
  intro a8 c8 w8 hown8 hg8 hat8 hnil8
  obtain ⟨hcb, hUp, hq8, hf8⟩ := HN7.out.cb.addPs x hown8 hg8 hat8
  have HM8 := Lib.hid (HN7.out.wr hcb hUp)
  have hB1 := HN7.out.n2
  have hB2 := HN7.out.n3
  have hg81 : ∀ k, k < BC → k < u7.heap.size → w8.heap[k]? = u7.heap[k]? := fun k hk hk2 =>
    ((Upd.grown (S := fun k => blk a2 = some k) hg8 (fun k hk => hk)).block k (by have := hUb.size; omega) (fun e => by have := HN7.out.cb.f2 k e; omega)).trans (hUb.block k hk2 (fun e => e))
  have hv4 := (hg81 B4 hB2 (lt_of_heap HN7.out.var)).trans HN7.out.var
  have hvR := (hg81 BR (by omega) (lt_of_heap HN7.out.row)).trans HN7.out.row
  have hp4 : w8.cell? ⟨B4, 0, none⟩ = some (.pointer (some ⟨BR, 0, none⟩)) := by rw [cell_of_row _ _ _ _ _ _ hv4]; rfl
  have hpR : w8.cell? ⟨BR, 0, none⟩ = some (.pointer (some ⟨br, 0, none⟩)) := by rw [cell_of_row _ _ _ _ _ _ hvR]; rfl
  clear hown8 hg8 hat8 hnil8 hcb hUp hownx hsrc hUb hq7 HS7 hB1 hB2 hg81 hv4 hvR
  have HQ8 := Lib.hid (And.intro hq8 (And.intro hp4 hpR))
  clear hp4 hpR
  go_wp2_with fail
  refine hK12.out _ _ (.inr HQ8.out) ?_
  try simp only [Act.put, List.getElem_toArray, List.getElem_cons_zero, List.getElem_cons_succ, List.setIfInBounds_toArray, List.set_cons_zero, List.set_cons_succ]
  iterate 1
    refine plan_take (v := ?_) rfl rfl (fun w' hS => ?_) ?_
    rotate_left
    · skip
      go_simp; try with_reducible rfl
    simp only [Act.put, List.getElem_toArray, List.getElem_cons_zero, List.getElem_cons_succ, List.setIfInBounds_toArray, List.set_cons_zero, List.set_cons_succ]
  refine plan_act rfl (fun K14 hK14 => ?_)
  go_wp2_with fail
  refine hK14.out _ _ (.inl rfl) ?_
  refine plan_end ?_
  go_wp2_with fail
  go_end0
  exact ⟨rfl, a8, c8, by rw [← HX.out]; exact HM8.out⟩
end Go.Proofs.YteefceainlfdfaaDoor
