/- The walk of DigestOrder. -/
import Derived.Test.YtafkcmgfkecljaaKey5
import Derived.Test.YtafkcmgfkecljaaFrame
namespace Go.Proofs.Ytafkcmgfkecljaa
set_option linter.unusedSimpArgs false
set_option linter.unusedVariables false
open Go.ChangeShapes Go.WideShapes Go.ChangeAt Go.RowKit

/-- Two names, laid behind one another. -/
structure Two (w : World) (B : Nat) (kx ky : Array Value) : Prop where
  a : w.heap[B]? = some (.cells kx 32 (0, 0))
  b : w.heap[B + 1]? = some (.cells ky 32 (0, 0))
theorem Two.upd {w w' : World} {B : Nat} {kx ky : Array Value} (h : Two w B kx ky) (hU : Upd (fun _ => False) w w') : Two w' B kx ky :=
  ⟨(hU.block _ (lt_of_heap h.a) (fun h => h)).trans h.a, (hU.block _ (lt_of_heap h.b) (fun h => h)).trans h.b⟩
theorem Two.new (w : World) (kx ky : Array Value) : Two ((w.alloc (Obj.cells kx 32)).alloc (Obj.cells ky 32)) w.heap.size kx ky := by
  refine ⟨(Below.heap_alloc _ _ _ (by simp)).trans (heap_alloc_new _ _), ?_⟩
  have := heap_alloc_new (w.alloc (Obj.cells kx 32)) (Obj.cells ky 32)
  simpa using this
theorem key_info (x : List UInt8) (hx : x.length = 32) : (Try.prog.info? 32).map (·.size) = some (bvs x).toArray.size := by
  rw [show (Try.prog.info? 32).map (·.size) = some 32 from by kernel_rfl]; simp [bvs, hx]

set_option maxRecDepth 100000 in
set_option maxHeartbeats 4000000 in
theorem DigestOrder_walk (w : World) (x : List UInt8) (hx : x.length = 32) (y : List UInt8) (hy : y.length = 32) :
    Calls Try.prog 6 #[.agg (bvs x).toArray, .agg (bvs y).toArray] w fun e w' => e = .returned (.bool true) ∧ Below w.heap.size w w' := by
  have hL1 := fun w => less_any x y w hx hy
  have hL2 := fun w => less_any y x w hy hx
  have hH1 := fun w => hex_any x w hx
  have hH2 := fun w => hex_any y w hy
  have hbo := less_both x y
  have hei := less_either x y
  have hlh := less_hex x y (hx.trans hy.symm)
  have hne := fun w => key_neq x y hx hy w
  have hikx := key_info x hx
  have hiky := key_info y hy
  generalize lessL x y = p at *
  generalize lessL y x = q at *
  generalize (x == y) = r at *
  obtain ⟨kx, hkx⟩ : ∃ kx, (bvs x).toArray = kx := ⟨_, rfl⟩
  obtain ⟨ky, hky⟩ : ∃ ky, (bvs y).toArray = ky := ⟨_, rfl⟩
  rw [hkx] at hL1 hL2 hH1 hne hikx ⊢
  rw [hky] at hL1 hL2 hH2 hne hiky ⊢
  clear hkx hky
  have HBO := Lib.hid hbo
  have HEI := Lib.hid hei
  have HLH := Lib.hid hlh
  have HX := Lib.hid hx
  have HY := Lib.hid hy
  clear hbo hei hlh hx hy
  go_enter Try.func6, Try.ntmps6
  go_upto_region 1 with (fail)
  have hT := Two.new w kx ky
  have hU0 : Upd (fun i => w.heap.size ≤ i) w ((w.alloc (Obj.cells kx 32)).alloc (Obj.cells ky 32)) := (Upd.alloc _ _ _).trans (Upd.alloc _ _ _)
  generalize (w.alloc (Obj.cells kx 32)).alloc (Obj.cells ky 32) = w1 at *
  obtain ⟨B, hB⟩ : ∃ B, w.heap.size = B := ⟨_, rfl⟩
  rw [hB] at hT hU0 ⊢
  have HB := Lib.hid hB
  clear hB
  refine wp_region_plan_last [([0, 1, 3, 4], 2), ([], 5)] [6, 7] (fun w' => Two w' B kx ky) (by kernel_rfl) (by kernel_rfl) (hT.upd (Upd.drew (fun _ => False) _)) ?_
  refine plan_take (v := .agg kx) rfl rfl (fun w' hS => exec_load_row 32 (.tmp 2) rfl B kx 32 (0, 0) _ rfl hS.a Try.underlying32 rfl hikx) ?_
  simp only [Act.put, List.getElem_toArray, List.getElem_cons_zero, List.getElem_cons_succ, List.setIfInBounds_toArray, List.set_cons_zero, List.set_cons_succ]
  refine plan_take (v := .agg ky) rfl rfl (fun w' hS => exec_load_row 32 (.tmp 3) rfl (B + 1) ky 32 (0, 0) _ rfl hS.b Try.underlying32 rfl hiky) ?_
  simp only [Act.put, List.getElem_toArray, List.getElem_cons_zero, List.getElem_cons_succ, List.setIfInBounds_toArray, List.set_cons_zero, List.set_cons_succ]
  refine plan_take (v := .agg ky) rfl rfl (fun w' hS => exec_load_row 32 (.tmp 3) rfl (B + 1) ky 32 (0, 0) _ rfl hS.b Try.underlying32 rfl hiky) ?_
  simp only [Act.put, List.getElem_toArray, List.getElem_cons_zero, List.getElem_cons_succ, List.setIfInBounds_toArray, List.set_cons_zero, List.set_cons_succ]
  refine plan_take (v := .agg kx) rfl rfl (fun w' hS => exec_load_row 32 (.tmp 2) rfl B kx 32 (0, 0) _ rfl hS.a Try.underlying32 rfl hikx) ?_
  simp only [Act.put, List.getElem_toArray, List.getElem_cons_zero, List.getElem_cons_succ, List.setIfInBounds_toArray, List.set_cons_zero, List.set_cons_succ]
  refine plan_act rfl (fun KK hKK => ?_)
  go_wp2_with fail
  refine (hL1 _).mono ?_
  rintro e w2 ⟨rfl, hU1⟩
  have hT2 := (hT.upd (Upd.drew (fun _ => False) _)).upd hU1
  go_wp2_with fail
  refine hKK.out _ _ (.inr hT2) ?_
  refine plan_act rfl (fun KK hKK => ?_)
  go_wp2_with fail
  refine (hL2 _).mono ?_
  rintro e w3 ⟨rfl, hU2⟩
  have hT3 := hT2.upd hU2
  go_wp2_with fail
  refine hKK.out _ _ (.inr hT3) ?_
  iterate 2
    first
    | (refine plan_lskip rfl rfl ?_)
    | (refine plan_last (v := ?_) rfl rfl (fun w' hS => ?_) ?_
       rotate_left
       · skip
         go_simp; try with_reducible rfl)
    simp only [Act.put, List.getElem_toArray, List.getElem_cons_zero, List.getElem_cons_succ, List.setIfInBounds_toArray, List.set_cons_zero, List.set_cons_succ]
  refine plan_end ?_
  have hU3 := (hU0.trans (Upd.drew _ _)).trans ((hU1.trans hU2).mono (fun _ _ h => h.elim))
  clear hT hT2 hU0 hU1 hU2
  go_upto_region 2 with (fail)

  cases p <;> cases q
  · obtain rfl : r = true := by have := HEI.out; cases r <;> simp_all
    have hlh := HLH.out
    refine wp_region_plan_last [([], 0), ([1, 2, 3, 4, 5, 6, 7, 8, 9, 10, 11, 12, 13, 14, 15, 16, 17, 18, 19, 20, 22], 21), ([], 23)] [24, 25, 26, 27] (fun w' => Two w' B kx ky) (by kernel_rfl) (by kernel_rfl) (hT3.upd (Upd.drew (fun _ => False) _)) ?_
    refine plan_act rfl (fun KK hKK => ?_)
    go_wp2_with fail
    refine (awake02_any _).mono ?_
    rintro e w4 ⟨rfl, hU4⟩
    have hT4 := (hT3.upd (Upd.drew (fun _ => False) _)).upd hU4
    go_wp2_with fail
    refine hKK.out _ _ (.inr hT4) ?_
    iterate 12
      first
      | (refine plan_skip rfl rfl ?_)
      | (refine plan_take (v := ?_) rfl rfl (fun w' hS => ?_) ?_
         rotate_left
         · skip
           go_simp; try with_reducible rfl)
      simp only [Act.put, List.getElem_toArray, List.getElem_cons_zero, List.getElem_cons_succ, List.setIfInBounds_toArray, List.set_cons_zero, List.set_cons_succ]
    refine plan_take (v := .agg kx) rfl rfl (fun w' hS => exec_load_row 32 (.tmp 2) rfl B kx 32 (0, 0) _ rfl hS.a Try.underlying32 rfl hikx) ?_
    simp only [Act.put, List.getElem_toArray, List.getElem_cons_zero, List.getElem_cons_succ, List.setIfInBounds_toArray, List.set_cons_zero, List.set_cons_succ]
    refine plan_take (v := .agg ky) rfl rfl (fun w' hS => exec_load_row 32 (.tmp 3) rfl (B + 1) ky 32 (0, 0) _ rfl hS.b Try.underlying32 rfl hiky) ?_
    simp only [Act.put, List.getElem_toArray, List.getElem_cons_zero, List.getElem_cons_succ, List.setIfInBounds_toArray, List.set_cons_zero, List.set_cons_succ]
    iterate 5
      first
      | (refine plan_skip rfl rfl ?_)
      | (refine plan_take (v := ?_) rfl rfl (fun w' hS => ?_) ?_
         rotate_left
         · skip
           go_simp; try with_reducible rfl)
      simp only [Act.put, List.getElem_toArray, List.getElem_cons_zero, List.getElem_cons_succ, List.setIfInBounds_toArray, List.set_cons_zero, List.set_cons_succ]
    refine plan_take (v := .agg kx) rfl rfl (fun w' hS => exec_load_row 32 (.tmp 2) rfl B kx 32 (0, 0) _ rfl hS.a Try.underlying32 rfl hikx) ?_
    simp only [Act.put, List.getElem_toArray, List.getElem_cons_zero, List.getElem_cons_succ, List.setIfInBounds_toArray, List.set_cons_zero, List.set_cons_succ]
    refine plan_take (v := .agg ky) rfl rfl (fun w' hS => exec_load_row 32 (.tmp 3) rfl (B + 1) ky 32 (0, 0) _ rfl hS.b Try.underlying32 rfl hiky) ?_
    simp only [Act.put, List.getElem_toArray, List.getElem_cons_zero, List.getElem_cons_succ, List.setIfInBounds_toArray, List.set_cons_zero, List.set_cons_succ]
    refine plan_act rfl (fun KK hKK => ?_)
    go_wp2_with fail
    refine (hH1 _).mono ?_
    rintro e w5 ⟨rfl, hU5⟩
    have hT5 := hT4.upd hU5
    go_wp2_with fail
    refine hKK.out _ _ (.inr hT5) ?_
    refine plan_act rfl (fun KK hKK => ?_)
    go_wp2_with fail
    refine (hH2 _).mono ?_
    rintro e w6 ⟨rfl, hU6⟩
    have hT6 := hT5.upd hU6
    go_wp2_with fail
    refine hKK.out _ _ (.inr hT6) ?_
    iterate 4
      first
      | (refine plan_lskip rfl rfl ?_)
      | (refine plan_last (v := ?_) rfl rfl (fun w' hS => ?_) ?_
         rotate_left
         · skip
           go_simp; try with_reducible rfl)
      simp only [Act.put, List.getElem_toArray, List.getElem_cons_zero, List.getElem_cons_succ, List.setIfInBounds_toArray, List.set_cons_zero, List.set_cons_succ]
    refine plan_end ?_
    go_wp2_with fail
    go_ret
    refine ⟨rfl, ?_⟩
    have hU7 := ((hU3.trans (Upd.drew _ _)).trans ((hU4.trans hU5).mono (fun _ _ h => h.elim))).trans (hU6.mono (fun _ _ h => h.elim))
    exact hU7.below (Nat.le_refl _) (fun i hi hs => by have := HB.out; omega)
  · obtain rfl : r = false := by have := HEI.out; cases r <;> simp_all
    have hlh := HLH.out
    refine wp_region_plan_last [([], 0), ([1, 2, 3, 4, 5, 6, 7, 8, 9, 10, 11, 12, 13, 14, 15, 16, 17, 18, 19, 20, 22], 21), ([], 23)] [24, 25, 26, 27] (fun w' => Two w' B kx ky) (by kernel_rfl) (by kernel_rfl) (hT3.upd (Upd.drew (fun _ => False) _)) ?_
    refine plan_act rfl (fun KK hKK => ?_)
    go_wp2_with fail
    refine (awake02_any _).mono ?_
    rintro e w4 ⟨rfl, hU4⟩
    have hT4 := (hT3.upd (Upd.drew (fun _ => False) _)).upd hU4
    go_wp2_with fail
    refine hKK.out _ _ (.inr hT4) ?_
    iterate 12
      first
      | (refine plan_skip rfl rfl ?_)
      | (refine plan_take (v := ?_) rfl rfl (fun w' hS => ?_) ?_
         rotate_left
         · skip
           go_simp; try with_reducible rfl)
      simp only [Act.put, List.getElem_toArray, List.getElem_cons_zero, List.getElem_cons_succ, List.setIfInBounds_toArray, List.set_cons_zero, List.set_cons_succ]
    refine plan_take (v := .agg kx) rfl rfl (fun w' hS => exec_load_row 32 (.tmp 2) rfl B kx 32 (0, 0) _ rfl hS.a Try.underlying32 rfl hikx) ?_
    simp only [Act.put, List.getElem_toArray, List.getElem_cons_zero, List.getElem_cons_succ, List.setIfInBounds_toArray, List.set_cons_zero, List.set_cons_succ]
    refine plan_take (v := .agg ky) rfl rfl (fun w' hS => exec_load_row 32 (.tmp 3) rfl (B + 1) ky 32 (0, 0) _ rfl hS.b Try.underlying32 rfl hiky) ?_
    simp only [Act.put, List.getElem_toArray, List.getElem_cons_zero, List.getElem_cons_succ, List.setIfInBounds_toArray, List.set_cons_zero, List.set_cons_succ]
    iterate 5
      first
      | (refine plan_skip rfl rfl ?_)
      | (refine plan_take (v := ?_) rfl rfl (fun w' hS => ?_) ?_
         rotate_left
         · skip
           go_simp; try with_reducible rfl)
      simp only [Act.put, List.getElem_toArray, List.getElem_cons_zero, List.getElem_cons_succ, List.setIfInBounds_toArray, List.set_cons_zero, List.set_cons_succ]
    refine plan_take (v := .agg kx) rfl rfl (fun w' hS => exec_load_row 32 (.tmp 2) rfl B kx 32 (0, 0) _ rfl hS.a Try.underlying32 rfl hikx) ?_
    simp only [Act.put, List.getElem_toArray, List.getElem_cons_zero, List.getElem_cons_succ, List.setIfInBounds_toArray, List.set_cons_zero, List.set_cons_succ]
    refine plan_take (v := .agg ky) rfl rfl (fun w' hS => exec_load_row 32 (.tmp 3) rfl (B + 1) ky 32 (0, 0) _ rfl hS.b Try.underlying32 rfl hiky) ?_
    simp only [Act.put, List.getElem_toArray, List.getElem_cons_zero, List.getElem_cons_succ, List.setIfInBounds_toArray, List.set_cons_zero, List.set_cons_succ]
    refine plan_act rfl (fun KK hKK => ?_)
    go_wp2_with fail
    refine (hH1 _).mono ?_
    rintro e w5 ⟨rfl, hU5⟩
    have hT5 := hT4.upd hU5
    go_wp2_with fail
    refine hKK.out _ _ (.inr hT5) ?_
    refine plan_act rfl (fun KK hKK => ?_)
    go_wp2_with fail
    refine (hH2 _).mono ?_
    rintro e w6 ⟨rfl, hU6⟩
    have hT6 := hT5.upd hU6
    go_wp2_with fail
    refine hKK.out _ _ (.inr hT6) ?_
    iterate 4
      first
      | (refine plan_lskip rfl rfl ?_)
      | (refine plan_last (v := ?_) rfl rfl (fun w' hS => ?_) ?_
         rotate_left
         · skip
           go_simp; try with_reducible rfl)
      simp only [Act.put, List.getElem_toArray, List.getElem_cons_zero, List.getElem_cons_succ, List.setIfInBounds_toArray, List.set_cons_zero, List.set_cons_succ]
    refine plan_end ?_
    go_wp2_with fail
    go_ret
    refine ⟨rfl, ?_⟩
    have hU7 := ((hU3.trans (Upd.drew _ _)).trans ((hU4.trans hU5).mono (fun _ _ h => h.elim))).trans (hU6.mono (fun _ _ h => h.elim))
    exact hU7.below (Nat.le_refl _) (fun i hi hs => by have := HB.out; omega)
  · obtain rfl : r = false := by have := HEI.out; cases r <;> simp_all
    have hlh := HLH.out
    refine wp_region_plan_last [([], 0), ([1, 2, 3, 4, 5, 6, 7, 8, 9, 10, 11, 12, 13, 14, 15, 16, 17, 18, 19, 20, 22], 21), ([], 23)] [24, 25, 26, 27] (fun w' => Two w' B kx ky) (by kernel_rfl) (by kernel_rfl) (hT3.upd (Upd.drew (fun _ => False) _)) ?_
    refine plan_act rfl (fun KK hKK => ?_)
    go_wp2_with fail
    refine (awake02_any _).mono ?_
    rintro e w4 ⟨rfl, hU4⟩
    have hT4 := (hT3.upd (Upd.drew (fun _ => False) _)).upd hU4
    go_wp2_with fail
    refine hKK.out _ _ (.inr hT4) ?_
    iterate 12
      first
      | (refine plan_skip rfl rfl ?_)
      | (refine plan_take (v := ?_) rfl rfl (fun w' hS => ?_) ?_
         rotate_left
         · skip
           go_simp; try with_reducible rfl)
      simp only [Act.put, List.getElem_toArray, List.getElem_cons_zero, List.getElem_cons_succ, List.setIfInBounds_toArray, List.set_cons_zero, List.set_cons_succ]
    refine plan_take (v := .agg kx) rfl rfl (fun w' hS => exec_load_row 32 (.tmp 2) rfl B kx 32 (0, 0) _ rfl hS.a Try.underlying32 rfl hikx) ?_
    simp only [Act.put, List.getElem_toArray, List.getElem_cons_zero, List.getElem_cons_succ, List.setIfInBounds_toArray, List.set_cons_zero, List.set_cons_succ]
    refine plan_take (v := .agg ky) rfl rfl (fun w' hS => exec_load_row 32 (.tmp 3) rfl (B + 1) ky 32 (0, 0) _ rfl hS.b Try.underlying32 rfl hiky) ?_
    simp only [Act.put, List.getElem_toArray, List.getElem_cons_zero, List.getElem_cons_succ, List.setIfInBounds_toArray, List.set_cons_zero, List.set_cons_succ]
    iterate 5
      first
      | (refine plan_skip rfl rfl ?_)
      | (refine plan_take (v := ?_) rfl rfl (fun w' hS => ?_) ?_
         rotate_left
         · skip
           go_simp; try with_reducible rfl)
      simp only [Act.put, List.getElem_toArray, List.getElem_cons_zero, List.getElem_cons_succ, List.setIfInBounds_toArray, List.set_cons_zero, List.set_cons_succ]
    refine plan_take (v := .agg kx) rfl rfl (fun w' hS => exec_load_row 32 (.tmp 2) rfl B kx 32 (0, 0) _ rfl hS.a Try.underlying32 rfl hikx) ?_
    simp only [Act.put, List.getElem_toArray, List.getElem_cons_zero, List.getElem_cons_succ, List.setIfInBounds_toArray, List.set_cons_zero, List.set_cons_succ]
    refine plan_take (v := .agg ky) rfl rfl (fun w' hS => exec_load_row 32 (.tmp 3) rfl (B + 1) ky 32 (0, 0) _ rfl hS.b Try.underlying32 rfl hiky) ?_
    simp only [Act.put, List.getElem_toArray, List.getElem_cons_zero, List.getElem_cons_succ, List.setIfInBounds_toArray, List.set_cons_zero, List.set_cons_succ]
    refine plan_act rfl (fun KK hKK => ?_)
    go_wp2_with fail
    refine (hH1 _).mono ?_
    rintro e w5 ⟨rfl, hU5⟩
    have hT5 := hT4.upd hU5
    go_wp2_with fail
    refine hKK.out _ _ (.inr hT5) ?_
    refine plan_act rfl (fun KK hKK => ?_)
    go_wp2_with fail
    refine (hH2 _).mono ?_
    rintro e w6 ⟨rfl, hU6⟩
    have hT6 := hT5.upd hU6
    go_wp2_with fail
    refine hKK.out _ _ (.inr hT6) ?_
    iterate 4
      first
      | (refine plan_lskip rfl rfl ?_)
      | (refine plan_last (v := ?_) rfl rfl (fun w' hS => ?_) ?_
         rotate_left
         · skip
           go_simp; try with_reducible rfl)
      simp only [Act.put, List.getElem_toArray, List.getElem_cons_zero, List.getElem_cons_succ, List.setIfInBounds_toArray, List.set_cons_zero, List.set_cons_succ]
    refine plan_end ?_
    go_wp2_with fail
    go_ret
    refine ⟨rfl, ?_⟩
    have hU7 := ((hU3.trans (Upd.drew _ _)).trans ((hU4.trans hU5).mono (fun _ _ h => h.elim))).trans (hU6.mono (fun _ _ h => h.elim))
    exact hU7.below (Nat.le_refl _) (fun i hi hs => by have := HB.out; omega)
  · have := HBO.out; simp at this

end Go.Proofs.Ytafkcmgfkecljaa
